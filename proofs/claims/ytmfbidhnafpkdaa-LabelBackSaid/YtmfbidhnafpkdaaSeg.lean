import Derived.Test.YtmfbidhnafpkdaaOrd
/-! Parts of a list that are put in order. -/
namespace Go.Proofs.Ytmfbidhnafpkdaa
open Go.RowKit
set_option linter.unusedVariables false
set_option linter.unusedSimpArgs false
/-- No farther than the other, by its name. -/
def leN (x y : Par) : Prop := cmpB x.a y.a ≤ 0
theorem leN.trans {x y z : Par} (h : leN x y) (k : leN y z) : leN x z := cmpB_cmp.trans _ _ _ h k
theorem leN.refl (x : Par) : leN x x := by unfold leN; rw [cmpB_cmp.refl]; omega
theorem leN_not {x y : Par} (h : ¬ leN x y) : leN y x := by
  unfold leN at *
  have := cmpB_cmp.swap x.a y.a
  omega
/-- From a up to b the list is another order of what stood there. -/
structure Seg (a b : Nat) (P Q : List Par) : Prop where
  len : Q.length = P.length
  perm : Q.Perm P
  out : ∀ i, i < a ∨ b ≤ i → Q[i]? = P[i]?
  inn : ∀ i, a ≤ i → i < b → ∃ j, a ≤ j ∧ j < b ∧ Q[i]? = P[j]?
theorem Seg.refl (a b : Nat) (P : List Par) : Seg a b P P := ⟨rfl, List.Perm.refl _, fun _ _ => rfl, fun i h1 h2 => ⟨i, h1, h2, rfl⟩⟩
theorem Seg.trans {a b : Nat} {P Q R : List Par} (h : Seg a b P Q) (k : Seg a b Q R) : Seg a b P R :=
  ⟨k.len.trans h.len, k.perm.trans h.perm, fun i hi => (k.out i hi).trans (h.out i hi), fun i h1 h2 => by
    obtain ⟨j, h3, h4, h5⟩ := k.inn i h1 h2
    obtain ⟨l, h6, h7, h8⟩ := h.inn j h3 h4
    exact ⟨l, h6, h7, h5.trans h8⟩⟩
theorem Seg.wide {a b a' b' : Nat} {P Q : List Par} (h : Seg a b P Q) (h1 : a' ≤ a) (h2 : b ≤ b') : Seg a' b' P Q :=
  ⟨h.len, h.perm, fun i hi => h.out i (by omega), fun i h3 h4 => by
    by_cases hi : a ≤ i ∧ i < b
    · obtain ⟨j, h5, h6, h7⟩ := h.inn i hi.1 hi.2
      exact ⟨j, by omega, by omega, h7⟩
    · exact ⟨i, h3, h4, h.out i (by omega)⟩⟩
/-- Two are turned round. -/
def swp (P : List Par) (i j : Nat) : List Par := match P[i]?, P[j]? with
  | some x, some y => (P.set i y).set j x
  | _, _ => P
theorem swp_eq {P : List Par} {i j : Nat} {x y : Par} (hx : P[i]? = some x) (hy : P[j]? = some y) : swp P i j = (P.set i y).set j x := by
  unfold swp
  rw [hx, hy]
theorem swp_get {P : List Par} {i j : Nat} (hi : i < P.length) (hj : j < P.length) (k : Nat) : (swp P i j)[k]? = if k = j then P[i]? else if k = i then P[j]? else P[k]? := by
  have hx := List.getElem?_eq_getElem hi
  have hy := List.getElem?_eq_getElem hj
  rw [swp_eq hx hy, List.getElem?_set]
  by_cases hk : j = k
  · subst hk
    rw [if_pos rfl, if_pos (by simpa using hj), if_pos rfl, hx]
  · rw [if_neg hk, if_neg (fun e => hk e.symm), List.getElem?_set]
    by_cases hk2 : i = k
    · subst hk2
      rw [if_pos rfl, if_pos hi, if_pos rfl, hy]
    · rw [if_neg hk2, if_neg (fun e => hk2 e.symm)]
theorem swp_len (P : List Par) (i j : Nat) : (swp P i j).length = P.length := by
  unfold swp
  split <;> simp
theorem swp_seg {a b : Nat} {P : List Par} {i j : Nat} (hi : a ≤ i ∧ i < b) (hj : a ≤ j ∧ j < b) (hb : b ≤ P.length) : Seg a b P (swp P i j) := by
  have hg := swp_get (P := P) (show i < P.length by omega) (show j < P.length by omega)
  refine ⟨swp_len _ _ _, ?_, fun k hk => ?_, fun k h1 h2 => ?_⟩
  · rw [swp_eq (List.getElem?_eq_getElem (show i < P.length by omega)) (List.getElem?_eq_getElem (show j < P.length by omega))]
    exact List.set_set_perm (by omega) (by omega)
  · rw [hg, if_neg (by omega), if_neg (by omega)]
  · rw [hg]
    split
    · exact ⟨i, hi.1, hi.2, rfl⟩
    · split
      · exact ⟨j, hj.1, hj.2, rfl⟩
      · exact ⟨k, h1, h2, rfl⟩
/-- From a up to b the names rise. -/
def SrtS (P : List Par) (a b : Nat) : Prop := ∀ (u v : Nat) (x y : Par), a ≤ u → u < v → v < b → P[u]? = some x → P[v]? = some y → leN x y
theorem SrtS.one (P : List Par) (a : Nat) : SrtS P a (a + 1) := fun u v x y h1 h2 h3 => by omega
theorem SrtS.none (P : List Par) {a b : Nat} (h : b ≤ a + 1) : SrtS P a b := fun u v x y h1 h2 h3 => by omega
theorem SrtS.part {P : List Par} {a b a' b' : Nat} (h : SrtS P a b) (h1 : a ≤ a') (h2 : b' ≤ b) : SrtS P a' b' := fun u v x y h3 h4 h5 => h u v x y (by omega) h4 (by omega)
theorem SrtS.congr {P Q : List Par} {a b : Nat} (h : SrtS P a b) (he : ∀ i, a ≤ i → i < b → Q[i]? = P[i]?) : SrtS Q a b := fun u v x y h1 h2 h3 hx hy =>
  h u v x y h1 h2 h3 (by rw [← he u h1 (by omega)]; exact hx) (by rw [← he v (by omega) h3]; exact hy)
/-- The same, but for what is compared with the one at j from ahead of it. -/
def SrtX (P : List Par) (a b j : Nat) : Prop := ∀ (u v : Nat) (x y : Par), a ≤ u → u < v → v < b → v ≠ j → P[u]? = some x → P[v]? = some y → leN x y
theorem SrtX.start {P : List Par} {a i : Nat} (h : SrtS P a i) : SrtX P a (i + 1) i := fun u v x y h1 h2 h3 h4 => h u v x y h1 h2 (by omega)
theorem SrtX.done {P : List Par} {a b j : Nat} (h : SrtX P a b j) (hj : j ≤ a ∨ ∃ x y, P[j - 1]? = some x ∧ P[j]? = some y ∧ leN x y) : SrtS P a b := fun u v x y h1 h2 h3 hx hy => by
  by_cases hv : v = j
  · subst hv
    rcases hj with hj | ⟨x', y', hx', hy', hl⟩
    · omega
    · rw [hy'] at hy
      cases hy
      by_cases hu : u = v - 1
      · subst hu
        rw [hx'] at hx
        cases hx
        exact hl
      · exact (h u (v - 1) x x' h1 (by omega) (by omega) (by omega) hx hx').trans hl
  · exact h u v x y h1 h2 h3 hv hx hy
theorem SrtX.step {P : List Par} {a b j : Nat} {x y : Par} (h : SrtX P a b j) (hb : b ≤ P.length) (hja : a < j) (hjb : j < b) (hx : P[j]? = some x) (hy : P[j - 1]? = some y) (hl : leN x y) : SrtX (swp P j (j - 1)) a b (j - 1) := fun u v z t h1 h2 h3 h4 hz ht => by
  have hg := swp_get (P := P) (show j < P.length by omega) (show j - 1 < P.length by omega)
  rw [hg] at hz ht
  rw [if_neg h4] at ht
  by_cases hv : v = j
  · subst hv
    rw [if_pos rfl, hy] at ht
    cases ht
    by_cases hu : u = v - 1
    · subst hu
      rw [if_pos rfl, hx] at hz
      cases hz
      exact hl
    · rw [if_neg hu, if_neg (by omega)] at hz
      exact h u (v - 1) z y h1 (by omega) (by omega) (by omega) hz hy
  · rw [if_neg hv] at ht
    by_cases hu : u = j - 1
    · subst hu
      rw [if_pos rfl, hx] at hz
      cases hz
      exact h j v x t (by omega) (by omega) h3 (by omega) hx ht
    · rw [if_neg hu] at hz
      by_cases hu2 : u = j
      · subst hu2
        rw [if_pos rfl, hy] at hz
        cases hz
        exact h (u - 1) v y t (by omega) (by omega) h3 (by omega) hy ht
      · rw [if_neg hu2] at hz
        exact h u v z t h1 h2 h3 hv hz ht
end Go.Proofs.Ytmfbidhnafpkdaa
