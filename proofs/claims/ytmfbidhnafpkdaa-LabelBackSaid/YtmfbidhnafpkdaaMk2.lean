import Derived.Test.YtmfbidhnafpkdaaMake
import Derived.Test.YtmfbidhnafpkdaaRc
/-! What Make's answer hangs on. -/
namespace Go.Proofs.Ytmfbidhnafpkdaa
open Go.RowKit
set_option linter.unusedVariables false
set_option linter.unusedSimpArgs false
def Rise (l : List Par) : Prop := l.Pairwise (fun x y => cmpB x.a y.a < 0)
def Dist (l : List Par) : Prop := l.Pairwise (fun x y => cmpB x.a y.a ≠ 0)
theorem Dist.perm {l m : List Par} (h : l.Perm m) : Dist l ↔ Dist m := h.pairwise_iff (fun {x y} hxy e => hxy (by have := cmpB_cmp.swap y.a x.a; omega))
theorem Rise.dist {l : List Par} (h : Rise l) : Dist l := List.Pairwise.imp (fun hxy => by omega) h
theorem rise_eq : ∀ {l m : List Par}, Rise l → Rise m → (∀ z, z ∈ l ↔ z ∈ m) → l = m
  | [], [], _, _, _ => rfl
  | [], y :: m, _, _, h => by have := (h y).2 (by simp); cases this
  | x :: l, [], _, _, h => by have := (h x).1 (by simp); cases this
  | x :: l, y :: m, hl, hm, h => by
    obtain ⟨hl1, hl2⟩ := List.pairwise_cons.1 hl
    obtain ⟨hm1, hm2⟩ := List.pairwise_cons.1 hm
    have irr : ∀ z : Par, ¬ cmpB z.a z.a < 0 := fun z e => by rw [cmpB_cmp.refl] at e; omega
    have hxy : x = y := by
      rcases List.mem_cons.1 ((h x).1 (by simp)) with e | hx
      · exact e
      · rcases List.mem_cons.1 ((h y).2 (by simp)) with e | hy
        · exact e.symm
        · have h1 := hm1 x hx
          have h2 := hl1 y hy
          have := cmpB_cmp.swap x.a y.a
          omega
    subst hxy
    congr 1
    refine rise_eq hl2 hm2 fun z => ⟨fun hz => ?_, fun hz => ?_⟩
    · rcases List.mem_cons.1 ((h z).1 (by simp [hz])) with e | h'
      · have := hl1 z hz; rw [e] at this; exact absurd this (irr _)
      · exact h'
    · rcases List.mem_cons.1 ((h z).2 (by simp [hz])) with e | h'
      · have := hm1 z hz; rw [e] at this; exact absurd this (irr _)
      · exact h'
theorem dup_no {Q : List Par} (hs : SrtS Q 0 Q.length) (hd : dupL Q = false) : Rise Q := by
  unfold Rise
  rw [List.pairwise_iff_getElem]
  intro u v hu hv huv
  have hadj : ∀ k (hk : k + 1 < Q.length), cmpB Q[k].a Q[k + 1].a < 0 := fun k hk => by
    have h1 := hs k (k + 1) _ _ (by omega) (by omega) hk (List.getElem?_eq_getElem (by omega)) (List.getElem?_eq_getElem hk)
    have h2 : dupAt Q (k + 1) = false := by
      have := hd
      unfold dupL dupT at this
      rw [List.any_eq_false] at this
      have h3 := this (k + 1) (List.mem_range.2 hk)
      simpa using h3
    simp only [dupAt, List.getElem?_eq_getElem (show k < Q.length by omega), List.getElem?_eq_getElem hk, decide_eq_false_iff_not] at h2
    unfold leN at h1
    omega
  obtain ⟨k, rfl⟩ : ∃ k, v = k + 1 := ⟨v - 1, by omega⟩
  rcases Nat.lt_or_ge u k with h | h
  · have h1 := hs u k _ _ (by omega) h (by omega) (List.getElem?_eq_getElem hu) (List.getElem?_eq_getElem (by omega))
    exact cmpB_cmp.le_lt h1 (hadj k hv)
  · obtain rfl : u = k := by omega
    exact hadj u hv
theorem dup_yes {Q : List Par} (hd : dupL Q = true) : ¬ Dist Q := fun h => by
  unfold dupL dupT at hd
  rw [List.any_eq_true] at hd
  obtain ⟨i, hi, hi2⟩ := hd
  have hi := List.mem_range.1 hi
  cases i with
  | zero => cases hi2
  | succ k =>
    simp only [dupAt, List.getElem?_eq_getElem (show k < Q.length by omega), List.getElem?_eq_getElem hi, decide_eq_true_eq] at hi2
    exact List.pairwise_iff_getElem.1 h k (k + 1) (by omega) hi (by omega) hi2
theorem mk_same {Q R : List Par} (hp : Q.Perm R) (hQ : SrtS Q 0 Q.length) (hR : SrtS R 0 R.length) : mkE Q = mkE R ∧ mkR Q = mkR R := by
  cases h1 : dupL Q with
  | true =>
    cases h2 : dupL R with
    | true => simp [mkE, mkR, h1, h2]
    | false => exact absurd ((Dist.perm hp).2 (dup_no hR h2).dist) (dup_yes h1)
  | false =>
    cases h2 : dupL R with
    | true => exact absurd ((Dist.perm hp).1 (dup_no hQ h1).dist) (dup_yes h2)
    | false =>
      have : Q = R := rise_eq (dup_no hQ h1) (dup_no hR h2) (fun z => hp.mem_iff)
      subst this
      exact ⟨rfl, rfl⟩
theorem Rise.srt {Q : List Par} (h : Rise Q) : SrtS Q 0 Q.length := fun u v x y h1 h2 h3 hx hy => by
  obtain ⟨h4, rfl⟩ := List.getElem?_eq_some_iff.1 hx
  obtain ⟨h5, rfl⟩ := List.getElem?_eq_some_iff.1 hy
  have := List.pairwise_iff_getElem.1 h u v h4 h5 h2
  unfold leN
  omega
theorem mkE_zero {Q : List Par} : mkE Q = 0 ↔ dupL Q = false ∧ rightL Q = true := by
  unfold mkE
  cases dupL Q <;> cases rightL Q <;> simp
theorem mkR_zero {Q : List Par} (h : mkE Q = 0) : mkR Q = Q := by
  obtain ⟨h1, h2⟩ := mkE_zero.1 h
  simp [mkR, h1, h2]
def getL : List Par → ByteArray → ByteArray
  | [], _ => ⟨#[]⟩
  | x :: l, nm => if cmpB x.a nm = 0 then x.b else getL l nm
theorem getL_mem : ∀ {l : List Par}, Dist l → ∀ {p : Par}, p ∈ l → getL l p.a = p.b
  | [], _, p, h => by cases h
  | x :: l, hd, p, h => by
    obtain ⟨h1, h2⟩ := List.pairwise_cons.1 hd
    unfold getL
    rcases List.mem_cons.1 h with rfl | h'
    · rw [if_pos (cmpB_cmp.refl _)]
    · rw [if_neg (h1 p h')]
      exact getL_mem h2 h'
theorem getL_drop {L : List Par} {i : Nat} {x : Par} (h : L[i]? = some x) (nm : ByteArray) : getL (L.drop i) nm = if cmpB x.a nm = 0 then x.b else getL (L.drop (i + 1)) nm := by
  rw [dropP h, getL]
set_option maxRecDepth 100000 in
set_option maxHeartbeats 4000000 in
theorem pget_any (v : Value) (L : List Par) (nm : ByteArray) (w : World) (h1 : Pz w v L) :
    Calls Try.prog 22 #[v, .string nm] w fun e w' => e = .returned (.string (getL L nm)) ∧ Below w.heap.size w w' := by
  obtain ⟨A1, c1, rfl⟩ := h1.shape
  have hn1 := h1.n.2
  obtain ⟨q, hq⟩ : ∃ q, w.heap.size = q := ⟨_, rfl⟩
  have hB : Below q w w := by rw [← hq]; exact Below.refl _ _
  rw [hq]
  generalize hR : getL L nm = R
  go_enter Try.func22, Try.ntmps22
  go_wp2
  go_loopw [9] (fun s9 wr => ∃ i : Nat, i ≤ L.length ∧ s9 = .int .i64 (i : Int) ∧ getL (L.drop i) nm = R ∧ Pz wr (.slice A1 L.length c1) L ∧ Below q w wr) (fun s9 _ => ((L.length : Int) - intOf s9).toNat)
  case atStart => exact ⟨0, by omega, rfl, hR, h1, hB⟩
  case round =>
    clear h1 hR hB
    obtain ⟨i, hi, rfl, hR, h1, hb⟩ := hrel
    have hqw : q ≤ wr.heap.size := by rw [← hq]; exact hb.size
    by_cases hlt : i < L.length
    · obtain ⟨x, hx⟩ : ∃ x, L[i]? = some x := ⟨_, List.getElem?_eq_getElem hlt⟩
      obtain ⟨b, o, rfl, hbb, m0, m1⟩ := h1.at_ hx
      have hii : (i : Int) < L.length := by omega
      rw [getL_drop hx] at hR
      have hls := cmpB_eq x.a nm
      by_cases hc : cmpB x.a nm = 0
      · rw [if_pos hc] at hR
        subst hR
        rw [decide_eq_true hc] at hls
        clear h1 hx hc
        go_wp2
        go_ret
        exact ⟨rfl, hb.trans ((by (repeat' (first | with_reducible exact Below.refl _ _ | with_reducible refine Below.ext ?_ ?_ _ | with_reducible refine Below.alloc ?_ ?_ _ | with_reducible refine Below.setCell ?_ ?_ _ | with_reducible refine Below.drew ?_ | with_reducible assumption | (simp [World.size_ext]; done) | (simp [World.size_ext]; omega))) : Below wr.heap.size wr _).mono hqw)⟩
      · rw [if_neg hc] at hR
        rw [decide_eq_false hc] at hls
        have H := hide (⟨h1, hR⟩ : _ ∧ _)
        clear h1 hx hc hR
        go_wp2
        go_roundw
        case rel => exact ⟨i + 1, by omega, by go_num, H.out.2, H.out.1.below (by (repeat' (first | with_reducible exact Below.refl _ _ | with_reducible refine Below.ext ?_ ?_ _ | with_reducible refine Below.alloc ?_ ?_ _ | with_reducible refine Below.setCell ?_ ?_ _ | with_reducible refine Below.drew ?_ | with_reducible assumption | (simp [World.size_ext]; done) | (simp [World.size_ext]; omega)))), hb.trans ((by (repeat' (first | with_reducible exact Below.refl _ _ | with_reducible refine Below.ext ?_ ?_ _ | with_reducible refine Below.alloc ?_ ?_ _ | with_reducible refine Below.setCell ?_ ?_ _ | with_reducible refine Below.drew ?_ | with_reducible assumption | (simp [World.size_ext]; done) | (simp [World.size_ext]; omega))) : Below wr.heap.size wr _).mono hqw)⟩
        case measure => simp [intOf]; omega
    · obtain rfl : i = L.length := by omega
      rw [List.drop_length, getL] at hR
      subst hR
      clear h1
      go_wp2
      go_ret
      exact ⟨rfl, hb⟩
end Go.Proofs.Ytmfbidhnafpkdaa
