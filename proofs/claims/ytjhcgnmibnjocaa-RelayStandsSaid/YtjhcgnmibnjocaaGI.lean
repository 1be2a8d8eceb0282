import Derived.Test.YtjhcgnmibnjocaaY26
import Derived.Test.YtjhcgnmibnjocaaY3
import Derived.Test.YtjhcgnmibnjocaaGL
import Derived.Test.YtjhcgnmibnjocaaY23
import Derived.Deep.AppendSrc
/-! Several texts in one. -/
/-! Nodes that agree: what holds of all of them, whatever comes. -/
namespace Go.Proofs.Ytjhcgnmibnjocaa
open Go.RowKit
set_option linter.unusedVariables false
set_option linter.unusedSimpArgs false
def upd {α : Type} (f : Nat → α) (n : Nat) (x : α) : Nat → α := fun i => if i = n then x else f i
theorem upd_same {α : Type} (f : Nat → α) (n : Nat) (x : α) : upd f n x n = x := by simp [upd]
theorem upd_other {α : Type} (f : Nat → α) {n m : Nat} (x : α) (h : m ≠ n) : upd f n x m = f m := by simp [upd, h]
theorem upd_upd {α : Type} (f : Nat → α) (n : Nat) (x y : α) : upd (upd f n x) n y = upd f n y := by
  funext i
  by_cases h : i = n <;> simp [upd, h]
theorem upd_self {α : Type} (f : Nat → α) (n : Nat) : upd f n (f n) = f := by
  funext i
  by_cases h : i = n <;> simp [upd, h]
theorem pre_take_eq {L M : List Ent} (h : L <+: M) {k : Nat} (hk : k ≤ L.length) : M.take k = L.take k := by
  obtain ⟨t, rfl⟩ := h
  exact List.take_append_of_le_length hk
theorem take_pre_take {L : List Ent} {j k : Nat} (h : j ≤ k) : L.take j <+: L.take k := by
  rw [show L.take j = (L.take k).take j by rw [List.take_take, Nat.min_eq_left h]]
  exact List.take_prefix _ _
theorem take_pre {L M : List Ent} (h : L <+: M) (k : Nat) : L.take k <+: M.take k := by
  rcases Nat.le_total k L.length with hk | hk
  · rw [pre_take_eq h hk]
    exact List.prefix_rfl
  · rw [List.take_of_length_le hk, show L = M.take L.length by rw [pre_take_eq h (Nat.le_refl _), List.take_length]]
    exact take_pre_take hk
theorem leads_iff {r : Rl} : r.leads = true ↔ 0 < r.v.e ∧ r.v.p = r.id := by simp [Rl.leads]
/-- What was so: the views of the epochs, which have begun, with what log, which log its primary has, how much of it a node has had, since when a primary was safe, since when all safe ones are. -/
structure Gh where
  V : Int → Vi
  St : Int → Prop
  B : Int → List Ent
  P : Int → List Ent
  A : Int → Nat → Nat
  b : Int → Int
  al : Int
/-- All members of an epoch's view have had so much. -/
def Gh.com (G : Gh) (e : Int) (k : Nat) : Prop := ∀ m : Nat, (m : Int) ∈ (G.V e).l → k ≤ G.A e m
/-- A list that may be sure, of an epoch up to b. -/
def Gh.cs (G : Gh) (b : Int) (L : List Ent) : Prop := L = [] ∨ ∃ (e : Int) (k : Nat), 1 ≤ e ∧ e ≤ b ∧ G.St e ∧ G.com e k ∧ k ≤ (G.P e).length ∧ L <+: (G.P e).take k
structure NOk (G : Gh) (c : Int) (n : Nat) (r : Rl) : Prop where
  id : r.id = n
  v : r.v = Vi.none ∨ (1 ≤ r.v.e ∧ r.v.e ≤ c ∧ r.v = G.V r.v.e)
  j : 0 ≤ r.joined ∧ r.joined ≤ r.v.e
  j0 : r.joined = 0 → r.log = []
  lg : 1 ≤ r.joined → G.St r.joined ∧ G.B r.joined <+: r.log ∧ r.log <+: G.P r.joined ∧ G.A r.joined n = r.log.length
  a0 : ∀ e, r.joined < e → G.A e n = 0
  ld : r.leads = true → r.joined = r.v.e ∧ r.log = G.P r.v.e
  ac : r.act = true → r.leads = true ∧ ∀ m ∈ r.v.l, (r.acks.lookup m).isSome = true
  su : r.sure ≤ r.log.length ∧ G.cs r.joined (r.log.take r.sure)
structure GOk (G : Gh) (c : Int) (R : Nat → Rl) : Prop where
  c1 : 1 ≤ c
  ve : ∀ e, 1 ≤ e → e ≤ c → (G.V e).e = e ∧ (G.V e).right = true ∧ ∀ x ∈ (G.V e).l, 0 ≤ x ∧ x < 4
  nd : ∀ n, n < 4 → NOk G c n (R n)
  ak : ∀ n, n < 4 → (R n).leads = true → ∀ m k, (R n).acks.lookup m = some k → ∃ m' : Nat, m' < 4 ∧ m = (m' : Int) ∧ k ≤ G.A (R n).v.e m' ∧ (R n).v.e ≤ (R m').joined
  st : ∀ e, G.St e → 1 ≤ e ∧ e ≤ c ∧ G.B e <+: G.P e ∧ ∀ q : Nat, q < 4 → (G.V e).p = (q : Int) → e ≤ (R q).v.e
  ns : ∀ e, ¬G.St e → G.P e = [] ∧ ∀ n, G.A e n = 0
  al : ∀ e n, n < 4 → G.A e n ≤ (G.P e).length
  wi : ∀ e' e, 1 ≤ e' → e' < e → G.St e → ∃ m : Nat, m < 4 ∧ (m : Int) ∈ (G.V e').l ∧ e' < (R m).v.e ∧ (G.P e').take (G.A e' m) <+: G.B e
  bs : ∀ e, 2 ≤ e → e ≤ c → 1 ≤ G.b e ∧ G.b e < e ∧ ∀ q : Nat, q < 4 → (G.V e).p = (q : Int) → (∀ e', G.b e ≤ e' → e' < e → (q : Int) ∈ (G.V e').l) ∧ (G.b e = 1 ∨ G.b e ≤ (R q).joined)
/-- Nothing was taken back. -/
structure Up (G : Gh) (c : Int) (G' : Gh) : Prop where
  V : ∀ e, e ≤ c → G'.V e = G.V e
  St : ∀ e, G.St e → G'.St e
  B : ∀ e, G.St e → G'.B e = G.B e
  P : ∀ e, G.P e <+: G'.P e
  A : ∀ e n, G.A e n ≤ G'.A e n
  b : ∀ e, e ≤ c → G'.b e = G.b e
def RUp (R R' : Nat → Rl) : Prop := ∀ n, n < 4 → (R n).joined ≤ (R' n).joined ∧ (R n).v.e ≤ (R' n).v.e
theorem Up.refl (G : Gh) (c : Int) : Up G c G := ⟨fun _ _ => rfl, fun _ h => h, fun _ _ => rfl, fun _ => List.prefix_rfl, fun _ _ => Nat.le_refl _, fun _ _ => rfl⟩
theorem Up.trans {G G' G'' : Gh} {c c' : Int} (h : Up G c G') (h' : Up G' c' G'') (hc : c ≤ c') : Up G c G'' :=
  ⟨fun e he => (h'.V e (by omega)).trans (h.V e he), fun e hs => h'.St e (h.St e hs), fun e hs => (h'.B e (h.St e hs)).trans (h.B e hs), fun e => (h.P e).trans (h'.P e), fun e n => Nat.le_trans (h.A e n) (h'.A e n), fun e he => (h'.b e (by omega)).trans (h.b e he)⟩
theorem RUp.refl (R : Nat → Rl) : RUp R R := fun _ _ => ⟨Int.le_refl _, Int.le_refl _⟩
theorem RUp.trans {R R' R'' : Nat → Rl} (h : RUp R R') (h' : RUp R' R'') : RUp R R'' := fun n hn => ⟨Int.le_trans (h n hn).1 (h' n hn).1, Int.le_trans (h n hn).2 (h' n hn).2⟩
theorem RUp.upd {R : Nat → Rl} {n : Nat} {r' : Rl} (h1 : (R n).joined ≤ r'.joined) (h2 : (R n).v.e ≤ r'.v.e) : RUp R (upd R n r') := fun m hm => by
  by_cases e : m = n
  · subst e; rw [upd_same]; exact ⟨h1, h2⟩
  · rw [upd_other _ _ e]; exact ⟨Int.le_refl _, Int.le_refl _⟩
theorem Gh.cs.up {G G' : Gh} {c b : Int} {L : List Ent} (h : G.cs b L) (hu : Up G c G') (hb : b ≤ c) : G'.cs b L := by
  rcases h with h | ⟨e, k, h1, h2, h3, h4, h5, h6⟩
  · exact .inl h
  · refine .inr ⟨e, k, h1, h2, hu.St e h3, fun m hm => ?_, Nat.le_trans h5 (hu.P e).length_le, ?_⟩
    · rw [hu.V e (by omega)] at hm
      exact Nat.le_trans (h4 m hm) (hu.A e m)
    · rw [pre_take_eq (hu.P e) h5]
      exact h6
theorem Gh.cs.mono {G : Gh} {b b' : Int} {L : List Ent} (h : G.cs b L) (hb : b ≤ b') : G.cs b' L := by
  rcases h with h | ⟨e, k, h1, h2, h3⟩
  · exact .inl h
  · exact .inr ⟨e, k, h1, by omega, h3⟩
theorem Gh.cs.pre {G : Gh} {b : Int} {L L' : List Ent} (h : G.cs b L) (hp : L' <+: L) : G.cs b L' := by
  rcases h with h | ⟨e, k, h1, h2, h3, h4, h5, h6⟩
  · subst h
    exact .inl (List.prefix_nil.1 hp)
  · exact .inr ⟨e, k, h1, h2, h3, h4, h5, hp.trans h6⟩
theorem NOk.vc {G : Gh} {c : Int} {n : Nat} {r : Rl} (h : NOk G c n r) (hc : 1 ≤ c) : r.v.e ≤ c := by
  rcases h.v with e | e
  · rw [e]; exact Int.le_trans (by decide) hc
  · exact e.2.1
theorem NOk.up {G G' : Gh} {c : Int} {n : Nat} {r : Rl} (h : NOk G c n r) (hc : 1 ≤ c) (hu : Up G c G') (hA : ∀ e, G'.A e n = G.A e n) (hP : r.leads = true → G'.P r.v.e = G.P r.v.e) : NOk G' c n r := by
  have hv := h.vc hc
  refine ⟨h.id, ?_, h.j, h.j0, fun h1 => ?_, fun e he => by rw [hA]; exact h.a0 e he, fun hl => ?_, h.ac, h.su.1, h.su.2.up hu (by have := h.j; omega)⟩
  · rcases h.v with e | ⟨e1, e2, e3⟩
    · exact .inl e
    · exact .inr ⟨e1, e2, by rw [hu.V _ e2]; exact e3⟩
  · obtain ⟨a1, a2, a3, a4⟩ := h.lg h1
    exact ⟨hu.St _ a1, by rw [hu.B _ a1]; exact a2, a3.trans (hu.P _), by rw [hA]; exact a4⟩
  · rw [hP hl]; exact h.ld hl
/-- One node does something. -/
theorem GOk.step {G G' : Gh} {c : Int} {R : Nat → Rl} {n : Nat} {r' : Rl} (h : GOk G c R) (hn : n < 4) (hu : Up G c G') (hj : (R n).joined ≤ r'.joined) (hv : (R n).v.e ≤ r'.v.e)
    (hA : ∀ e m, m ≠ n → G'.A e m = G.A e m) (hAn : ∀ e, e < (R n).v.e → G'.A e n = G.A e n)
    (hP : ∀ m, m < 4 → m ≠ n → (R m).leads = true → G'.P (R m).v.e = G.P (R m).v.e) (hnd : NOk G' c n r')
    (hak : r'.leads = true → ∀ m k, r'.acks.lookup m = some k → ∃ m' : Nat, m' < 4 ∧ m = (m' : Int) ∧ k ≤ G'.A r'.v.e m' ∧ r'.v.e ≤ (upd R n r' m').joined)
    (hst : ∀ e, G'.St e → ¬G.St e → 1 ≤ e ∧ e ≤ c ∧ G'.B e <+: G'.P e ∧ ∀ q : Nat, q < 4 → (G.V e).p = (q : Int) → e ≤ (upd R n r' q).v.e)
    (hns : ∀ e, ¬G'.St e → G'.P e = [] ∧ ∀ n, G'.A e n = 0) (hal : ∀ e, G'.A e n ≤ (G'.P e).length)
    (hW : ∀ e' e, 1 ≤ e' → e' < e → G'.St e → ¬G.St e → ∃ m : Nat, m < 4 ∧ (m : Int) ∈ (G.V e').l ∧ e' < (upd R n r' m).v.e ∧ (G'.P e').take (G'.A e' m) <+: G'.B e) : GOk G' c (upd R n r') := by
  have hR : RUp R (upd R n r') := RUp.upd hj hv
  refine ⟨h.c1, fun e h1 h2 => by rw [hu.V e h2]; exact h.ve e h1 h2, fun m hm => ?_, fun m hm hl x k hk => ?_, fun e he => ?_, hns, fun e m hm => ?_, fun e' e h1 h2 he => ?_, fun e h1 h2 => ?_⟩
  · by_cases e : m = n
    · subst e; rw [upd_same]; exact hnd
    · rw [upd_other _ _ e]
      exact (h.nd m hm).up h.c1 hu (fun e' => hA e' m e) (hP m hm e)
  · by_cases e : m = n
    · subst e
      rw [upd_same] at hl hk ⊢
      exact hak hl x k hk
    · rw [upd_other _ _ e] at hl hk ⊢
      obtain ⟨m', a1, a2, a3, a4⟩ := h.ak m hm hl x k hk
      exact ⟨m', a1, a2, Nat.le_trans a3 (hu.A _ _), Int.le_trans a4 (hR m' a1).1⟩
  · by_cases h0 : G.St e
    · obtain ⟨a1, a2, a3, a4⟩ := h.st e h0
      exact ⟨a1, a2, by rw [hu.B e h0]; exact a3.trans (hu.P e), fun q hq hp => by rw [hu.V e a2] at hp; exact Int.le_trans (a4 q hq hp) (hR q hq).2⟩
    · obtain ⟨a1, a2, a3, a4⟩ := hst e he h0
      exact ⟨a1, a2, a3, fun q hq hp => by rw [hu.V e a2] at hp; exact a4 q hq hp⟩
  · by_cases e1 : m = n
    · subst e1; exact hal e
    · rw [hA e m e1]; exact Nat.le_trans (h.al e m hm) (hu.P e).length_le
  · by_cases h0 : G.St e
    · obtain ⟨m, a1, a2, a3, a4⟩ := h.wi e' e h1 h2 h0
      have hec := (h.st e h0).2.1
      have hAA : G'.A e' m = G.A e' m := by
        by_cases e1 : m = n
        · subst e1; exact hAn e' a3
        · exact hA e' m e1
      refine ⟨m, a1, by rw [hu.V e' (by omega)]; exact a2, Int.lt_of_lt_of_le a3 (hR m a1).2, ?_⟩
      rw [hAA, hu.B e h0, pre_take_eq (hu.P e') (h.al e' m a1)]
      exact a4
    · obtain ⟨m, a1, a2, a3, a4⟩ := hW e' e h1 h2 he h0
      have hec := (hst e he h0).2.1
      exact ⟨m, a1, by rw [hu.V e' (by omega)]; exact a2, a3, a4⟩
  · obtain ⟨a1, a2, a3⟩ := h.bs e h1 h2
    rw [hu.b e h2, hu.V e h2]
    refine ⟨a1, a2, fun q hq hp => ?_⟩
    obtain ⟨b1, b2⟩ := a3 q hq hp
    exact ⟨fun e' g1 g2 => by rw [hu.V e' (by omega)]; exact b1 e' g1 g2, b2.imp id fun g => Int.le_trans g (hR q hq).1⟩
theorem leads_eq {r r' : Rl} (h1 : r'.id = r.id) (h2 : r'.v = r.v) : r'.leads = r.leads := by unfold Rl.leads; rw [h1, h2]
theorem GOk.soft {G : Gh} {c : Int} {R : Nat → Rl} {n : Nat} (h : GOk G c R) (hn : n < 4) (r' : Rl) (e1 : r'.id = (R n).id) (e2 : r'.v = (R n).v) (e3 : r'.joined = (R n).joined) (e4 : r'.log = (R n).log)
    (hac : r'.act = true → r'.leads = true ∧ ∀ m ∈ r'.v.l, (r'.acks.lookup m).isSome = true) (hsu : r'.sure ≤ (R n).log.length ∧ G.cs (R n).joined ((R n).log.take r'.sure))
    (hak : (R n).leads = true → ∀ m k, r'.acks.lookup m = some k → ∃ m' : Nat, m' < 4 ∧ m = (m' : Int) ∧ k ≤ G.A (R n).v.e m' ∧ (R n).v.e ≤ (R m').joined) : GOk G c (upd R n r') := by
  have hN := h.nd n hn
  have hl := leads_eq e1 e2
  refine h.step hn (Up.refl G c) (by omega) (by rw [e2]; omega) (fun _ _ _ => rfl) (fun _ _ => rfl) (fun _ _ _ _ => rfl) ⟨by rw [e1]; exact hN.id, by rw [e2]; exact hN.v, by rw [e3, e2]; exact hN.j, by rw [e3, e4]; exact hN.j0, by rw [e3, e4]; exact hN.lg, by rw [e3]; exact hN.a0, by rw [hl, e3, e4, e2]; exact hN.ld, hac, by rw [e4, e3]; exact hsu⟩
    (fun hl' m k hk => ?_) (fun e a b => absurd a b) h.ns (fun e => h.al e n hn) (fun e' e _ _ a b => absurd a b)
  rw [hl] at hl'
  obtain ⟨m', a1, a2, a3, a4⟩ := hak hl' m k hk
  refine ⟨m', a1, a2, by rw [e2]; exact a3, ?_⟩
  rw [e2]
  by_cases e : m' = n
  · subst e; rw [upd_same, e3]; exact a4
  · rw [upd_other _ _ e]; exact a4
theorem leastP_all {a : List (Int × Nat)} : ∀ {l : List Int} {m k : Nat}, leastP a l m = some k → ∀ x ∈ l, ∃ i, a.lookup x = some i ∧ k ≤ i
  | [], m, k, h, x, hx => by cases hx
  | n :: l, m, k, h, x, hx => by
    unfold leastP at h
    split at h
    · cases h
    · rename_i i hi
      rcases List.mem_cons.1 hx with e | hx
      · subst e
        exact ⟨i, hi, by have := leastP_le h; omega⟩
      · exact leastP_all h x hx
theorem GOk.settle {G : Gh} {c : Int} {R : Nat → Rl} {n : Nat} (h : GOk G c R) (hn : n < 4) : GOk G c (upd R n (settleP (R n))) := by
  unfold settleP
  split
  · rename_i hl
    split
    · rw [upd_self]; exact h
    · rename_i m hm
      have hN := h.nd n hn
      obtain ⟨hj, hlog⟩ := hN.ld hl
      obtain ⟨hp, hid⟩ := leads_iff.1 hl
      have hle := leastP_le hm
      have hall := leastP_all hm
      have hs := hN.su
      refine h.soft hn _ rfl rfl rfl rfl (fun _ => ⟨hl, fun x hx => ?_⟩) ⟨?_, ?_⟩ (fun _ m k hk => h.ak n hn hl m k hk)
      · obtain ⟨i, hi, _⟩ := hall x hx
        show (List.lookup x (R n).acks).isSome = true
        rw [hi]; rfl
      · show max (R n).sure m ≤ _
        omega
      · show G.cs _ ((R n).log.take (max (R n).sure m))
        rcases Nat.le_total m (R n).sure with g | g
        · rw [Nat.max_eq_left g]; exact hs.2
        · rw [Nat.max_eq_right g]
          obtain ⟨a1, a2, a3, a4⟩ := hN.lg (by omega)
          rw [hj] at a1 a3 ⊢
          have hVe : (R n).v = G.V (R n).v.e := by
            rcases hN.v with e | e
            · rw [e] at hp; exact absurd hp (by decide)
            · exact e.2.2
          refine .inr ⟨(R n).v.e, m, by omega, Int.le_refl _, a1, fun x hx => ?_, by rw [← hlog]; exact hle, by rw [← hlog]; exact List.prefix_rfl⟩
          rw [← hVe] at hx
          obtain ⟨i, hi, hmi⟩ := hall _ hx
          obtain ⟨m', _, b2, b3, _⟩ := h.ak n hn hl _ _ hi
          have : x = m' := by omega
          subst this
          omega
  · rw [upd_self]; exact h
/-- What may be sure of an epoch stands in what a later one began with. -/
theorem GOk.base {G : Gh} {c : Int} {R : Nat → Rl} (h : GOk G c R) {e b : Int} {L : List Ent} (he : G.St e) (hL : G.cs b L) (hb : b < e) : L <+: G.B e := by
  rcases hL with e1 | ⟨e', k, h1, h2, h3, h4, h5, h6⟩
  · subst e1; exact List.nil_prefix
  · obtain ⟨m, a1, a2, a3, a4⟩ := h.wi e' e h1 (by omega) he
    exact (h6.trans (take_pre_take (h4 m a2))).trans a4
def Gh.setA (G : Gh) (e : Int) (n k : Nat) : Gh := { G with A := fun e' m => if e' = e ∧ m = n then k else G.A e' m }
theorem setA_up {G : Gh} {c e : Int} {n k : Nat} (h : G.A e n ≤ k) : Up G c (G.setA e n k) :=
  ⟨fun _ _ => rfl, fun _ h => h, fun _ _ => rfl, fun _ => List.prefix_rfl, fun e' m => by
    show G.A e' m ≤ if e' = e ∧ m = n then k else G.A e' m
    split
    · rename_i g
      rw [g.1, g.2]; exact h
    · exact Nat.le_refl _, fun _ _ => rfl⟩
theorem setA_same (G : Gh) (e : Int) (n k : Nat) : (G.setA e n k).A e n = k := by simp [Gh.setA]
theorem setA_other (G : Gh) {e e' : Int} {n m : Nat} (k : Nat) (h : e' ≠ e ∨ m ≠ n) : (G.setA e n k).A e' m = G.A e' m := by
  show (if e' = e ∧ m = n then k else G.A e' m) = _
  rw [if_neg]
  rintro ⟨a, b⟩
  rcases h with h | h
  · exact h a
  · exact h b

theorem GOk.settled {G : Gh} {c : Int} {R : Nat → Rl} {n : Nat} {r : Rl} (h : GOk G c (upd R n r)) (hn : n < 4) : GOk G c (upd R n (settleP r)) := by
  have := h.settle hn
  rw [upd_same, upd_upd] at this
  exact this
theorem settle_same (r : Rl) : (settleP r).id = r.id ∧ (settleP r).v = r.v ∧ (settleP r).log = r.log ∧ (settleP r).joined = r.joined ∧ (settleP r).acks = r.acks := by
  unfold settleP
  split
  · split <;> exact ⟨rfl, rfl, rfl, rfl, rfl⟩
  · exact ⟨rfl, rfl, rfl, rfl, rfl⟩
theorem promise_same (r : Rl) (v : Vi) : (promiseP r v).id = r.id ∧ (promiseP r v).v = v ∧ (promiseP r v).log = r.log ∧ (promiseP r v).joined = if 0 < v.e ∧ v.p = r.id then v.e else r.joined := by
  unfold promiseP
  obtain ⟨a1, a2, a3, a4, _⟩ := settle_same (if ({ r with v := v, act := false, acks := [] } : Rl).leads then { r with v := v, act := false, joined := v.e, acks := ackedL r.id r.log.length [] } else { r with v := v, act := false, acks := [] })
  rw [a1, a2, a3, a4]
  by_cases hl : ({ r with v := v, act := false, acks := [] } : Rl).leads = true
  · rw [if_pos hl, if_pos (leads_iff.1 hl)]
    exact ⟨rfl, rfl, rfl, rfl⟩
  · rw [if_neg hl, if_neg (fun h => hl (leads_iff.2 h))]
    exact ⟨rfl, rfl, rfl, rfl⟩
/-- A view of an epoch is promised. -/
theorem GOk.promise {G : Gh} {c : Int} {R : Nat → Rl} {n : Nat} (h : GOk G c R) (hn : n < 4) {e : Int} (h1 : 1 ≤ e) (h2 : e ≤ c) (h3 : (R n).v.e < e) :
    ∃ G', Up G c G' ∧ G'.al = G.al ∧ GOk G' c (upd R n (promiseP (R n) (G.V e))) ∧ ∀ x, G'.P x = G.P x ∨ G'.P x = (R n).log := by
  have hN := h.nd n hn
  obtain ⟨v1, v2, v3⟩ := h.ve e h1 h2
  have hj := hN.j
  unfold promiseP
  by_cases hl : ({ R n with v := G.V e, act := false, acks := [] } : Rl).leads = true
  · rw [if_pos hl]
    obtain ⟨_, hp⟩ := leads_iff.1 hl
    simp only at hp
    rw [hN.id] at hp
    have hns : ¬G.St e := fun hs => by have := (h.st e hs).2.2.2 n hn hp; omega
    obtain ⟨n1, n2⟩ := h.ns e hns
    have hne : ∀ e', e' < (R n).v.e → e' ≠ e := fun e' h => by omega
    refine ⟨{ G with St := fun x => G.St x ∨ x = e, B := fun x => if x = e then (R n).log else G.B x, P := fun x => if x = e then (R n).log else G.P x, A := fun x m => if x = e ∧ m = n then (R n).log.length else G.A x m }, ?_, rfl, ?_, fun x => ?_⟩
    · refine ⟨fun _ _ => rfl, fun _ hs => .inl hs, fun x hs => ?_, fun x => ?_, fun x m => ?_, fun _ _ => rfl⟩
      · show (if x = e then _ else _) = _
        rw [if_neg (fun g => hns (by rw [← g]; exact hs))]
      · show _ <+: if x = e then _ else _
        split
        · rename_i g
          rw [g, n1]; exact List.nil_prefix
        · exact List.prefix_rfl
      · show _ ≤ if x = e ∧ m = n then _ else _
        split
        · rename_i g
          rw [g.1, n2]; exact Nat.zero_le _
        · exact Nat.le_refl _
    · refine GOk.settled ?_ hn
      have hup : Up G c { G with St := fun x => G.St x ∨ x = e, B := fun x => if x = e then (R n).log else G.B x, P := fun x => if x = e then (R n).log else G.P x, A := fun x m => if x = e ∧ m = n then (R n).log.length else G.A x m } := by
        refine ⟨fun _ _ => rfl, fun _ hs => .inl hs, fun x hs => ?_, fun x => ?_, fun x m => ?_, fun _ _ => rfl⟩
        · show (if x = e then _ else _) = _
          rw [if_neg (fun g => hns (by rw [← g]; exact hs))]
        · show _ <+: if x = e then _ else _
          split
          · rename_i g
            rw [g, n1]; exact List.nil_prefix
          · exact List.prefix_rfl
        · show _ ≤ if x = e ∧ m = n then _ else _
          split
          · rename_i g
            rw [g.1, n2]; exact Nat.zero_le _
          · exact Nat.le_refl _
      refine h.step hn hup (by show (R n).joined ≤ (G.V e).e; omega) (by show _ ≤ (G.V e).e; omega) (fun x m hm => if_neg (fun g => hm g.2)) (fun x hx => if_neg (fun g => by omega)) (fun m hm hmn hlm => if_neg (fun g => ?_)) ?_ (fun _ m k hk => ?_) (fun x hx hx' => ?_) (fun x hx => ?_) (fun x => ?_) (fun e' x g1 g2 hx hx' => ?_)
      · obtain ⟨a1, a2⟩ := leads_iff.1 hlm
        have hM := h.nd m hm
        rcases hM.v with g' | g'
        · rw [g'] at a1; exact absurd a1 (by decide)
        · rw [g'.2.2, g, hM.id] at a2
          omega
      · refine ⟨hN.id, .inr ⟨by show 1 ≤ (G.V e).e; omega, by show (G.V e).e ≤ c; omega, by show G.V e = G.V (G.V e).e; rw [v1]⟩, ⟨by show 0 ≤ (G.V e).e; omega, Int.le_refl _⟩, fun g => by exfalso; have : (G.V e).e = 0 := g; omega, fun _ => ?_, fun x hx => ?_, fun _ => ⟨rfl, ?_⟩, fun g => (by cases g), hN.su.1, ?_⟩
        · show (G.St (G.V e).e ∨ (G.V e).e = e) ∧ (if (G.V e).e = e then (R n).log else G.B (G.V e).e) <+: (R n).log ∧ (R n).log <+: (if (G.V e).e = e then (R n).log else G.P (G.V e).e) ∧ (if (G.V e).e = e ∧ n = n then (R n).log.length else G.A (G.V e).e n) = (R n).log.length
          rw [if_pos v1, if_pos v1, if_pos ⟨v1, rfl⟩]
          exact ⟨.inr v1, List.prefix_rfl, List.prefix_rfl, rfl⟩
        · have hx' : (G.V e).e < x := hx
          show (if x = e ∧ n = n then _ else G.A x n) = 0
          rw [if_neg (fun g => by omega)]
          exact hN.a0 x (by omega)
        · show (R n).log = if (G.V e).e = e then (R n).log else _
          rw [if_pos v1]
        · exact (hN.su.2.up hup (by omega)).mono (by show (R n).joined ≤ (G.V e).e; omega)
      · have hk' : (ackedL (R n).id (R n).log.length []).lookup m = some k := hk
        rw [lookup_acked] at hk'
        split at hk'
        · rename_i g
          obtain rfl := Option.some.inj hk'
          refine ⟨n, hn, by rw [g, hN.id], ?_, ?_⟩
          · show _ ≤ if (G.V e).e = e ∧ n = n then _ else _
            rw [if_pos ⟨v1, rfl⟩]
            exact Nat.le_refl _
          · rw [upd_same]
            exact Int.le_refl _
        · cases hk'
      · have hxe : x = e := hx.resolve_left hx'
        subst hxe
        refine ⟨h1, h2, ?_, fun q hq hqp => ?_⟩
        · show (if x = x then _ else _) <+: if x = x then _ else _
          rw [if_pos rfl, if_pos rfl]
          exact List.prefix_rfl
        · have : q = n := by omega
          subst this
          rw [upd_same]
          show x ≤ (G.V x).e
          omega
      · have g1 : ¬G.St x := fun g => hx (.inl g)
        have g2 : x ≠ e := fun g => hx (.inr g)
        obtain ⟨m1, m2⟩ := h.ns x g1
        exact ⟨(if_neg g2).trans m1, fun m => (if_neg (fun g => g2 g.1)).trans (m2 m)⟩
      · show (if x = e ∧ n = n then (R n).log.length else G.A x n) ≤ (if x = e then (R n).log else G.P x).length
        by_cases g : x = e
        · rw [if_pos ⟨g, rfl⟩, if_pos g]
          exact Nat.le_refl _
        · rw [if_neg (fun g' => g g'.1), if_neg g]
          exact h.al x n hn
      · have hxe : x = e := hx.resolve_left hx'
        subst hxe
        have ge : e' ≠ x := by omega
        have key : ∀ m : Nat, m < 4 → (m : Int) ∈ (G.V e').l → e' < (upd R n { R n with v := G.V x, act := false, joined := (G.V x).e, acks := ackedL (R n).id (R n).log.length [] } m).v.e → (G.P e').take (G.A e' m) <+: (R n).log → ∃ m : Nat, m < 4 ∧ (m : Int) ∈ (G.V e').l ∧ e' < (upd R n { R n with v := G.V x, act := false, joined := (G.V x).e, acks := ackedL (R n).id (R n).log.length [] } m).v.e ∧
            (if e' = x then (R n).log else G.P e').take (if e' = x ∧ m = n then (R n).log.length else G.A e' m) <+: (if x = x then (R n).log else G.B x) := fun m a1 a2 a3 a4 => by
          refine ⟨m, a1, a2, a3, ?_⟩
          rw [if_neg ge, if_neg (fun g => ge g.1), if_pos rfl]
          exact a4
        have hown : e' < (upd R n { R n with v := G.V x, act := false, joined := (G.V x).e, acks := ackedL (R n).id (R n).log.length [] } n).v.e := by
          rw [upd_same]
          show e' < (G.V x).e
          omega
        have hfar : e' < (R n).joined → ∃ m : Nat, m < 4 ∧ (m : Int) ∈ (G.V e').l ∧ e' < (upd R n { R n with v := G.V x, act := false, joined := (G.V x).e, acks := ackedL (R n).id (R n).log.length [] } m).v.e ∧
            (if e' = x then (R n).log else G.P e').take (if e' = x ∧ m = n then (R n).log.length else G.A e' m) <+: (if x = x then (R n).log else G.B x) := fun hlt => by
          obtain ⟨b1, b2, b3, b4⟩ := hN.lg (by omega)
          obtain ⟨m, a1, a2, a3, a4⟩ := h.wi e' _ g1 hlt b1
          refine key m a1 a2 ?_ (a4.trans b2)
          by_cases g : m = n
          · subst g; exact hown
          · rw [upd_other _ _ g]; exact a3
        obtain ⟨b1, b2, b3⟩ := h.bs x (by omega) h2
        obtain ⟨b4, b5⟩ := b3 n hn hp
        rcases Int.lt_or_le e' (G.b x) with g | g
        · exact hfar (by rcases b5 with b5 | b5 <;> omega)
        · rcases Int.lt_trichotomy (R n).joined e' with gj | gj | gj
          · refine key n hn (b4 e' g g2) hown ?_
            rw [hN.a0 e' gj]
            exact List.nil_prefix
          · refine key n hn (b4 e' g g2) hown ?_
            obtain ⟨c1, c2, c3, c4⟩ := hN.lg (by omega)
            rw [gj] at c3 c4
            rw [c4, pre_take_eq c3 (Nat.le_refl _), List.take_length]
            exact List.prefix_rfl
          · exact hfar gj
    · show (if x = e then _ else _) = _ ∨ (if x = e then _ else _) = _
      split
      · exact .inr rfl
      · exact .inl rfl
  · rw [if_neg hl]
    refine ⟨G, Up.refl G c, rfl, GOk.settled ?_ hn, fun _ => .inl rfl⟩
    refine h.step hn (Up.refl G c) (Int.le_refl _) (by show _ ≤ (G.V e).e; omega) (fun _ _ _ => rfl) (fun _ _ => rfl) (fun _ _ _ _ => rfl) ⟨hN.id, .inr ⟨by show 1 ≤ (G.V e).e; omega, by show (G.V e).e ≤ c; omega, by show G.V e = G.V (G.V e).e; rw [v1]⟩, ⟨hj.1, by show (R n).joined ≤ (G.V e).e; omega⟩, hN.j0, hN.lg, hN.a0, fun g => absurd g hl, fun g => (by cases g), hN.su⟩
      (fun g => absurd g hl) (fun e a b => absurd a b) h.ns (fun e => h.al e n hn) (fun e' e _ _ a b => absurd a b)
/-- A log of the epoch is taken. -/
theorem GOk.join {G : Gh} {c : Int} {R : Nat → Rl} {n : Nat} (h : GOk G c R) (hn : n < 4) (hl : (R n).leads = false) (l : List Ent) (hs : G.St (R n).v.e) (hb : G.B (R n).v.e <+: l) (hp : l <+: G.P (R n).v.e) (hk : (R n).joined = (R n).v.e → (R n).log <+: l) :
    ∃ G', Up G c G' ∧ G'.al = G.al ∧ GOk G' c (upd R n { R n with joined := (R n).v.e, log := l }) ∧ G'.A (R n).v.e n = l.length ∧ G'.P = G.P := by
  have hN := h.nd n hn
  have hj := hN.j
  obtain ⟨he1, hec, _⟩ := h.st _ hs
  have hA : G.A (R n).v.e n ≤ l.length := by
    rcases Int.lt_or_le (R n).joined (R n).v.e with g | g
    · rw [hN.a0 _ g]; exact Nat.zero_le _
    · have ge : (R n).joined = (R n).v.e := by omega
      obtain ⟨_, _, _, a4⟩ := hN.lg (by omega)
      rw [ge] at a4
      rw [a4]
      exact (hk ge).length_le
  have hup := setA_up (c := c) hA
  have hpre : (R n).log.take (R n).sure <+: l := by
    rcases Int.lt_or_le (R n).joined (R n).v.e with g | g
    · exact (h.base hs hN.su.2 g).trans hb
    · exact (List.take_prefix _ _).trans (hk (by omega))
  have hlen : ((R n).log.take (R n).sure).length = (R n).sure := by rw [List.length_take]; have := hN.su.1; omega
  refine ⟨_, hup, rfl, ?_, setA_same _ _ _ _, rfl⟩
  refine h.step hn hup (by show _ ≤ (R n).v.e; omega) (Int.le_refl _) (fun e m hm => setA_other _ _ (.inr hm)) (fun e he => setA_other _ _ (.inl (by omega))) (fun _ _ _ _ => rfl) ?_ (fun g => ?_) (fun e a b => absurd a b) (fun e he => ?_) (fun e => ?_) (fun e' e _ _ a b => absurd a b)
  · refine ⟨hN.id, hN.v, ⟨by show 0 ≤ (R n).v.e; omega, Int.le_refl _⟩, fun g => by exfalso; have : (R n).v.e = 0 := g; omega, fun _ => ⟨hs, hb, hp, setA_same _ _ _ _⟩, fun e he => ?_, fun g => ?_, fun g => ?_, ?_, ?_⟩
    · have he' : (R n).v.e < e := he
      rw [setA_other _ _ (.inl (by omega))]
      exact hN.a0 e (by omega)
    · have g' : (R n).leads = true := g
      rw [hl] at g'; cases g'
    · have := (hN.ac g).1
      rw [hl] at this; cases this
    · show (R n).sure ≤ l.length
      rw [← hlen]; exact hpre.length_le
    · show (G.setA _ _ _).cs (R n).v.e (l.take (R n).sure)
      rw [pre_take_eq hpre (by rw [hlen]; exact Nat.le_refl _), List.take_take, Nat.min_self]
      exact (hN.su.2.up hup (by omega)).mono hj.2
  · have g' : (R n).leads = true := g
    rw [hl] at g'; cases g'
  · obtain ⟨a1, a2⟩ := h.ns e he
    refine ⟨a1, fun m => ?_⟩
    rw [setA_other _ _ (.inl (fun g => he (by rw [g]; exact hs)))]
    exact a2 m
  · by_cases g : e = (R n).v.e
    · rw [g, setA_same]; exact hp.length_le
    · rw [setA_other _ _ (.inl g)]; exact h.al e n hn
/-- A number that is sure is heard of. -/
def Gh.su (G : Gh) (e s : Int) : Prop := ∃ k : Nat, s = (k : Int) ∧ k ≤ (G.P e).length ∧ G.cs e ((G.P e).take k)
theorem Gh.su.up {G G' : Gh} {c e s : Int} (h : G.su e s) (hu : Up G c G') (he : e ≤ c) : G'.su e s := by
  obtain ⟨k, h1, h2, h3⟩ := h
  refine ⟨k, h1, Nat.le_trans h2 (hu.P e).length_le, ?_⟩
  rw [pre_take_eq (hu.P e) h2]
  exact h3.up hu he
theorem GOk.hear {G : Gh} {c : Int} {R : Nat → Rl} {n : Nat} (h : GOk G c R) (hn : n < 4) (s : Int) (hj : (R n).joined = (R n).v.e) (hp : (R n).log <+: G.P (R n).v.e) (hs : G.su (R n).v.e s) : GOk G c (upd R n (hearP (R n) s)) := by
  have hN := h.nd n hn
  obtain ⟨k, h1, h2, h3⟩ := hs
  subst h1
  unfold hearP
  have hm : (min (k : Int) (R n).log.length).toNat = min k (R n).log.length := by omega
  rw [hm]
  refine h.soft hn _ rfl rfl rfl rfl hN.ac ⟨?_, ?_⟩ (h.ak n hn)
  · have := hN.su.1
    show max _ _ ≤ _
    omega
  · show G.cs _ ((R n).log.take (max (R n).sure (min k (R n).log.length)))
    rcases Nat.le_total (min k (R n).log.length) (R n).sure with g | g
    · rw [Nat.max_eq_left g]; exact hN.su.2
    · rw [Nat.max_eq_right g, hj]
      exact h3.pre ((take_pre hp _).trans (take_pre_take (Nat.min_le_left _ _)))
theorem GOk.noOther {G : Gh} {c : Int} {R : Nat → Rl} (h : GOk G c R) {n m : Nat} (hn : n < 4) (hm : m < 4) (hl : (R n).leads = true) (hl' : (R m).leads = true) (he : (R m).v.e = (R n).v.e) : m = n := by
  obtain ⟨a1, a2⟩ := leads_iff.1 hl
  obtain ⟨b1, b2⟩ := leads_iff.1 hl'
  have hN := h.nd n hn
  have hM := h.nd m hm
  rcases hN.v with g | g
  · rw [g] at a1; exact absurd a1 (by decide)
  rcases hM.v with g' | g'
  · rw [g'] at b1; exact absurd b1 (by decide)
  rw [g.2.2, hN.id] at a2
  rw [g'.2.2, hM.id, he] at b2
  omega
theorem GOk.propose {G : Gh} {c : Int} {R : Nat → Rl} {n : Nat} (h : GOk G c R) (hn : n < 4) (hl : (R n).leads = true) (x : Ent) :
    ∃ G', Up G c G' ∧ G'.al = G.al ∧ GOk G' c (upd R n (settleP { R n with log := (R n).log ++ [x], acks := ackedL (R n).id ((R n).log.length + 1) (R n).acks })) ∧ G'.P (R n).v.e = (R n).log ++ [x] ∧ ∀ y, G'.P y = G.P y ∨ G'.P y = (R n).log ++ [x] := by
  have hN := h.nd n hn
  obtain ⟨hj, hlog⟩ := hN.ld hl
  obtain ⟨hp0, hpi⟩ := leads_iff.1 hl
  obtain ⟨a1, a2, a3, a4⟩ := hN.lg (by omega)
  have hvc := hN.vc h.c1
  rw [hj] at a1 a2 a3 a4
  have hup : Up G c { G with P := fun y => if y = (R n).v.e then (R n).log ++ [x] else G.P y, A := fun y m => if y = (R n).v.e ∧ m = n then (R n).log.length + 1 else G.A y m } := by
    refine ⟨fun _ _ => rfl, fun _ hs => hs, fun _ _ => rfl, fun y => ?_, fun y m => ?_, fun _ _ => rfl⟩
    · show _ <+: if y = _ then _ else _
      split
      · rename_i g
        rw [g, ← hlog]; exact List.prefix_append _ _
      · exact List.prefix_rfl
    · show _ ≤ if y = _ ∧ m = n then _ else _
      split
      · rename_i g
        rw [g.1, g.2, a4]; omega
      · exact Nat.le_refl _
  refine ⟨_, hup, rfl, GOk.settled ?_ hn, if_pos rfl, fun y => by
    show (if y = _ then _ else _) = _ ∨ (if y = _ then _ else _) = _
    split
    · exact .inr rfl
    · exact .inl rfl⟩
  refine h.step hn hup (Int.le_refl _) (Int.le_refl _) (fun e m hm => if_neg (fun g => hm g.2)) (fun e he => if_neg (fun g => by omega)) (fun m hm hmn hlm => if_neg (fun g => hmn (h.noOther hn hm hl hlm g))) ?_ (fun _ m k hk => ?_) (fun e a b => absurd a b) (fun e he => ?_) (fun e => ?_) (fun e' e _ _ a b => absurd a b)
  · refine ⟨hN.id, hN.v, hN.j, fun g => ?_, fun g => ?_, fun e he => ?_, fun _ => ⟨hj, (if_pos rfl).symm⟩, fun g => ⟨hl, fun y hy => ?_⟩, ?_, ?_⟩
    · exfalso
      have : (R n).joined = 0 := g
      omega
    · show G.St (R n).joined ∧ G.B (R n).joined <+: (R n).log ++ [x] ∧ (R n).log ++ [x] <+: (if (R n).joined = (R n).v.e then (R n).log ++ [x] else G.P (R n).joined) ∧ (if (R n).joined = (R n).v.e ∧ n = n then (R n).log.length + 1 else G.A (R n).joined n) = ((R n).log ++ [x]).length
      rw [if_pos hj, if_pos ⟨hj, rfl⟩, hj, List.length_append]
      exact ⟨a1, a2.trans (List.prefix_append _ _), List.prefix_rfl, rfl⟩
    · have he' : (R n).joined < e := he
      show (if e = (R n).v.e ∧ n = n then _ else G.A e n) = 0
      rw [if_neg (fun g => by omega)]
      exact hN.a0 e he'
    · show ((ackedL (R n).id ((R n).log.length + 1) (R n).acks).lookup y).isSome = true
      rw [lookup_acked]
      split
      · rfl
      · exact (hN.ac g).2 y hy
    · show (R n).sure ≤ ((R n).log ++ [x]).length
      rw [List.length_append]
      have := hN.su.1
      omega
    · show Gh.cs _ (R n).joined (((R n).log ++ [x]).take (R n).sure)
      rw [List.take_append_of_le_length hN.su.1]
      exact hN.su.2.up hup (by omega)
  · have hk' : (ackedL (R n).id ((R n).log.length + 1) (R n).acks).lookup m = some k := hk
    rw [lookup_acked] at hk'
    have hjj : ∀ m' : Nat, m' < 4 → (R m').joined = (upd R n { R n with log := (R n).log ++ [x], acks := ackedL (R n).id ((R n).log.length + 1) (R n).acks } m').joined := fun m' _ => by
      by_cases g : m' = n
      · subst g; rw [upd_same]
      · rw [upd_other _ _ g]
    split at hk'
    · rename_i g
      obtain rfl := Option.some.inj hk'
      refine ⟨n, hn, by rw [g, hN.id], ?_, ?_⟩
      · show _ ≤ if (R n).v.e = (R n).v.e ∧ n = n then _ else _
        rw [if_pos ⟨rfl, rfl⟩]
        exact Nat.le_refl _
      · rw [← hjj n hn, hj]
        exact Int.le_refl _
    · obtain ⟨m', b1, b2, b3, b4⟩ := h.ak n hn hl m k hk'
      exact ⟨m', b1, b2, Nat.le_trans b3 (hup.A _ _), by rw [← hjj m' b1]; exact b4⟩
  · obtain ⟨b1, b2⟩ := h.ns e he
    have ge : e ≠ (R n).v.e := fun g => he (g ▸ a1)
    exact ⟨(if_neg ge).trans b1, fun m => (if_neg (fun g => ge g.1)).trans (b2 m)⟩
  · show (if e = (R n).v.e ∧ n = n then (R n).log.length + 1 else G.A e n) ≤ (if e = (R n).v.e then (R n).log ++ [x] else G.P e).length
    by_cases g : e = (R n).v.e
    · rw [if_pos ⟨g, rfl⟩, if_pos g, List.length_append]
      exact Nat.le_refl _
    · rw [if_neg (fun g' => g g'.1), if_neg g]
      exact h.al e n hn
theorem GOk.ack {G : Gh} {c : Int} {R : Nat → Rl} {n f k : Nat} (h : GOk G c R) (hn : n < 4) (hl : (R n).leads = true) (hf : f < 4) (hk : k ≤ G.A (R n).v.e f) (hj : (R n).v.e ≤ (R f).joined) :
    GOk G c (upd R n (settleP { R n with acks := ackedL (f : Int) k (R n).acks })) := by
  have hN := h.nd n hn
  refine GOk.settled (h.soft hn _ rfl rfl rfl rfl (fun g => ⟨hl, fun y hy => ?_⟩) hN.su (fun _ m i hi => ?_)) hn
  · show ((ackedL (f : Int) k (R n).acks).lookup y).isSome = true
    rw [lookup_acked]
    split
    · rfl
    · exact (hN.ac g).2 y hy
  · have hi' : (ackedL (f : Int) k (R n).acks).lookup m = some i := hi
    rw [lookup_acked] at hi'
    split at hi'
    · rename_i g
      obtain rfl := Option.some.inj hi'
      exact ⟨f, hf, g, hk, hj⟩
    · exact h.ak n hn hl m i hi'
end Go.Proofs.Ytjhcgnmibnjocaa

/-! Nodes that agree: messages. -/
namespace Go.Proofs.Ytjhcgnmibnjocaa
open Go.RowKit
set_option linter.unusedVariables false
set_option linter.unusedSimpArgs false
/-- A message of a node that is true. -/
def MOk (G : Gh) (R : Nat → Rl) (f : Nat) (m : Mg) : Prop :=
  (m.k = 1 ∧ G.St m.e ∧ m.v = G.V m.e ∧ m.v.p = (f : Int) ∧ G.B m.e <+: m.log ∧ m.log <+: G.P m.e ∧ G.su m.e m.s) ∨
  (m.k = 2 ∧ G.St m.e ∧ (G.V m.e).p = (f : Int) ∧ (∀ x, m.log = [x] → ∃ i : Nat, m.i = (i : Int) + 1 ∧ (G.P m.e)[i]? = some x) ∧ G.su m.e m.s) ∨
  (m.k = 3 ∧ m.i.toNat ≤ G.A m.e f ∧ m.e ≤ (R f).joined)
theorem pre_get {L M : List Ent} (h : L <+: M) {i : Nat} {x : Ent} (hx : L[i]? = some x) : M[i]? = some x := by
  obtain ⟨t, rfl⟩ := h
  have := (List.getElem?_eq_some_iff.1 hx).1
  rw [List.getElem?_append_left this]
  exact hx
theorem pre_snoc {L M : List Ent} (h : L <+: M) {x : Ent} (hx : M[L.length]? = some x) : L ++ [x] <+: M := by
  obtain ⟨t, rfl⟩ := h
  rw [List.getElem?_append_right (Nat.le_refl _), Nat.sub_self] at hx
  cases t with
  | nil => cases hx
  | cons y t =>
    obtain rfl := Option.some.inj hx
    exact ⟨t, by simp⟩
theorem MOk.up {G G' : Gh} {c : Int} {R R' : Nat → Rl} {f : Nat} {m : Mg} (h : MOk G R f m) (hf : f < 4) (hG : ∀ e, G.St e → e ≤ c) (hu : Up G c G') (hr : RUp R R') : MOk G' R' f m := by
  rcases h with ⟨a1, a2, a3, a4, a5, a6, a7⟩ | ⟨a1, a2, a3, a4, a5⟩ | ⟨a1, a2, a3⟩
  · have he := hG _ a2
    exact .inl ⟨a1, hu.St _ a2, by rw [hu.V _ he]; exact a3, a4, by rw [hu.B _ a2]; exact a5, a6.trans (hu.P _), a7.up hu he⟩
  · have he := hG _ a2
    refine .inr (.inl ⟨a1, hu.St _ a2, by rw [hu.V _ he]; exact a3, fun x hx => ?_, a5.up hu he⟩)
    obtain ⟨i, h1, h2⟩ := a4 x hx
    exact ⟨i, h1, pre_get (hu.P _) h2⟩
  · exact .inr (.inr ⟨a1, Nat.le_trans a2 (hu.A _ _), Int.le_trans a3 (hr f hf).1⟩)
theorem GOk.view {G : Gh} {c : Int} {R : Nat → Rl} {n : Nat} (h : GOk G c R) (hn : n < 4) (h1 : 1 ≤ (R n).v.e) : (R n).v.e ≤ c ∧ (R n).v = G.V (R n).v.e := by
  rcases (h.nd n hn).v with g | g
  · rw [g] at h1; exact absurd h1 (by decide)
  · exact g.2
/-- What a primary has told is sure. -/
theorem GOk.own {G : Gh} {c : Int} {R : Nat → Rl} {n : Nat} (h : GOk G c R) (hn : n < 4) (hl : (R n).leads = true) : G.St (R n).v.e ∧ G.B (R n).v.e <+: (R n).log ∧ (R n).log = G.P (R n).v.e ∧ (R n).joined = (R n).v.e ∧ 1 ≤ (R n).v.e ∧ (R n).v.p = (n : Int) ∧ G.su (R n).v.e (R n).sure := by
  have hN := h.nd n hn
  obtain ⟨hj, hlog⟩ := hN.ld hl
  obtain ⟨hp, hi⟩ := leads_iff.1 hl
  obtain ⟨a1, a2, a3, a4⟩ := hN.lg (by omega)
  rw [hj] at a1 a2
  have hs := hN.su
  refine ⟨a1, a2, hlog, hj, by omega, by rw [hi, hN.id], (R n).sure, rfl, by rw [← hlog]; exact hs.1, ?_⟩
  rw [← hlog, ← hj]
  exact hs.2
theorem rup_upd {R : Nat → Rl} {n : Nat} {r r' : Rl} (h1 : r.joined ≤ r'.joined) (h2 : r.v.e ≤ r'.v.e) : RUp (upd R n r) (upd R n r') := by
  rw [← upd_upd R n r r']
  exact RUp.upd (by rw [upd_same]; exact h1) (by rw [upd_same]; exact h2)
/-- A step of one node: what there is behind it. -/
structure Stp (G : Gh) (c : Int) (R : Nat → Rl) (n : Nat) (r' : Rl) (outs : List Ot) (G' : Gh) : Prop where
  up : Up G c G'
  al : G'.al = G.al
  ok : GOk G' c (upd R n r')
  ru : RUp R (upd R n r')
  ms : ∀ o ∈ outs, MOk G' (upd R n r') n o.m
theorem hearO_ok {G : Gh} {c : Int} {R : Nat → Rl} {n f : Nat} {r : Rl} {s : Int} (h : GOk G c (upd R n r)) (hn : n < 4) (hj : r.joined = r.v.e) (h1 : 1 ≤ r.v.e) : ∀ o ∈ hearO r (f : Int), MOk G (upd R n (hearP r s)) n o.m := fun o ho => by
  rw [hearO, List.mem_singleton] at ho
  subst ho
  have hN := h.nd n hn
  rw [upd_same] at hN
  obtain ⟨_, _, _, a4⟩ := hN.lg (by omega)
  rw [hj] at a4
  refine .inr (.inr ⟨rfl, ?_, ?_⟩)
  · show ((r.log.length : Nat) : Int).toNat ≤ G.A r.v.e n
    rw [a4, Int.toNat_natCast]
    exact Nat.le_refl _
  · rw [upd_same]
    show r.v.e ≤ (hearP r s).joined
    unfold hearP
    show r.v.e ≤ r.joined
    omega
theorem promise_far {r : Rl} {v : Vi} (h : v.p ≠ r.id) : (promiseP r v).leads = false ∧ (promiseP r v).joined = r.joined := by
  obtain ⟨a1, a2, a3, a4⟩ := promise_same r v
  refine ⟨?_, by rw [a4, if_neg (fun g => h g.2)]⟩
  rw [Bool.eq_false_iff]
  intro hl
  have := (leads_iff.1 hl).2
  rw [a1, a2] at this
  exact h this
theorem offerOk_iff {r : Rl} {f : Int} {m : Mg} (h : offerOk r f m = true) : m.v.right = true ∧ m.v.e = m.e ∧ m.v.p = f ∧ f ≠ r.id ∧ r.v.e ≤ m.e ∧ (m.e = r.v.e → r.v.p = f) := by
  unfold offerOk at h
  simp only [Bool.and_eq_true, decide_eq_true_eq, Bool.not_eq_true', beq_eq_false_iff_ne, Bool.and_eq_false_iff, decide_eq_false_iff_not, beq_eq_false_iff_ne, Bool.not_eq_false', beq_iff_eq] at h
  obtain ⟨⟨⟨⟨⟨⟨⟨h1, h2⟩, h3⟩, h4⟩, h5⟩, h6⟩, h7⟩, h8⟩ := h
  refine ⟨h1, h2, h3, h4, by omega, fun g => ?_⟩
  rcases h8 with h8 | h8
  · exact absurd g h8
  · exact h8
/-- No log of an epoch is another one but the node's own. -/
def Pn (G : Gh) (r : Rl) (G' : Gh) : Prop := ∀ x, G'.P x = G.P x ∨ G'.P x = r.log
theorem Pn.refl (G : Gh) (r : Rl) : Pn G r G := fun _ => .inl rfl
theorem GOk.offer {G : Gh} {c : Int} {R : Nat → Rl} {n f : Nat} {m : Mg} (h : GOk G c R) (hn : n < 4) (hf : f < 4) (hm : MOk G R f m) (hk : m.k = 1) : ∃ G', Stp G c R n (offerP (R n) (f : Int) m).r (offerP (R n) (f : Int) m).outs G' ∧ Pn G (R n) G' := by
  unfold offerP
  split
  · rename_i ho
    obtain ⟨o1, o2, o3, o4, o5, o6⟩ := offerOk_iff ho
    obtain ⟨_, a2, a3, a4, a5, a6, a7⟩ : m.k = 1 ∧ G.St m.e ∧ m.v = G.V m.e ∧ m.v.p = (f : Int) ∧ G.B m.e <+: m.log ∧ m.log <+: G.P m.e ∧ G.su m.e m.s := by
      rcases hm with hm | hm | hm
      · exact hm
      · have := hm.1; omega
      · have := hm.1; omega
    obtain ⟨s1, s2, s3, s4⟩ := h.st _ a2
    have hN := h.nd n hn
    -- promised
    have P1 : ∃ G1, Up G c G1 ∧ G1.al = G.al ∧ GOk G1 c (upd R n (offer1 (R n) m)) ∧ (offer1 (R n) m).v = G.V m.e ∧ (offer1 (R n) m).leads = false ∧ (offer1 (R n) m).joined = (R n).joined ∧ (offer1 (R n) m).log = (R n).log ∧ Pn G (R n) G1 := by
      unfold offer1
      split
      · rename_i g
        obtain ⟨G1, u1, u2, u3, u4⟩ := h.promise hn s1 s2 g
        rw [a3]
        have hp := promise_far (r := R n) (v := G.V m.e) (by rw [← a3, a4]; exact o4)
        exact ⟨G1, u1, u2, u3, (promise_same _ _).2.1, hp.1, hp.2, (promise_same _ _).2.2.1, u4⟩
      · rename_i g
        have ge : m.e = (R n).v.e := by omega
        refine ⟨G, Up.refl G c, rfl, by rw [upd_self]; exact h, ?_, ?_, rfl, rfl, Pn.refl _ _⟩
        · rw [ge]; exact (h.view hn (by omega)).2
        · rw [Bool.eq_false_iff]
          intro hl
          have := (leads_iff.1 hl).2
          rw [o6 ge] at this
          exact o4 this
    obtain ⟨G1, u1, u2, u3, u4, u5, u6, u7, u8⟩ := P1
    generalize hr1 : offer1 (R n) m = r1 at *
    have he1 : r1.v.e = m.e := by rw [u4]; exact (h.ve _ s1 s2).1
    have hru1 : RUp R (upd R n r1) := RUp.upd (by omega) (by omega)
    have hx := u3.join hn (by rw [upd_same]; exact u5) m.log
    rw [upd_same, he1] at hx
    have hB1 : G1.B m.e = G.B m.e := u1.B _ a2
    -- taken
    have P2 : ∃ G2, Up G1 c G2 ∧ G2.al = G1.al ∧ GOk G2 c (upd R n (offer2 r1 m)) ∧ (offer2 r1 m).joined = m.e ∧ (offer2 r1 m).v = r1.v ∧ (offer2 r1 m).log <+: G2.P m.e ∧ G2.P = G1.P := by
      unfold offer2
      split
      · rename_i ht
        have hkk : r1.joined = m.e → r1.log <+: m.log := fun g => by
          unfold takes at ht
          simp only [Bool.or_eq_true, Bool.not_eq_true', beq_eq_false_iff_ne, decide_eq_true_eq] at ht
          rcases ht with ht | ht
          · exact absurd (by omega) ht
          · have hN1 := u3.nd n hn
            rw [upd_same] at hN1
            obtain ⟨_, _, c3, _⟩ := hN1.lg (by omega)
            rw [g] at c3
            exact List.prefix_of_prefix_length_le c3 (a6.trans (u1.P _)) ht
        obtain ⟨G2, x1, x2, x3, x4, x5⟩ := hx (u1.St _ a2) (by rw [hB1]; exact a5) (a6.trans (u1.P _)) hkk
        rw [upd_upd] at x3
        refine ⟨G2, x1, x2, ?_, he1, rfl, by show m.log <+: _; rw [x5]; exact a6.trans (u1.P _), x5⟩
        rw [he1]
        exact x3
      · rename_i ht
        unfold takes at ht
        simp only [Bool.or_eq_true, Bool.not_eq_true', beq_eq_false_iff_ne, decide_eq_true_eq, not_or, Decidable.not_not] at ht
        have hN1 := u3.nd n hn
        rw [upd_same] at hN1
        obtain ⟨_, _, c3, _⟩ := hN1.lg (by omega)
        rw [ht.1, he1] at c3
        exact ⟨G1, Up.refl _ _, rfl, u3, by omega, rfl, c3, rfl⟩
    obtain ⟨G2, w1, w2, w3, w4, w5, w6, w9⟩ := P2
    generalize hr2 : offer2 r1 m = r2 at *
    have he2 : r2.v.e = m.e := by rw [w5]; exact he1
    have hu2 := u1.trans w1 (Int.le_refl c)
    have w7 := w3.hear hn m.s
    rw [upd_same, upd_upd, he2] at w7
    have w8 := w7 w4 w6 (a7.up hu2 s2)
    refine ⟨G2, ⟨hu2, w2.trans u2, w8, ?_, ?_⟩, by rw [Pn, w9]; exact u8⟩
    · refine hru1.trans (rup_upd ?_ ?_)
      · show r1.joined ≤ r2.joined
        have := hN.j
        omega
      · show r1.v.e ≤ r2.v.e
        omega
    · exact hearO_ok w3 hn (by omega) (by omega)
  · exact ⟨G, ⟨Up.refl G c, rfl, by rw [upd_self]; exact h, by rw [upd_self]; exact RUp.refl R, fun o ho => by cases ho⟩, Pn.refl _ _⟩
theorem GOk.ship {G : Gh} {c : Int} {R : Nat → Rl} {n f : Nat} {m : Mg} (h : GOk G c R) (hn : n < 4) (hf : f < 4) (hm : MOk G R f m) (hk : m.k = 2) : ∃ G', Stp G c R n (shipP (R n) (f : Int) m).r (shipP (R n) (f : Int) m).outs G' ∧ Pn G (R n) G' := by
  unfold shipP
  split
  · rename_i ho
    unfold shipOk at ho
    simp only [Bool.and_eq_true, decide_eq_true_eq, Bool.not_eq_true', beq_eq_false_iff_ne] at ho
    obtain ⟨⟨⟨o1, o2⟩, o3⟩, o4⟩ := ho
    obtain ⟨_, a2, a3, a4, a5⟩ : m.k = 2 ∧ G.St m.e ∧ (G.V m.e).p = (f : Int) ∧ (∀ x, m.log = [x] → ∃ i : Nat, m.i = (i : Int) + 1 ∧ (G.P m.e)[i]? = some x) ∧ G.su m.e m.s := by
      rcases hm with hm | hm | hm
      · have := hm.1; omega
      · exact hm
      · have := hm.1; omega
    obtain ⟨s1, s2, s3, s4⟩ := h.st _ a2
    have hN := h.nd n hn
    have hl : (R n).leads = false := by
      rw [Bool.eq_false_iff]
      intro hl
      have := (leads_iff.1 hl).2
      rw [o3] at this
      exact o4 this
    have hjv : (R n).joined = (R n).v.e := by omega
    obtain ⟨c1, c2, c3, c4⟩ := hN.lg (by omega)
    rw [hjv] at c1 c2 c3 c4
    have P2 : ∃ G2, Up G c G2 ∧ G2.al = G.al ∧ GOk G2 c (upd R n (ship1 (R n) m)) ∧ (ship1 (R n) m).joined = m.e ∧ (ship1 (R n) m).v = (R n).v ∧ (ship1 (R n) m).log <+: G2.P m.e ∧ G2.P = G.P := by
      unfold ship1
      split
      · rename_i x hx
        unfold shipIn at hx
        split at hx
        · rename_i y hy
          split at hx
          · rename_i hi
            obtain rfl := Option.some.inj hx
            obtain ⟨i, i1, i2⟩ := a4 y hy
            have : i = (R n).log.length := by omega
            subst this
            rw [o1] at i2
            have hsn := pre_snoc c3 i2
            obtain ⟨G2, x1, x2, x3, x4, x5⟩ := h.join hn hl ((R n).log ++ [y]) c1 (c2.trans (List.prefix_append _ _)) hsn (fun _ => List.prefix_append _ _)
            refine ⟨G2, x1, x2, ?_, by show (R n).joined = m.e; omega, rfl, by rw [x5, o1]; exact hsn, x5⟩
            rw [← hjv] at x3
            exact x3
          · cases hx
        · cases hx
      · exact ⟨G, Up.refl _ _, rfl, by rw [upd_self]; exact h, by omega, rfl, by rw [o1]; exact c3, rfl⟩
    obtain ⟨G2, w1, w2, w3, w4, w5, w6, w9⟩ := P2
    generalize hr2 : ship1 (R n) m = r2 at *
    have he2 : r2.v.e = m.e := by rw [w5]; exact o1.symm
    have w7 := w3.hear hn m.s
    rw [upd_same, upd_upd, he2] at w7
    have w8 := w7 w4 w6 (a5.up w1 s2)
    refine ⟨G2, ⟨w1, w2, w8, ?_, ?_⟩, by rw [Pn, w9]; exact fun _ => .inl rfl⟩
    · refine RUp.upd ?_ ?_
      · show (R n).joined ≤ r2.joined
        omega
      · show (R n).v.e ≤ r2.v.e
        omega
    · exact hearO_ok w3 hn (by omega) (by omega)
  · exact ⟨G, ⟨Up.refl G c, rfl, by rw [upd_self]; exact h, by rw [upd_self]; exact RUp.refl R, fun o ho => by cases ho⟩, Pn.refl _ _⟩
theorem settled_up {R : Nat → Rl} {n : Nat} {r : Rl} (h1 : (R n).joined ≤ r.joined) (h2 : (R n).v.e ≤ r.v.e) : RUp R (upd R n (settleP r)) := by
  obtain ⟨_, a2, _, a4, _⟩ := settle_same r
  exact RUp.upd (by rw [a4]; exact h1) (by rw [a2]; exact h2)
theorem GOk.take {G : Gh} {c : Int} {R : Nat → Rl} {n f : Nat} {m : Mg} (h : GOk G c R) (hn : n < 4) (hf : f < 4) (hm : MOk G R f m) : ∃ G', Stp G c R n (takeP_ (R n) (f : Int) m).r (takeP_ (R n) (f : Int) m).outs G' ∧ Pn G (R n) G' := by
  have hsame : Stp G c R n (R n) [] G := ⟨Up.refl G c, rfl, by rw [upd_self]; exact h, by rw [upd_self]; exact RUp.refl R, fun o ho => by cases ho⟩
  unfold takeP_
  by_cases k1 : m.k = 1
  · rw [if_pos k1]; exact h.offer hn hf hm k1
  rw [if_neg k1]
  by_cases k2 : m.k = 2
  · rw [if_pos k2]; exact h.ship hn hf hm k2
  rw [if_neg k2]
  split
  · rename_i k3
    obtain ⟨a2, a3⟩ : m.i.toNat ≤ G.A m.e f ∧ m.e ≤ (R f).joined := by
      rcases hm with hm | hm | hm
      · exact absurd hm.1 k1
      · exact absurd hm.1 k2
      · exact hm.2
    unfold ackP
    split
    · rename_i ho
      unfold ackOk at ho
      simp only [Bool.and_eq_true, decide_eq_true_eq, Bool.not_eq_true', beq_eq_false_iff_ne] at ho
      obtain ⟨⟨⟨⟨⟨o1, o2⟩, o3⟩, o4⟩, o5⟩, o6⟩ := ho
      rw [o2] at a2 a3
      have hq : max (((R n).acks.lookup (f : Int)).getD 0) m.i.toNat ≤ G.A (R n).v.e f := by
        rcases hlk : (R n).acks.lookup (f : Int) with _ | i
        · rw [Option.getD_none]; omega
        · obtain ⟨f', b1, b2, b3, b4⟩ := h.ak n hn o1 _ _ hlk
          have : f' = f := by omega
          subst this
          rw [Option.getD_some]; omega
      exact ⟨G, ⟨Up.refl G c, rfl, h.ack hn o1 hf hq a3, settled_up (Int.le_refl _) (Int.le_refl _), fun o ho => by cases ho⟩, Pn.refl _ _⟩
    · exact ⟨G, hsame, Pn.refl _ _⟩
  · exact ⟨G, hsame, Pn.refl _ _⟩
theorem GOk.lead {G : Gh} {c : Int} {R : Nat → Rl} {n : Nat} (h : GOk G c R) (hn : n < 4) {v : Vi} (h1 : 1 ≤ v.e) (h2 : v.e ≤ c) (hv : v = G.V v.e) : ∃ G', Stp G c R n (leadP (R n) v).r [] G' ∧ Pn G (R n) G' := by
  have hsame : Stp G c R n (R n) [] G := ⟨Up.refl G c, rfl, by rw [upd_self]; exact h, by rw [upd_self]; exact RUp.refl R, fun o ho => by cases ho⟩
  unfold leadP
  split
  · split
    · exact ⟨G, hsame, Pn.refl _ _⟩
    · rename_i g
      obtain ⟨G1, u1, u2, u3, u4⟩ := h.promise hn h1 h2 (by omega)
      rw [← hv] at u3
      obtain ⟨_, b2, _, b4⟩ := promise_same (R n) v
      have hj := (h.nd n hn).j
      refine ⟨G1, ⟨u1, u2, u3, RUp.upd ?_ ?_, fun o ho => by cases ho⟩, u4⟩
      · show _ ≤ (promiseP (R n) v).joined
        rw [b4]
        split <;> omega
      · show _ ≤ (promiseP (R n) v).v.e
        rw [b2]; omega
  · exact ⟨G, hsame, Pn.refl _ _⟩
theorem GOk.proposeS {G : Gh} {c : Int} {R : Nat → Rl} {n : Nat} (h : GOk G c R) (hn : n < 4) (x : List Nat) : ∃ G', Stp G c R n (proposeP (R n) x).r (proposeP (R n) x).outs G' ∧ ∀ y, G'.P y = G.P y ∨ G'.P y = (R n).log ++ [⟨(R n).v.e, x⟩] := by
  have hsame : Stp G c R n (R n) [] G := ⟨Up.refl G c, rfl, by rw [upd_self]; exact h, by rw [upd_self]; exact RUp.refl R, fun o ho => by cases ho⟩
  unfold proposeP
  split
  · exact ⟨G, hsame, fun _ => .inl rfl⟩
  split
  · exact ⟨G, hsame, fun _ => .inl rfl⟩
  rename_i hl
  split
  · exact ⟨G, hsame, fun _ => .inl rfl⟩
  have hl' : (R n).leads = true := by
    simp only [Bool.not_eq_true', Bool.not_eq_false, Bool.and_eq_true] at hl
    exact hl.1
  obtain ⟨G', u1, u2, u3', u4, u5⟩ := h.propose hn hl' ⟨(R n).v.e, x⟩
  have u3 : GOk G' c (upd R n (proposed (R n) x)) := u3'
  clear u3'
  have ho := h.own hn hl'
  obtain ⟨b1, b2, b3, b4, b5⟩ := settle_same { R n with log := (R n).log ++ [⟨(R n).v.e, x⟩], acks := ackedL (R n).id ((R n).log.length + 1) (R n).acks }
  have hlp : (upd R n (proposed (R n) x) n).leads = true := by
    rw [upd_same]
    unfold proposed
    rw [leads_eq b1 b2]
    exact hl'
  have ho' := u3.own hn hlp
  rw [upd_same] at ho'
  have hve : (proposed (R n) x).v = (R n).v := b2
  rw [hve] at ho'
  refine ⟨G', ⟨u1, u2, u3, settled_up (Int.le_refl _) (Int.le_refl _), fun o hmem => ?_⟩, u5⟩
  simp only [List.mem_map] at hmem
  obtain ⟨y, _, rfl⟩ := hmem
  refine .inr (.inl ⟨rfl, ho'.1, ?_, fun z hz => ?_, ho'.2.2.2.2.2.2⟩)
  · have hvw := h.view hn ho.2.2.2.2.1
    show (G'.V (R n).v.e).p = n
    rw [u1.V _ hvw.1, ← hvw.2]
    exact ho.2.2.2.2.2.1
  · have hz' : (⟨(R n).v.e, x⟩ : Ent) = z := by
      have : [(⟨(R n).v.e, x⟩ : Ent)] = [z] := hz
      exact List.cons.inj this |>.1
    refine ⟨(R n).log.length, ?_, ?_⟩
    · show (((R n).log.length + 1 : Nat) : Int) = _
      omega
    · show (G'.P (R n).v.e)[(R n).log.length]? = some z
      rw [u4, List.getElem?_append_right (Nat.le_refl _), Nat.sub_self, ← hz']
      rfl
theorem ships_ok {G : Gh} {R : Nat → Rl} {r : Rl} {f k : Nat} {n : Int} (hs : G.St r.v.e) (hp : (G.V r.v.e).p = (f : Int)) (hl : r.log = G.P r.v.e) (hsu : G.su r.v.e r.sure) : ∀ j, ∀ o ∈ shipsP r n k j, MOk G R f o.m
  | 0, o, ho => by cases ho
  | j + 1, o, ho => by
    unfold shipsP at ho
    rcases List.mem_append.1 ho with ho | ho
    · exact ships_ok hs hp hl hsu j o ho
    · split at ho
      · rename_i x hx
        rw [List.mem_singleton] at ho
        subst ho
        refine .inr (.inl ⟨rfl, hs, hp, fun z hz => ⟨k + j, ?_, ?_⟩, hsu⟩)
        · show ((k + j + 1 : Nat) : Int) = _
          omega
        · have hz' : x = z := by
            have : [x] = [z] := hz
            exact List.cons.inj this |>.1
          show (G.P r.v.e)[k + j]? = some z
          rw [← hl, ← hz']
          exact hx
      · cases ho
theorem GOk.tick {G : Gh} {c : Int} {R : Nat → Rl} {n : Nat} (h : GOk G c R) (hn : n < 4) : ∀ o ∈ tickP (R n), MOk G R n o.m := fun o ho => by
  unfold tickP at ho
  split at ho
  · rename_i hl
    obtain ⟨a1, a2, a3, a4, a5, a6, a7⟩ := h.own hn hl
    have hvw := h.view hn a5
    have hp : (G.V (R n).v.e).p = (n : Int) := by rw [← hvw.2]; exact a6
    obtain ⟨x, _, hx⟩ := List.mem_flatMap.1 ho
    unfold tickOne at hx
    split at hx
    · rw [List.mem_singleton] at hx
      subst hx
      exact .inl ⟨rfl, a1, hvw.2, a6, a2, by rw [← a3]; exact List.prefix_rfl, a7⟩
    · rename_i k hk
      rcases List.mem_append.1 hx with hx | hx
      · split at hx
        · rw [List.mem_singleton] at hx
          subst hx
          exact .inr (.inl ⟨rfl, a1, hp, fun z hz => (by cases hz), a7⟩)
        · cases hx
      · exact ships_ok a1 hp a3 a7 16 o hx
  · cases ho
end Go.Proofs.Ytjhcgnmibnjocaa

/-! Records are read back as they were written: plain. -/
namespace Go.Proofs.Ytjhcgnmibnjocaa
open Go.RowKit
set_option linter.unusedVariables false
set_option linter.unusedSimpArgs false
theorem num_numB' {n : Nat} : num (be (longN n) n) = n := by rw [num_be, Nat.mod_eq_of_lt (lt_longN n)]
theorem numP_back {n : Nat} (h : n < 18446744073709551616) (rest : List Nat) : numP ⟨numB n ++ rest, 0⟩ = (n, ⟨rest, 0⟩) := by
  unfold numB
  by_cases h1 : n < 248
  · rw [if_pos h1]
    exact numP_low rest h1
  · rw [if_neg h1]
    have h2 := longN_le 8 n (by omega)
    have h3 : 1 ≤ longN n := by rw [longN_pos (by omega)]; omega
    have hk : 247 + longN n - 247 = longN n := by omega
    have hl := be_length (longN n) n
    have hn := @num_numB' n
    rw [List.cons_append, numP_long (by omega) (by rw [hk, List.length_append]; omega), hk, List.take_left' hl, List.drop_left' hl, hn, if_neg (fun h => by rcases h with h | h <;> omega)]
theorem count_back {n : Nat} {m : Int} (h : (n : Int) ≤ m) (h' : n < 18446744073709551616) (rest : List Nat) : countP m ⟨numB n ++ rest, 0⟩ = (n, ⟨rest, 0⟩) := by
  unfold countP
  rw [numP_back h' rest, if_neg (fun h => by rcases h with h | h <;> simp only at h <;> omega)]
theorem glP_back (rest : List Nat) {l : List Int} (hl : ∀ x ∈ l, I64 x) : ∀ j, j ≤ l.length → glP j ⟨tailB l ++ rest, 0⟩ = (l.take j, ⟨tailB (l.drop j) ++ rest, 0⟩)
  | 0, _ => rfl
  | j + 1, h => by
    unfold glP
    rw [glP_back rest hl j (by omega)]
    have hj : l.drop j = l[j] :: l.drop (j + 1) := (List.drop_eq_getElem_cons (by omega))
    have ht : tailB (l.drop j) ++ rest = numB (zig l[j]) ++ (tailB (l.drop (j + 1)) ++ rest) := by
      rw [hj]
      show List.flatMap _ (l[j] :: l.drop (j + 1)) ++ rest = _
      rw [List.flatMap_cons, List.append_assoc]
      rfl
    simp only
    rw [ht, numP_back (zig_lt _ (hl _ (List.getElem_mem (by omega)))), zag_zig, List.take_add_one, List.getElem?_eq_getElem (by omega)]
    rfl
theorem getV_back {e p : Int} {l : List Int} (he : I64 e) (hp : I64 p) (hl : ∀ x ∈ l, I64 x) (hn : l.length ≤ 8) (rest : List Nat) : getV ⟨viewB e p l ++ rest, 0⟩ = ⟨e, p, l, ⟨rest, 0⟩⟩ := by
  have h1 : numP ⟨viewB e p l ++ rest, 0⟩ = (zig e, ⟨numB (zig p) ++ (numB l.length ++ (tailB l ++ rest)), 0⟩) := by
    rw [viewB, List.append_assoc, numP_back (zig_lt _ he)]
    simp
  have h2 := numP_back (zig_lt _ hp) (numB l.length ++ (tailB l ++ rest))
  have h3 := count_back (n := l.length) (m := 8) (by omega) (by omega) (tailB l ++ rest)
  have h4 := glP_back rest hl l.length (Nat.le_refl _)
  rw [List.take_length, List.drop_length] at h4
  have hg := gvP_eq h1 h2 h3
  rw [h4, zag_zig, zag_zig] at hg
  unfold getV
  rw [hg]
  rfl
theorem glStep_back {x : Ent} (hx : x.ok) (rest : List Nat) : glStep ⟨entB x ++ rest, 0⟩ = (x, ⟨rest, 0⟩) := by
  have hn := hx.n
  have h1 : numP ⟨entB x ++ rest, 0⟩ = (zig x.e, ⟨numB x.t.length ++ (x.t ++ rest), 0⟩) := by
    rw [entB, List.append_assoc, numP_back (zig_lt _ hx.e), List.append_assoc]
  have h2 := count_back (n := x.t.length) (m := 262144) (by omega) (by omega) (x.t ++ rest)
  unfold glStep textP
  rw [h1]
  simp only
  rw [h2]
  simp only
  rw [takeP_ok (by rw [List.length_append]; omega), List.take_left' rfl, List.drop_left' rfl, zag_zig]
theorem glE_back (rest : List Nat) : ∀ (l : List Ent), (∀ x ∈ l, x.ok) → glE l.length ⟨entsB l ++ rest, 0⟩ = (l, ⟨rest, 0⟩)
  | [], _ => rfl
  | x :: l, h => by
    rw [List.length_cons, glE_next _ rfl, show entsB (x :: l) ++ rest = entB x ++ (entsB l ++ rest) by simp [entsB], glStep_back (h x (by simp))]
    simp only
    rw [glE_back rest l (fun y hy => h y (by simp [hy]))]
theorem getL_back {l : List Ent} (h : ∀ x ∈ l, x.ok) (hn : l.length ≤ 4096) (rest : List Nat) : getL ⟨logB l ++ rest, 0⟩ = (l, ⟨rest, 0⟩) := by
  unfold getL
  rw [logB, List.append_assoc, count_back (by omega) (by omega)]
  simp only
  exact glE_back rest l h
theorem endP_nil : (endP ⟨[], 0⟩).e = 0 := rfl
theorem restore_promise {r : Rl} {v : Vi} (hv : v.right = true) (he : r.v.e < v.e) : restoreP r (recPromiseP v) = some (promiseP r v) := by
  have hb := right_bd hv
  have hm := rising_mem hb.2.2.1
  have hln := rising_len hb.2.2.1
  have hp := hm _ hb.2.2.2
  have h1 := numP_back (n := 1) (by omega) (viewB v.e v.p v.l)
  have h2 := getV_back (e := v.e) (p := v.p) (l := v.l) (by unfold I64; omega) (by unfold I64; omega) (fun x hx => by have := hm x hx; unfold I64; omega) hln []
  rw [List.append_nil] at h2
  unfold restoreP recPromiseP
  rw [h1, if_pos rfl]
  simp only
  rw [h2]
  unfold rest1
  rw [if_neg]
  rintro (h | h | h)
  · exact h endP_nil
  · have : v.right = false := h
    rw [hv] at this; cases this
  · have : v.e ≤ r.v.e := h
    omega
theorem restore_entry {r : Rl} {x : Ent} (hx : x.ok) (hn : r.log.length < 4096) : restoreP r (recEntryP (r.log.length + 1) x) = some { r with log := r.log ++ [x] } := by
  have h1 := numP_back (n := 2) (by omega) (numB (zig ((r.log.length + 1 : Nat) : Int)) ++ logB [x])
  have h2 := numP_back (zig_lt ((r.log.length + 1 : Nat) : Int) (by omega)) (logB [x])
  have h3 := getL_back (l := [x]) (fun y hy => by rw [List.mem_singleton] at hy; rw [hy]; exact hx) (by simp) []
  rw [List.append_nil] at h3
  unfold restoreP recEntryP
  rw [h1, if_neg (show ¬(2 : Nat) = 1 by decide), if_pos rfl]
  simp only
  rw [h2]
  simp only
  rw [h3, zag_zig]
  unfold rest2
  rw [if_neg]
  rintro (h | h | h | h)
  · exact h endP_nil
  · exact h rfl
  · exact h (by omega)
  · omega
theorem restore_log {r : Rl} {l : List Ent} {e : Int} (hl : ∀ x ∈ l, x.ok) (hn : l.length ≤ 4096) (h0 : 0 ≤ e) (he : e ≤ r.v.e) (hb : e ≤ 4611686018427387904) : restoreP r (recLogP e l) = some { r with joined := e, log := l } := by
  have h1 := numP_back (n := 3) (by omega) (numB (zig e) ++ logB l)
  have h2 := numP_back (zig_lt e (by omega)) (logB l)
  have h3 := getL_back hl hn []
  rw [List.append_nil] at h3
  unfold restoreP recLogP
  rw [h1, if_neg (show ¬(3 : Nat) = 1 by decide), if_neg (show ¬(3 : Nat) = 2 by decide), if_pos rfl]
  simp only
  rw [h2]
  simp only
  rw [h3, zag_zig]
  unfold rest3
  rw [if_neg]
  rintro (h | h | h)
  · exact h endP_nil
  · omega
  · omega
theorem restores_append (r : Rl) : ∀ (a b : List (List Nat)), restores r (a ++ b) = (restores r a).bind fun r' => restores r' b := by
  intro a
  induction a generalizing r with
  | nil => intro b; rfl
  | cons x a ih =>
    intro b
    rw [List.cons_append, restores, restores]
    cases restoreP r x with
    | none => rfl
    | some r' => exact ih r' b
/-- What lasted of a relay tells it. -/
def Kept (n : Nat) (r : Rl) (k : List (List Nat)) : Prop := ∃ ρ, restores (newP n) k = some ρ ∧ ρ.id = r.id ∧ ρ.v = r.v ∧ ρ.log = r.log ∧ ρ.joined = r.joined
theorem Kept.more {n : Nat} {r r' : Rl} {k l : List (List Nat)} (h : Kept n r k) (hl : ∀ ρ : Rl, ρ.id = r.id → ρ.v = r.v → ρ.log = r.log → ρ.joined = r.joined → ∃ ρ', restores ρ l = some ρ' ∧ ρ'.id = r'.id ∧ ρ'.v = r'.v ∧ ρ'.log = r'.log ∧ ρ'.joined = r'.joined) : Kept n r' (k ++ l) := by
  obtain ⟨ρ, h1, h2, h3, h4, h5⟩ := h
  obtain ⟨ρ', g1, g2⟩ := hl ρ h2 h3 h4 h5
  exact ⟨ρ', by rw [restores_append, h1]; exact g1, g2⟩
theorem Kept.same {n : Nat} {r r' : Rl} {k : List (List Nat)} (h : Kept n r k) (h2 : r'.id = r.id) (h3 : r'.v = r.v) (h4 : r'.log = r.log) (h5 : r'.joined = r.joined) : Kept n r' k := by
  obtain ⟨ρ, g1, g2, g3, g4, g5⟩ := h
  exact ⟨ρ, g1, g2.trans h2.symm, g3.trans h3.symm, g4.trans h4.symm, g5.trans h5.symm⟩
theorem restores_one {r r' : Rl} {b : List Nat} (h : restoreP r b = some r') : restores r [b] = some r' := by
  rw [restores, h]; rfl
theorem promise_eqs {r ρ : Rl} {v : Vi} (h1 : ρ.id = r.id) (h4 : ρ.log = r.log) (h5 : ρ.joined = r.joined) : (promiseP ρ v).id = (promiseP r v).id ∧ (promiseP ρ v).v = (promiseP r v).v ∧ (promiseP ρ v).log = (promiseP r v).log ∧ (promiseP ρ v).joined = (promiseP r v).joined := by
  obtain ⟨a1, a2, a3, a4⟩ := promise_same ρ v
  obtain ⟨b1, b2, b3, b4⟩ := promise_same r v
  rw [a1, a2, a3, a4, b1, b2, b3, b4, h1, h4, h5]
  exact ⟨rfl, rfl, rfl, rfl⟩
theorem Kept.lead {n : Nat} {r : Rl} {k : List (List Nat)} (h : Kept n r k) (v : Vi) : Kept n (leadP r v).r (k ++ (leadP r v).recs) := by
  unfold leadP
  split
  · rename_i hv
    split
    · rw [List.append_nil]; exact h
    · rename_i he
      refine h.more fun ρ h1 h2 h3 h4 => ⟨_, restores_one (restore_promise hv (by rw [h2]; omega)), promise_eqs h1 h3 h4⟩
  · rw [List.append_nil]; exact h
theorem Kept.propose {n : Nat} {r : Rl} {k : List (List Nat)} (h : Kept n r k) (x : List Nat) (hx : (⟨r.v.e, x⟩ : Ent).ok) : Kept n (proposeP r x).r (k ++ (proposeP r x).recs) := by
  unfold proposeP
  split
  · rw [List.append_nil]; exact h
  split
  · rw [List.append_nil]; exact h
  split
  · rw [List.append_nil]; exact h
  rename_i hn
  obtain ⟨b1, b2, b3, b4, b5⟩ := settle_same { r with log := r.log ++ [⟨r.v.e, x⟩], acks := ackedL r.id (r.log.length + 1) r.acks }
  refine h.more fun ρ h1 h2 h3 h4 => ⟨{ ρ with log := ρ.log ++ [⟨r.v.e, x⟩] }, restores_one ?_, h1.trans b1.symm, h2.trans b2.symm, ?_, h4.trans b4.symm⟩
  · have := restore_entry (r := ρ) hx (by rw [h3]; omega)
    rw [h3] at this
    rw [h3]
    exact this
  · show ρ.log ++ _ = (proposed r x).log
    unfold proposed
    rw [b3, h3]
theorem offer1_kept {r : Rl} {m : Mg} (hv : m.v.right = true) (he : m.v.e = m.e) {ρ : Rl} (h1 : ρ.id = r.id) (h2 : ρ.v = r.v) (h3 : ρ.log = r.log) (h4 : ρ.joined = r.joined) :
    ∃ ρ', restores ρ (offerR r m) = some ρ' ∧ ρ'.id = (offer1 r m).id ∧ ρ'.v = (offer1 r m).v ∧ ρ'.log = (offer1 r m).log ∧ ρ'.joined = (offer1 r m).joined := by
  unfold offerR offer1
  split
  · exact ⟨_, restores_one (restore_promise hv (by rw [h2]; omega)), promise_eqs h1 h3 h4⟩
  · exact ⟨ρ, rfl, h1, h2, h3, h4⟩
theorem Kept.offer {n : Nat} {r : Rl} {k : List (List Nat)} (h : Kept n r k) {f : Int} {m : Mg} (hm : ∀ x ∈ m.log, x.ok) : Kept n (offerP r f m).r (k ++ (offerP r f m).recs) := by
  unfold offerP
  split
  · rename_i ho
    obtain ⟨o1, o2, o3, o4, o5, o6⟩ := offerOk_iff ho
    have hln : m.log.length ≤ 4096 := by
      unfold offerOk at ho
      simp only [Bool.and_eq_true, decide_eq_true_eq] at ho
      exact ho.1.1.2
    have hb := right_bd o1
    refine h.more fun ρ h1 h2 h3 h4 => ?_
    obtain ⟨ρ1, g1, g2, g3, g4, g5⟩ := offer1_kept o1 o2 h1 h2 h3 h4
    have hve : (offer1 r m).v.e = m.e := by
      unfold offer1
      split
      · rw [(promise_same r m.v).2.1]; exact o2
      · omega
    rw [restores_append, g1]
    show ∃ ρ', restores ρ1 (offer2R (offer1 r m) m) = some ρ' ∧ ρ'.id = (hearP (offer2 (offer1 r m) m) m.s).id ∧ ρ'.v = (hearP (offer2 (offer1 r m) m) m.s).v ∧ ρ'.log = (hearP (offer2 (offer1 r m) m) m.s).log ∧ ρ'.joined = (hearP (offer2 (offer1 r m) m) m.s).joined
    generalize offer1 r m = r1 at *
    unfold hearP offer2R offer2
    split
    · exact ⟨_, restores_one (restore_log hm hln (by omega) (by rw [g3]; omega) (by omega)), g2, g3, rfl, rfl⟩
    · exact ⟨ρ1, rfl, g2, g3, g4, g5⟩
  · rw [List.append_nil]; exact h
theorem Kept.ship {n : Nat} {r : Rl} {k : List (List Nat)} (h : Kept n r k) {f : Int} {m : Mg} (hm : ∀ x ∈ m.log, x.ok) : Kept n (shipP r f m).r (k ++ (shipP r f m).recs) := by
  unfold shipP
  split
  · refine h.more fun ρ h1 h2 h3 h4 => ?_
    show ∃ ρ', restores ρ (ship1R r m) = some ρ' ∧ ρ'.id = (hearP (ship1 r m) m.s).id ∧ ρ'.v = (hearP (ship1 r m) m.s).v ∧ ρ'.log = (hearP (ship1 r m) m.s).log ∧ ρ'.joined = (hearP (ship1 r m) m.s).joined
    unfold hearP ship1R ship1
    split
    · rename_i x hx
      unfold shipIn at hx
      split at hx
      · rename_i y hy
        split at hx
        · rename_i hi
          obtain rfl := Option.some.inj hx
          have hr := restore_entry (r := ρ) (hm y (by rw [hy]; simp)) (by rw [h3]; omega)
          rw [h3] at hr
          exact ⟨_, restores_one hr, h1, h2, rfl, h4⟩
        · cases hx
      · cases hx
    · exact ⟨ρ, rfl, h1, h2, h3, h4⟩
  · rw [List.append_nil]; exact h
theorem Kept.take {n : Nat} {r : Rl} {k : List (List Nat)} (h : Kept n r k) {f : Int} {m : Mg} (hm : ∀ x ∈ m.log, x.ok) : Kept n (takeP_ r f m).r (k ++ (takeP_ r f m).recs) := by
  unfold takeP_
  split
  · exact h.offer hm
  split
  · exact h.ship hm
  split
  · rw [List.append_nil]
    show Kept n (ackP r f m) k
    unfold ackP
    split
    · obtain ⟨b1, b2, b3, b4, b5⟩ := settle_same { r with acks := ackedL f (max ((r.acks.lookup f).getD 0) m.i.toNat) r.acks }
      exact h.same b1 b2 b3 b4
    · exact h
  · rw [List.append_nil]; exact h
theorem GOk.load {G : Gh} {c : Int} {R : Nat → Rl} {n : Nat} (h : GOk G c R) (hn : n < 4) (r : Rl) (e1 : r.id = (R n).id) (e2 : r.v = (R n).v) (e3 : r.joined = (R n).joined) (e4 : r.log = (R n).log) : GOk G c (upd R n (loadedP r)) := by
  have hN := h.nd n hn
  have hl := leads_eq e1 e2
  unfold loadedP
  have hz : (0 : Nat) ≤ (R n).log.length ∧ G.cs (R n).joined ((R n).log.take 0) := ⟨Nat.zero_le _, .inl rfl⟩
  by_cases g : r.leads = true
  · rw [if_pos g]
    refine GOk.settled (h.soft hn _ e1 e2 e3 e4 (fun g => by cases g) hz (fun gl m k hk => ?_)) hn
    have hk' : (ackedL r.id r.log.length []).lookup m = some k := hk
    rw [lookup_acked] at hk'
    split at hk'
    · rename_i g'
      obtain rfl := Option.some.inj hk'
      obtain ⟨hj, _⟩ := hN.ld gl
      obtain ⟨hp, _⟩ := leads_iff.1 gl
      obtain ⟨_, _, _, a4⟩ := hN.lg (by omega)
      rw [hj] at a4
      exact ⟨n, hn, by rw [g', e1, hN.id], by rw [e4, a4]; exact Nat.le_refl _, by omega⟩
    · cases hk'
  · rw [if_neg g]
    exact GOk.settled (h.soft hn _ e1 e2 e3 e4 (fun g => by cases g) hz (fun gl m k hk => absurd (hl.trans gl) g)) hn
theorem Kept.load {n : Nat} {r ρ : Rl} {k : List (List Nat)} (h : Kept n r k) (hr : restores (newP n) k = some ρ) : ρ.id = r.id ∧ ρ.v = r.v ∧ ρ.log = r.log ∧ ρ.joined = r.joined ∧ Kept n (loadedP ρ) k := by
  obtain ⟨ρ', g1, g2, g3, g4, g5⟩ := h
  obtain rfl : ρ' = ρ := Option.some.inj (g1.symm.trans hr)
  refine ⟨g2, g3, g4, g5, ρ', g1, ?_⟩
  unfold loadedP
  split
  · obtain ⟨b1, b2, b3, b4, b5⟩ := settle_same { ρ' with sure := 0, act := false, acks := ackedL ρ'.id ρ'.log.length [] }
    exact ⟨b1.symm, b2.symm, b3.symm, b4.symm⟩
  · obtain ⟨b1, b2, b3, b4, b5⟩ := settle_same { ρ' with sure := 0, act := false, acks := [] }
    exact ⟨b1.symm, b2.symm, b3.symm, b4.symm⟩
end Go.Proofs.Ytjhcgnmibnjocaa

/-! Nodes that agree: a control, letters, steps; what is sure is one list. -/
namespace Go.Proofs.Ytjhcgnmibnjocaa
open Go.RowKit
set_option linter.unusedVariables false
set_option linter.unusedSimpArgs false
/-- A letter on its way. -/
structure Lt where
  f : Int
  t : Nat
  m : Mg
  v : Vi
def Vw.vi (k : Vw) : Vi := ⟨k.e, k.p, k.ms⟩
structure Nd where
  rs : Nat → Rl
  kept : Nat → List (List Nat)
  post : List Lt
  c : Vw
  n : Nat
def mg0 : Mg := ⟨0, 0, Vi.none, 0, 0, []⟩
/-- Messages are set out. -/
def posts (f : Int) : List Lt → List Ot → List Lt
  | p, [] => p
  | p, o :: l => posts f (if 0 ≤ o.to ∧ o.to < 4 ∧ p.length < 300 then p ++ [⟨f, o.to.toNat, o.m, Vi.none⟩] else p) l
def outN (s : Nd) (n : Nat) (r : Rl) (recs : List (List Nat)) (l : List Ot) : Nd := { s with rs := upd s.rs n r, kept := upd s.kept n (s.kept n ++ recs), post := posts n s.post l }
def leadN (s : Nd) : Nd := { s with post := s.post ++ (List.range 4).map fun i => ⟨-1, i, mg0, s.c.vi⟩ }
def changed (k : Vw) (n : Nat) (ms : List Int) : Vw := ⟨k.e + 1, n, ms, k.ss.filter (hasB ms)⟩
def arrive (s : Nd) (p : Lt) : Nd :=
  if p.f < 0 then outN s p.t (leadP (s.rs p.t) p.v).r (leadP (s.rs p.t) p.v).recs [] else outN s p.t (takeP_ (s.rs p.t) p.f p.m).r (takeP_ (s.rs p.t) p.f p.m).recs (takeP_ (s.rs p.t) p.f p.m).outs
structure LOk (G : Gh) (c : Int) (R : Nat → Rl) (p : Lt) : Prop where
  t : p.t < 4
  c : (p.f = -1 ∧ 1 ≤ p.v.e ∧ p.v.e ≤ c ∧ p.v = G.V p.v.e) ∨ ∃ f : Nat, f < 4 ∧ p.f = (f : Int) ∧ MOk G R f p.m
  o : (∀ x ∈ p.m.log, x.ok) ∧ p.m.v.l.length ≤ 8
structure SOk (G : Gh) (k : Vw) (R : Nat → Rl) : Prop where
  v : G.V k.e = k.vi
  al : 1 ≤ G.al ∧ G.al ≤ k.e
  sf : ∀ x ∈ k.ss, ∃ n : Nat, n < 4 ∧ x = (n : Int) ∧ (∀ e, G.al ≤ e → e ≤ k.e → (n : Int) ∈ (G.V e).l) ∧ (G.al = 1 ∨ G.al ≤ (R n).joined)
/-- A short list of short entries. -/
def Sm (N : Nat) (l : List Ent) : Prop := l.length ≤ N ∧ ∀ x ∈ l, x.t.length ≤ 2
theorem Sm.mono {N M : Nat} {l : List Ent} (h : Sm N l) (hm : N ≤ M) : Sm M l := ⟨Nat.le_trans h.1 hm, h.2⟩
theorem Sm.pre {N : Nat} {l k : List Ent} (h : Sm N l) (hp : k <+: l) : Sm N k := ⟨Nat.le_trans hp.length_le h.1, fun x hx => h.2 x (hp.subset hx)⟩
structure Inv (G : Gh) (s : Nd) : Prop where
  ok : GOk G s.c.e s.rs
  so : SOk G s.c s.rs
  lt : ∀ p ∈ s.post, LOk G s.c.e s.rs p
  kp : ∀ n, n < 4 → Kept n (s.rs n) (s.kept n)
  sm : ∀ e, Sm s.n (G.P e)
  kl : ∀ n, n < 4 → ∀ b ∈ s.kept n, b.length ≤ 100000
theorem entBs_le {x : Ent} (h : x.ok) (h2 : x.t.length ≤ 2) : (entB x).length ≤ 20 := by
  have h1 := numB_le (zig x.e) (zig_lt _ h.e)
  have h3 := numB_le x.t.length (by omega)
  unfold entB
  rw [List.length_append, List.length_append]
  omega
theorem entsBs_le : ∀ {l : List Ent}, (∀ x ∈ l, x.ok) → (∀ x ∈ l, x.t.length ≤ 2) → (entsB l).length ≤ 20 * l.length
  | [], _, _ => Nat.zero_le _
  | x :: l, h, h2 => by
    have h1 := entBs_le (h x (by simp)) (h2 x (by simp))
    have h3 := entsBs_le (fun y hy => h y (by simp [hy])) (fun y hy => h2 y (by simp [hy])) (l := l)
    rw [show entsB (x :: l) = entB x ++ entsB l by simp [entsB], List.length_append, List.length_cons]
    omega
theorem logB_le' {N : Nat} {l : List Ent} (h : ∀ x ∈ l, x.ok) (hs : Sm N l) (hN : N ≤ 1000) : (logB l).length ≤ 9 + 20 * N := by
  have h1 := numB_le l.length (by have := hs.1; omega)
  have h2 := entsBs_le h hs.2
  have h3 := hs.1
  unfold logB
  rw [List.length_append]
  have : 20 * l.length ≤ 20 * N := Nat.mul_le_mul_left _ h3
  omega
theorem recLog_le {N : Nat} {e : Int} {l : List Ent} (he : I64 e) (h : ∀ x ∈ l, x.ok) (hs : Sm N l) (hN : N ≤ 1000) : (recLogP e l).length ≤ 100000 := by
  have h1 := numB_le 3 (by omega)
  have h2 := numB_le (zig e) (zig_lt _ he)
  have h3 := logB_le' h hs hN
  unfold recLogP
  rw [List.length_append, List.length_append]
  omega
theorem recEntry_le {n : Nat} {x : Ent} (hn : n ≤ 5000) (h : x.ok) (hs : x.t.length ≤ 2) : (recEntryP n x).length ≤ 100000 := by
  have h1 := numB_le 2 (by omega)
  have h2 := numB_le (zig (n : Int)) (zig_lt _ (by omega))
  have h3 := logB_le' (N := 1) (l := [x]) (fun y hy => by rw [List.mem_singleton] at hy; rw [hy]; exact h) ⟨Nat.le_refl _, fun y hy => by rw [List.mem_singleton] at hy; rw [hy]; exact hs⟩ (by omega)
  unfold recEntryP
  rw [List.length_append, List.length_append]
  omega
theorem tailBs_le : ∀ {l : List Int}, (∀ x ∈ l, I64 x) → (tailB l).length ≤ 9 * l.length
  | [], _ => Nat.zero_le _
  | x :: l, h => by
    have h1 := numB_le (zig x) (zig_lt _ (h x (by simp)))
    have h3 := tailBs_le (fun y hy => h y (by simp [hy])) (l := l)
    rw [show tailB (x :: l) = numB (zig x) ++ tailB l by simp [tailB], List.length_append, List.length_cons]
    omega
theorem recPromise_le {v : Vi} (hv : v.right = true) : (recPromiseP v).length ≤ 100000 := by
  have hb := right_bd hv
  have hm := rising_mem hb.2.2.1
  have hln := rising_len hb.2.2.1
  have hp := hm _ hb.2.2.2
  have h1 := numB_le 1 (by omega)
  have h2 := numB_le (zig v.e) (zig_lt _ (by omega))
  have h3 := numB_le (zig v.p) (zig_lt _ (by omega))
  have h4 := numB_le v.l.length (by omega)
  have h5 := tailBs_le (l := v.l) (fun x hx => by have := hm x hx; unfold I64; omega)
  unfold recPromiseP viewB
  rw [List.length_append, List.length_append, List.length_append, List.length_append]
  omega
theorem NOk.small {G : Gh} {c : Int} {n : Nat} {r : Rl} {N : Nat} (h : NOk G c n r) (hs : ∀ e, Sm N (G.P e)) : Sm N r.log := by
  rcases Int.lt_or_le 0 r.joined with g | g
  · exact (hs _).pre (h.lg (by omega)).2.2.1
  · rw [h.j0 (by have := h.j; omega)]
    exact ⟨Nat.zero_le _, fun x hx => by cases hx⟩
theorem LOk.up {G G' : Gh} {c c' : Int} {R R' : Nat → Rl} {p : Lt} (h : LOk G c R p) (hG : ∀ e, G.St e → e ≤ c) (hc : c ≤ c') (hu : Up G c G') (hr : RUp R R') : LOk G' c' R' p := by
  refine ⟨h.t, ?_, h.o⟩
  rcases h.c with ⟨a1, a2, a3, a4⟩ | ⟨f, a1, a2, a3⟩
  · exact .inl ⟨a1, a2, by omega, by rw [hu.V _ a3]; exact a4⟩
  · exact .inr ⟨f, a1, a2, a3.up a1 hG hu hr⟩
theorem SOk.up {G G' : Gh} {k : Vw} {R R' : Nat → Rl} (h : SOk G k R) (hu : Up G k.e G') (ha : G'.al = G.al) (hr : RUp R R') : SOk G' k R' := by
  refine ⟨by rw [hu.V _ (Int.le_refl _)]; exact h.v, by rw [ha]; exact h.al, fun x hx => ?_⟩
  obtain ⟨n, a1, a2, a3, a4⟩ := h.sf x hx
  rw [ha]
  exact ⟨n, a1, a2, fun e h1 h2 => by rw [hu.V e h2]; exact a3 e h1 h2, a4.imp id fun g => Int.le_trans g (hr n a1).1⟩
theorem posts_mem (f : Int) : ∀ (l : List Ot) (p : List Lt) (q : Lt), q ∈ posts f p l → q ∈ p ∨ ∃ o ∈ l, 0 ≤ o.to ∧ o.to < 4 ∧ q = ⟨f, o.to.toNat, o.m, Vi.none⟩
  | [], p, q, h => .inl h
  | o :: l, p, q, h => by
    unfold posts at h
    rcases posts_mem f l _ q h with h | ⟨o', h1, h2⟩
    · split at h
      · rename_i hc
        rcases List.mem_append.1 h with h | h
        · exact .inl h
        · rw [List.mem_singleton] at h
          exact .inr ⟨o, by simp, hc.1, hc.2.1, h⟩
      · exact .inl h
    · exact .inr ⟨o', by simp [h1], h2⟩
/-- A step of one node. -/
theorem Inv.out {G G' : Gh} {s : Nd} {n : Nat} {r : Rl} {recs : List (List Nat)} {outs : List Ot} (h : Inv G s) (hn : n < 4) (hs : Stp G s.c.e s.rs n r outs G') (hk : Kept n r (s.kept n ++ recs)) (ho : ∀ o ∈ outs, (∀ x ∈ o.m.log, x.ok) ∧ o.m.v.l.length ≤ 8) (hsm : ∀ e, Sm s.n (G'.P e)) (hkl : ∀ b ∈ recs, b.length ≤ 100000) : Inv G' (outN s n r recs outs) := by
  have hG : ∀ e, G.St e → e ≤ s.c.e := fun e he => (h.ok.st e he).2.1
  refine ⟨hs.ok, h.so.up hs.up hs.al hs.ru, fun p hp => ?_, fun m hm => ?_, hsm, fun m hm b hb => ?_⟩
  · rcases posts_mem _ _ _ _ hp with hp | ⟨o, h1, h2, h3, rfl⟩
    · exact (h.lt p hp).up hG (Int.le_refl _) hs.up hs.ru
    · exact ⟨by show o.to.toNat < 4; omega, .inr ⟨n, hn, rfl, hs.ms o h1⟩, ho o h1⟩
  · show Kept m (upd s.rs n r m) (upd s.kept n (s.kept n ++ recs) m)
    by_cases e : m = n
    · subst e
      rw [upd_same, upd_same]
      exact hk
    · rw [upd_other _ _ e, upd_other _ _ e]
      exact h.kp m hm
  · have hb' : b ∈ upd s.kept n (s.kept n ++ recs) m := hb
    by_cases e : m = n
    · subst e
      rw [upd_same] at hb'
      exact (List.mem_append.1 hb').elim (h.kl m hm b) (hkl b)
    · rw [upd_other _ _ e] at hb'
      exact h.kl m hm b hb'
theorem Pn.small {G G' : Gh} {s : Nd} {n : Nat} (hp : Pn G (s.rs n) G') (h : Inv G s) (hn : n < 4) : ∀ e, Sm s.n (G'.P e) := fun e => by
  rcases hp e with g | g
  · rw [g]; exact h.sm e
  · rw [g]; exact (h.ok.nd n hn).small h.sm
theorem Inv.posted {G : Gh} {s : Nd} {p : List Lt} (h : Inv G s) (hp : ∀ q ∈ p, LOk G s.c.e s.rs q) : Inv G { s with post := p } := ⟨h.ok, h.so, hp, h.kp, h.sm, h.kl⟩
theorem Inv.counted {G : Gh} {s : Nd} {k : Nat} (h : Inv G s) (hk : s.n ≤ k) : Inv G { s with n := k } := ⟨h.ok, h.so, h.lt, h.kp, fun e => (h.sm e).mono hk, h.kl⟩
theorem Inv.lead {G : Gh} {s : Nd} (h : Inv G s) : Inv G (leadN s) := by
  refine h.posted fun q hq => ?_
  rcases List.mem_append.1 hq with hq | hq
  · exact h.lt q hq
  · obtain ⟨i, hi, rfl⟩ := List.mem_map.1 hq
    have hv := h.so.v
    refine ⟨List.mem_range.1 hi, .inl ⟨rfl, h.ok.c1, Int.le_refl _, ?_⟩, (fun x hx => by cases hx), by simp [mg0, Vi.none]⟩
    exact hv.symm
theorem Inv.propose {G : Gh} {s : Nd} {n : Nat} (h : Inv G s) (hn : n < 4) (x : List Nat) (hx : ∀ e, I64 e → (⟨e, x⟩ : Ent).ok) (hx2 : x.length ≤ 2) (hr : (s.rs n).ok) : ∃ G', Inv G' (outN { s with n := s.n + 1 } n (proposeP (s.rs n) x).r (proposeP (s.rs n) x).recs (proposeP (s.rs n) x).outs) ∧ Up G s.c.e G' := by
  have hve : I64 (s.rs n).v.e := by
    rcases hr.v with e | e
    · rw [e]; unfold I64 Vi.none; simp
    · have := right_bd e; unfold I64; omega
  obtain ⟨G', hs, hp⟩ := h.ok.proposeS hn x
  have hlog := (h.ok.nd n hn).small h.sm
  refine ⟨G', (h.counted (Nat.le_succ s.n)).out hn hs ((h.kp n hn).propose x (hx _ hve)) (fun o ho => ?_) (fun e => ?_) (fun b hb => ?_), hs.up⟩
  · unfold proposeP at ho
    repeat' split at ho
    all_goals first | (cases ho; done) | skip
    simp only [List.mem_map] at ho
    obtain ⟨z, _, rfl⟩ := ho
    refine ⟨fun y hy => ?_, by simp [Vi.none]⟩
    simp only [List.mem_singleton] at hy
    rw [hy]
    exact hx _ hve
  · rcases hp e with g | g
    · rw [g]; exact (h.sm e).mono (Nat.le_succ _)
    · rw [g]
      refine ⟨by rw [List.length_append, List.length_singleton]; exact Nat.succ_le_succ hlog.1, fun y hy => ?_⟩
      rcases List.mem_append.1 hy with hy | hy
      · exact hlog.2 y hy
      · rw [List.mem_singleton] at hy; rw [hy]; exact hx2
  · unfold proposeP at hb
    repeat' split at hb
    all_goals first | (cases hb; done) | skip
    rename_i hlen
    rw [List.mem_singleton] at hb
    rw [hb]
    exact recEntry_le (by omega) (hx _ hve) hx2
theorem Inv.tick {G : Gh} {s : Nd} {n : Nat} (h : Inv G s) (hn : n < 4) (hr : (s.rs n).ok) : Inv G (outN s n (s.rs n) [] (tickP (s.rs n))) := by
  refine h.out hn ⟨Up.refl _ _, rfl, by rw [upd_self]; exact h.ok, by rw [upd_self]; exact RUp.refl _, fun o ho => ?_⟩ (by rw [List.append_nil]; exact h.kp n hn) (fun o ho => ?_) h.sm (fun b hb => by cases hb)
  · rw [upd_self]; exact h.ok.tick hn o ho
  · unfold tickP at ho
    split at ho
    · obtain ⟨y, _, hy⟩ := List.mem_flatMap.1 ho
      unfold tickOne at hy
      have hsh : ∀ k j, o ∈ shipsP (s.rs n) y k j → (∀ x ∈ o.m.log, x.ok) ∧ o.m.v.l.length ≤ 8 := fun k j => by
        induction j with
        | zero => intro hj; cases hj
        | succ j ih =>
          intro hj
          unfold shipsP at hj
          rcases List.mem_append.1 hj with hj | hj
          · exact ih hj
          · split at hj
            · rename_i z hz
              rw [List.mem_singleton] at hj
              rw [hj]
              refine ⟨fun x hx => ?_, by simp [Vi.none]⟩
              rw [List.mem_singleton] at hx
              rw [hx]
              exact hr.log z (List.mem_of_getElem? hz)
            · cases hj
      split at hy
      · rw [List.mem_singleton] at hy
        rw [hy]
        exact ⟨hr.log, hr.mem.2⟩
      · rename_i k hk
        rcases List.mem_append.1 hy with hy | hy
        · split at hy
          · rw [List.mem_singleton] at hy
            rw [hy]
            exact ⟨(fun x hx => by cases hx), by simp [Vi.none]⟩
          · cases hy
        · exact hsh _ _ hy
    · cases ho
theorem lead_recs {r : Rl} {v : Vi} : ∀ b ∈ (leadP r v).recs, b.length ≤ 100000 := fun b hb => by
  unfold leadP at hb
  split at hb
  · rename_i hv
    split at hb
    · cases hb
    · rw [List.mem_singleton] at hb; rw [hb]; exact recPromise_le hv
  · cases hb
theorem take_recs {G : Gh} {R : Nat → Rl} {r : Rl} {f : Nat} {m : Mg} {N : Nat} (hm : MOk G R f m) (hN : N ≤ 1000) (hs : ∀ e, Sm N (G.P e)) (ho : ∀ x ∈ m.log, x.ok) (hr : r.ok) : ∀ b ∈ (takeP_ r (f : Int) m).recs, b.length ≤ 100000 := fun b hb => by
  unfold takeP_ at hb
  split at hb
  · rename_i k1
    have hsm : Sm N m.log := by
      rcases hm with hm | hm | hm
      · exact (hs _).pre hm.2.2.2.2.2.1
      · have := hm.1; omega
      · have := hm.1; omega
    unfold offerP at hb
    split at hb
    · rename_i hok
      obtain ⟨o1, o2, o3, o4, o5, o6⟩ := offerOk_iff hok
      have hb2 := right_bd o1
      rcases List.mem_append.1 hb with hb | hb
      · unfold offerR at hb
        split at hb
        · rw [List.mem_singleton] at hb; rw [hb]; exact recPromise_le o1
        · cases hb
      · unfold offer2R at hb
        split at hb
        · rw [List.mem_singleton] at hb
          rw [hb]
          refine recLog_le ?_ ho hsm hN
          have : (offer1 r m).v.e = m.e := by
            unfold offer1
            split
            · rw [(promise_same r m.v).2.1]; exact o2
            · omega
          rw [this]
          unfold I64
          omega
        · cases hb
    · cases hb
  split at hb
  · rename_i k2
    unfold shipP at hb
    split at hb
    · have hb' : b ∈ ship1R r m := hb
      unfold ship1R at hb'
      split at hb'
      · rename_i x hx
        rw [List.mem_singleton] at hb'
        rw [hb']
        unfold shipIn at hx
        split at hx
        · rename_i y hy
          split at hx
          · obtain rfl := Option.some.inj hx
            have hx2 : y.t.length ≤ 2 := by
              rcases hm with hm | hm | hm
              · have := hm.1; omega
              · obtain ⟨i, _, h2⟩ := hm.2.2.2.1 y hy
                exact (hs m.e).2 y (List.mem_of_getElem? h2)
              · have := hm.1; omega
            exact recEntry_le (by have := hr.n; omega) (ho y (by rw [hy]; simp)) hx2
          · cases hx
        · cases hx
      · cases hb'
    · cases hb
  split at hb
  · cases hb
  · cases hb
theorem Inv.arrive {G : Gh} {s : Nd} {p : Lt} (h : Inv G s) (hp : LOk G s.c.e s.rs p) (hN : s.n ≤ 1000) (hr : (s.rs p.t).ok) : ∃ G', Inv G' (arrive s p) ∧ Up G s.c.e G' := by
  unfold Go.Proofs.Ytjhcgnmibnjocaa.arrive
  rcases hp.c with ⟨a1, a2, a3, a4⟩ | ⟨f, a1, a2, a3⟩
  · rw [if_pos (by omega)]
    obtain ⟨G', hs, hpn⟩ := h.ok.lead hp.t a2 a3 a4
    exact ⟨G', h.out hp.t hs ((h.kp _ hp.t).lead _) (fun o ho => by cases ho) (hpn.small h hp.t) lead_recs, hs.up⟩
  · rw [if_neg (by omega), a2]
    obtain ⟨G', hs, hpn⟩ := h.ok.take hp.t a1 a3
    refine ⟨G', h.out hp.t hs ((h.kp _ hp.t).take hp.o.1) (fun o ho => ?_) (hpn.small h hp.t) (take_recs a3 hN h.sm hp.o.1 hr), hs.up⟩
    have hh : ∀ (r : Rl) (f : Int), o ∈ hearO r f → (∀ x ∈ o.m.log, x.ok) ∧ o.m.v.l.length ≤ 8 := fun r f ho => by
      rw [hearO, List.mem_singleton] at ho
      rw [ho]
      exact ⟨(fun x hx => by cases hx), by simp [Vi.none]⟩
    unfold takeP_ offerP shipP at ho
    repeat' split at ho
    all_goals first | (cases ho; done) | exact hh _ _ ho
theorem Inv.load {G : Gh} {s : Nd} {n : Nat} (h : Inv G s) (hn : n < 4) {ρ : Rl} (hr : restores (newP n) (s.kept n) = some ρ) : Inv G { s with rs := upd s.rs n (loadedP ρ) } := by
  obtain ⟨e1, e2, e3, e4, e5⟩ := (h.kp n hn).load hr
  have hru : RUp s.rs (upd s.rs n (loadedP ρ)) := by
    have hl : (loadedP ρ).joined = ρ.joined ∧ (loadedP ρ).v = ρ.v := by
      unfold loadedP
      split
      · obtain ⟨b1, b2, b3, b4, b5⟩ := settle_same { ρ with sure := 0, act := false, acks := ackedL ρ.id ρ.log.length [] }
        exact ⟨b4, b2⟩
      · obtain ⟨b1, b2, b3, b4, b5⟩ := settle_same { ρ with sure := 0, act := false, acks := [] }
        exact ⟨b4, b2⟩
    exact RUp.upd (by rw [hl.1, e4]; exact Int.le_refl _) (by rw [hl.2, e2]; exact Int.le_refl _)
  refine ⟨h.ok.load hn ρ e1 e2 e4 e3, h.so.up (Up.refl _ _) rfl hru, fun p hp => (h.lt p hp).up (fun e he => (h.ok.st e he).2.1) (Int.le_refl _) (Up.refl _ _) hru, fun m hm => ?_, h.sm, h.kl⟩
  show Kept m (upd s.rs n (loadedP ρ) m) (s.kept m)
  by_cases e : m = n
  · subst e
    rw [upd_same]
    exact e5
  · rw [upd_other _ _ e]
    exact h.kp m hm
theorem Inv.active {G : Gh} {s : Nd} {n : Nat} (h : Inv G s) (hn : n < 4) (ha : (s.rs n).act = true) : ∃ G', Inv G' { s with c := activeK s.c (s.rs n).v.e } ∧ Up G s.c.e G' ∧ (activeK s.c (s.rs n).v.e).e = s.c.e := by
  unfold activeK
  split
  · exact ⟨G, h, Up.refl _ _, rfl⟩
  split
  · rename_i he
    refine ⟨{ G with al := s.c.e }, ?_, ⟨fun _ _ => rfl, fun _ h => h, fun _ _ => rfl, fun _ => List.prefix_rfl, fun _ _ => Nat.le_refl _, fun _ _ => rfl⟩, rfl⟩
    have hup : Up G s.c.e { G with al := s.c.e } := ⟨fun _ _ => rfl, fun _ h => h, fun _ _ => rfl, fun _ => List.prefix_rfl, fun _ _ => Nat.le_refl _, fun _ _ => rfl⟩
    obtain ⟨hl, hm⟩ := (h.ok.nd n hn).ac ha
    have hvw := h.ok.view hn (by have := h.ok.c1; omega)
    rw [he, h.so.v] at hvw
    refine ⟨?_, ⟨h.so.v, ⟨h.ok.c1, Int.le_refl _⟩, fun x hx => ?_⟩, fun p hp => (h.lt p hp).up (fun e he => (h.ok.st e he).2.1) (Int.le_refl _) hup (RUp.refl _), h.kp, h.sm, h.kl⟩
    · have := h.ok
      exact ⟨this.c1, this.ve, fun m hm => (this.nd m hm).up this.c1 hup (fun _ => rfl) (fun _ => rfl), this.ak, this.st, this.ns, this.al, this.wi, this.bs⟩
    · have hx' : x ∈ (s.rs n).v.l := by rw [hvw.2]; exact hx
      have hi := hm x hx'
      obtain ⟨k, hk⟩ := Option.isSome_iff_exists.1 hi
      obtain ⟨m', b1, b2, b3, b4⟩ := h.ok.ak n hn hl x k hk
      refine ⟨m', b1, b2, fun e h1 h2 => ?_, .inr (by show s.c.e ≤ (s.rs m').joined; omega)⟩
      have h1' : s.c.e ≤ e := h1
      have h2' : e ≤ s.c.e := h2
      have : e = s.c.e := by omega
      subst this
      show (m' : Int) ∈ (G.V s.c.e).l
      rw [h.so.v, ← b2]
      exact hx
  · exact ⟨G, h, Up.refl _ _, rfl⟩
theorem Inv.change {G : Gh} {s : Nd} {n : Nat} {ms : List Int} (h : Inv G s) (hn : n < 4) (hm : ∀ x ∈ ms, 0 ≤ x ∧ x < 4) (hc : changeE s.c n ms = 0) (hk : s.c.ok) : ∃ G', Inv G' { s with c := changed s.c n ms } ∧ Up G s.c.e G' := by
  obtain ⟨h1, h2, h3, h4⟩ := changeE_zero hc
  have ok := h.ok
  have c1 := ok.c1
  have hup : Up G s.c.e { G with V := fun e => if e = s.c.e + 1 then ⟨s.c.e + 1, n, ms⟩ else G.V e, b := fun e => if e = s.c.e + 1 then G.al else G.b e } :=
    ⟨fun e he => if_neg (by omega), fun _ h => h, fun _ _ => rfl, fun _ => List.prefix_rfl, fun _ _ => Nat.le_refl _, fun e he => if_neg (by omega)⟩
  have hs0 : ∀ e, G.St e → e ≤ s.c.e := fun e he => (ok.st e he).2.1
  obtain ⟨q, q1, q2, q3, q4⟩ := h.so.sf (n : Int) (hasB_mem.1 h3)
  have hqn : q = n := by omega
  subst hqn
  refine ⟨_, ⟨?_, ?_, fun p hp => (h.lt p hp).up hs0 (by show s.c.e ≤ s.c.e + 1; omega) hup (RUp.refl _), h.kp, h.sm, h.kl⟩, hup⟩
  · show GOk _ (s.c.e + 1) s.rs
    refine ⟨by omega, fun e g1 g2 => ?_, fun m hm4 => ?_, ok.ak, fun e he => ?_, ok.ns, ok.al, fun e' e g1 g2 g3 => ?_, fun e g1 g2 => ?_⟩
    · rcases Int.lt_or_le s.c.e e with g | g
      · have : e = s.c.e + 1 := by omega
        subst this
        show (if s.c.e + 1 = s.c.e + 1 then _ else _ : Vi).e = _ ∧ (if s.c.e + 1 = s.c.e + 1 then _ else _ : Vi).right = true ∧ ∀ x ∈ (if s.c.e + 1 = s.c.e + 1 then _ else _ : Vi).l, _
        rw [if_pos rfl]
        refine ⟨rfl, ?_, hm⟩
        unfold Vi.right rightV
        simp only [Bool.and_eq_true, decide_eq_true_eq]
        exact ⟨⟨⟨by omega, by omega⟩, h1⟩, h2⟩
      · rw [hup.V e g]
        exact ok.ve e g1 g
    · have hN := (ok.nd m hm4).up c1 hup (fun _ => rfl) (fun _ => rfl)
      exact ⟨hN.id, hN.v.imp id fun g => ⟨g.1, by omega, g.2.2⟩, hN.j, hN.j0, hN.lg, hN.a0, hN.ld, hN.ac, hN.su⟩
    · obtain ⟨a1, a2, a3, a4⟩ := ok.st e he
      exact ⟨a1, by omega, a3, fun q hq hp => by rw [hup.V e a2] at hp; exact a4 q hq hp⟩
    · obtain ⟨m, a1, a2, a3, a4⟩ := ok.wi e' e g1 g2 g3
      have := hs0 e g3
      exact ⟨m, a1, by rw [hup.V e' (by omega)]; exact a2, a3, a4⟩
    · rcases Int.lt_or_le s.c.e e with g | g
      · have : e = s.c.e + 1 := by omega
        subst this
        show 1 ≤ (if s.c.e + 1 = s.c.e + 1 then G.al else _) ∧ (if s.c.e + 1 = s.c.e + 1 then G.al else _) < s.c.e + 1 ∧ ∀ q : Nat, q < 4 → (if s.c.e + 1 = s.c.e + 1 then _ else _ : Vi).p = (q : Int) → (∀ e', (if s.c.e + 1 = s.c.e + 1 then G.al else _) ≤ e' → e' < s.c.e + 1 → (q : Int) ∈ (if e' = s.c.e + 1 then _ else G.V e' : Vi).l) ∧ ((if s.c.e + 1 = s.c.e + 1 then G.al else _) = 1 ∨ (if s.c.e + 1 = s.c.e + 1 then G.al else _) ≤ (s.rs q).joined)
        rw [if_pos rfl, if_pos rfl]
        refine ⟨h.so.al.1, by have := h.so.al.2; omega, fun q' hq' hp => ?_⟩
        have : q' = q := by
          have : (q : Int) = (q' : Int) := hp
          omega
        subst this
        refine ⟨fun e' g3 g4 => ?_, q4⟩
        rw [if_neg (by omega)]
        exact q3 e' g3 (by omega)
      · obtain ⟨a1, a2, a3⟩ := ok.bs e g1 g
        rw [hup.b e g, hup.V e g]
        refine ⟨a1, a2, fun q hq hp => ?_⟩
        obtain ⟨b1, b2⟩ := a3 q hq hp
        exact ⟨fun e' g3 g4 => by rw [hup.V e' (by omega)]; exact b1 e' g3 g4, b2⟩
  · refine ⟨if_pos rfl, ⟨h.so.al.1, by have := h.so.al.2; show G.al ≤ s.c.e + 1; omega⟩, fun x hx => ?_⟩
    have hx' : x ∈ s.c.ss.filter (hasB ms) := hx
    rw [List.mem_filter] at hx'
    obtain ⟨m, a1, a2, a3, a4⟩ := h.so.sf x hx'.1
    refine ⟨m, a1, a2, fun e g1 g2 => ?_, a4⟩
    have g2' : e ≤ s.c.e + 1 := g2
    show (m : Int) ∈ (if e = s.c.e + 1 then _ else G.V e : Vi).l
    split
    · rw [← a2]
      exact hasB_mem.1 hx'.2
    · exact a3 e g1 (by omega)
/-- What may be sure is one list. -/
theorem GOk.chain {G : Gh} {c : Int} {R : Nat → Rl} (h : GOk G c R) {b b' : Int} {L L' : List Ent} (hL : G.cs b L) (hL' : G.cs b' L') : L <+: L' ∨ L' <+: L := by
  have key : ∀ {e e' : Int} {k k' : Nat} {L L' : List Ent}, G.St e' → 1 ≤ e → G.com e k → e ≤ e' → L <+: (G.P e).take k → L' <+: (G.P e').take k' → L <+: L' ∨ L' <+: L := fun {e e' k k' L L'} hs h1 hc he hL hL' => by
    have hM : L <+: G.P e' := by
      rcases Int.lt_or_le e e' with g | g
      · obtain ⟨m, a1, a2, a3, a4⟩ := h.wi e e' h1 g hs
        exact ((hL.trans (take_pre_take (hc m a2))).trans a4).trans (h.st e' hs).2.2.1
      · have : e = e' := by omega
        subst this
        exact hL.trans (List.take_prefix _ _)
    have hM' := hL'.trans (List.take_prefix _ _)
    rcases Nat.le_total L.length L'.length with g | g
    · exact .inl (List.prefix_of_prefix_length_le hM hM' g)
    · exact .inr (List.prefix_of_prefix_length_le hM' hM g)
  rcases hL with e1 | ⟨e, k, a1, a2, a3, a4, a5, a6⟩
  · subst e1; exact .inl List.nil_prefix
  rcases hL' with e1 | ⟨e', k', b1, b2, b3, b4, b5, b6⟩
  · subst e1; exact .inr List.nil_prefix
  rcases Int.le_total e e' with g | g
  · exact key b3 a1 a4 g a6 b6
  · exact (key a3 b1 b4 g b6 a6).symm
theorem GOk.sure {G : Gh} {c : Int} {R : Nat → Rl} {n : Nat} (h : GOk G c R) (hn : n < 4) : (R n).sure ≤ (R n).log.length ∧ G.cs c ((R n).log.take (R n).sure) := by
  have hN := h.nd n hn
  have := hN.vc h.c1
  exact ⟨hN.su.1, hN.su.2.mono (by have := hN.j; omega)⟩
/-- What is sure stands with who is active in the newest epoch. -/
theorem GOk.newest {G : Gh} {c : Int} {R : Nat → Rl} {n : Nat} {L : List Ent} (h : GOk G c R) (hn : n < 4) (he : (R n).v.e = c) (ha : (R n).act = true) (hL : G.cs c L) : L <+: (R n).log := by
  have hl := ((h.nd n hn).ac ha).1
  obtain ⟨a1, a2, a3, a4, a5, a6, a7⟩ := h.own hn hl
  rw [he] at a1 a2 a3
  rcases hL with e1 | ⟨e, k, b1, b2, b3, b4, b5, b6⟩
  · subst e1; exact List.nil_prefix
  rcases Int.lt_or_le e c with g | g
  · exact (h.base a1 (.inr ⟨e, k, b1, Int.le_refl _, b3, b4, b5, b6⟩) g).trans a2
  · have : e = c := by omega
    subst this
    rw [a3]
    exact b6.trans (List.take_prefix _ _)
theorem Inv.safe {G : Gh} {s : Nd} {n : Nat} {L : List Ent} (h : Inv G s) (hn : (n : Int) ∈ s.c.ss) (hL : G.cs s.c.e L) : L <+: (s.rs n).log := by
  obtain ⟨m, a1, a2, a3, a4⟩ := h.so.sf _ hn
  have : m = n := by omega
  subst this
  have hN := h.ok.nd m a1
  rcases hL with e1 | ⟨e, k, b1, b2, b3, b4, b5, b6⟩
  · subst e1; exact List.nil_prefix
  have hfar : e < (s.rs m).joined → L <+: (s.rs m).log := fun g => by
    obtain ⟨c1, c2, c3, c4⟩ := hN.lg (by omega)
    exact (h.ok.base c1 (.inr ⟨e, k, b1, Int.le_refl _, b3, b4, b5, b6⟩) g).trans c2
  rcases Int.lt_or_le e G.al with g | g
  · exact hfar (by rcases a4 with a4 | a4 <;> omega)
  · have hmem := b4 m (a3 e g b2)
    rcases Int.lt_trichotomy (s.rs m).joined e with gj | gj | gj
    · rw [hN.a0 e gj] at hmem
      have : k = 0 := by omega
      subst this
      rw [List.take_zero] at b6
      rw [List.prefix_nil.1 b6]
      exact List.nil_prefix
    · obtain ⟨c1, c2, c3, c4⟩ := hN.lg (by omega)
      rw [gj] at c3 c4
      rw [c4] at hmem
      have : L <+: (s.rs m).log.take k := by
        rw [← pre_take_eq c3 hmem]; exact b6
      exact this.trans (List.take_prefix _ _)
    · exact hfar gj
end Go.Proofs.Ytjhcgnmibnjocaa

/-! Nodes in memory: letters; appends onto rows. -/
namespace Go.Proofs.Ytjhcgnmibnjocaa
open Go.RowKit Go.Maps
set_option linter.unusedVariables false
set_option linter.unusedSimpArgs false
/-- An append of cells that are read onto a row. -/
theorem run_appR {w : World} {t ty e : TypeId} {i : TypeInfo} {z : Value} {size bytes : Nat} (ht : Try.prog.underlying t = some (.slice e)) (hi : Try.prog.info? e = some i) (hz : i.zero = some z) (hsize : i.size = size) (hby : i.bytes = bytes) (hzs : z.cells.size = size) (hsz : 0 < size)
    {v : Value} {n : Nat} {xs : List Value} (hown : w.ownsRow 0 e size v n xs) {A : Option Addr} {m c : Nat} {news : List Value} (hr : Reads w w.heap.size size A m news) (h1 : ∀ u ∈ news, u.oneCell' = true) (h63 : n + m ≤ maxLen) (hbytes : (n + m) * bytes ≤ 140737488355328) :
    ∃ v' w', (Builtin.append_ #[t, t] ty #[v, .slice A m c]).run Try.prog w = .ok v' w' ∧ w'.ownsRow 0 e size v' (n + m) (xs ++ news) ∧ w.grownBy w' v.ownBlock ∧ (v'.ownBlock = v.ownBlock ∨ v'.ownBlock = some w.heap.size) := by
  rcases A with _ | ad
  · have h0 : m = 0 := by
      rcases Nat.eq_zero_or_pos m with h | h
      · exact h
      · obtain ⟨_, e, _⟩ := hr.2 h; cases e
    subst h0
    have hn : news = [] := List.eq_nil_of_length_eq_zero (by have := hr.1; omega)
    subst hn
    refine ⟨v, w, ?_, by simpa using hown, ⟨rfl, rfl, rfl, Nat.le_refl _, fun _ _ _ => rfl⟩, .inl rfl⟩
    rcases hown.2 with ⟨rfl, rfl⟩ | ⟨g, cap, cur, rfl, hb, hh, hnc, hmx, hcs, htk⟩
    · simp [Builtin.append_, run_underlying ht, sizeOf, typeInfo, hi, Builtin.lenOf, Builtin.firstCells]
    · have hsrc := Src.ofNil (P := Try.prog) (size := i.size) (tx := t) w ht c
      exact run_append_room_src (P := Try.prog) w t t ty e i ht hi g 0 n cap (.slice none 0 c) 0 [] hsrc (by omega) (fun j hj => by cases hj) (fun j hj => by cases hj)
  · have hnews : ∀ j u, news[j]? = some u → w.cell? (ad.add j) = some u := fun j u hu => by
      have hm : 0 < m := by
        rcases Nat.eq_zero_or_pos m with h | h
        · subst h
          have hn : news = [] := List.eq_nil_of_length_eq_zero (by have := hr.1; omega)
          subst hn
          cases hu
        · exact h
      obtain ⟨ad', e', _, hc⟩ := hr.2 hm
      cases e'
      exact hc j u hu
    obtain ⟨v', w', r1, r2, r3, _, r5⟩ := run_append_own_at (P := Try.prog) w 0 t ty e i z size bytes ht hi hz hsize hby hzs hsz v n xs hown ad m c news hr.1 hnews h1 h63 hbytes (Nat.zero_le _)
    exact ⟨v', w', r1, r2, r3, r5⟩
theorem grown_kp {w w' : World} {r : Option Nat} (h : w.grownBy w' r) : Kp (fun k => r = some k) w w' := ⟨h.os, h.tape, h.output, h.size, fun k hk hn => h.block k hk (fun e => hn e.symm)⟩
/-- A letter in memory. -/
structure Lm where
  x : Lt
  vm : Value
  vl : Value
  vw : Value
def Lm.cells (m : Lm) : List Value := [.int .i64 m.x.f, .int .i64 (m.x.t : Int), .int .i64 m.x.m.k, .int .i64 m.x.m.e, .int .i64 m.x.m.v.e, .int .i64 m.x.m.v.p, m.vm, .int .i64 m.x.m.i, .int .i64 m.x.m.s, m.vl, .int .i64 m.x.v.e, .int .i64 m.x.v.p, m.vw]
theorem Lm.cells_len (m : Lm) : m.cells.length = 13 := rfl
def lmV (ms : List Lm) : List Value := rowsV Lm.cells ms
theorem lmV_length (ms : List Lm) : (lmV ms).length = ms.length * 13 := rowsV_length (k := 13) Lm.cells_len ms
theorem lmV_append (ms ns : List Lm) : lmV (ms ++ ns) = lmV ms ++ lmV ns := by simp [lmV, rowsV]
/-- Numbers behind a slice, in blocks that are not written. -/
def Isl (w : World) (T : Nat → Prop) (v : Value) (l : List Int) : Prop := ∃ A c, v = .slice A l.length c ∧ Reads w w.heap.size 1 A l.length (ints l) ∧ (0 < l.length → ∀ a, A = some a → ¬T a.block)
theorem Isl.kp {w w' : World} {T : Nat → Prop} {v : Value} {l : List Int} (h : Isl w T v l) (hk : Kp T w w') : Isl w' T v l := by
  obtain ⟨A, c, e, hr, hn⟩ := h
  exact ⟨A, c, e, Reads.kp hr hk hn, hn⟩
theorem Isl.sub {w : World} {T T' : Nat → Prop} {v : Value} {l : List Int} (h : Isl w T v l) (hs : ∀ k, k < w.heap.size → T' k → T k) : Isl w T' v l := by
  obtain ⟨A, c, e, hr, hn⟩ := h
  refine ⟨A, c, e, hr, fun h0 a ha ht => hn h0 a ha (hs _ ?_ ht)⟩
  obtain ⟨a', e', hl', _⟩ := hr.2 h0
  rw [ha] at e'; cases e'; exact hl'
theorem Isl.nil (w : World) (T : Nat → Prop) : Isl w T (.slice none 0 0) [] := ⟨none, 0, rfl, Reads.none_, fun h => absurd h (by simp)⟩
structure LmW (w : World) (T : Nat → Prop) (m : Lm) : Prop where
  mg : MgW w T m.vm m.vl m.x.m
  vw : Isl w T m.vw m.x.v.l
theorem LmW.kp {w w' : World} {T : Nat → Prop} {m : Lm} (h : LmW w T m) (hk : Kp T w w') : LmW w' T m := ⟨h.mg.kp hk, h.vw.kp hk⟩
theorem LmW.sub {w : World} {T T' : Nat → Prop} {m : Lm} (h : LmW w T m) (hs : ∀ k, k < w.heap.size → T' k → T k) : LmW w T' m := ⟨h.mg.sub hs, h.vw.sub hs⟩
theorem LmW.one {w : World} {T : Nat → Prop} {m : Lm} (h : LmW w T m) : ∀ u ∈ m.cells, u.oneCell' = true := fun u hu => by
  obtain ⟨⟨⟨A, c, e, _⟩, B, d, e', _⟩, C, f, e'', _⟩ := h
  simp only [Lm.cells, e, e', e'', List.mem_cons, List.not_mem_nil, or_false] at hu
  rcases hu with rfl | rfl | rfl | rfl | rfl | rfl | rfl | rfl | rfl | rfl | rfl | rfl | rfl <;> rfl
/-- Letters whose row is owned. -/
structure OwnL (w : World) (T : Nat → Prop) (v : Value) (l : List Lt) : Prop where
  ex : ∃ ms : List Lm, ms.map Lm.x = l ∧ w.ownsRow 0 145 13 v l.length (lmV ms) ∧ ∀ m ∈ ms, LmW w T m
theorem OwnL.nil (w : World) (T : Nat → Prop) : OwnL w T (.slice none 0 0) [] := ⟨[], rfl, World.ownsRow_nil _ _ _ _, fun _ h => by cases h⟩
theorem lmV_one {w : World} {T : Nat → Prop} {ms : List Lm} (h : ∀ m ∈ ms, LmW w T m) : ∀ u ∈ lmV ms, u.oneCell' = true := fun u hu => by
  unfold lmV rowsV at hu
  obtain ⟨m, hm, hu⟩ := List.mem_flatMap.1 hu
  exact (h m hm).one u hu
theorem infoLt : (Try.prog.info? 145).map (fun i => (i.zero, i.size, i.bytes)) = some (some (.agg #[.int .i64 0, .int .i64 0, .int .i64 0, .int .i64 0, .int .i64 0, .int .i64 0, .slice none 0 0, .int .i64 0, .int .i64 0, .slice none 0 0, .int .i64 0, .int .i64 0, .slice none 0 0]), 13, 152) := by kernel_rfl
end Go.Proofs.Ytjhcgnmibnjocaa

/-! Nodes in memory: who owns which block. -/
namespace Go.Proofs.Ytjhcgnmibnjocaa
open Go.RowKit Go.Maps
set_option linter.unusedVariables false
set_option linter.unusedSimpArgs false
theorem RelX.move {w w' : World} {S T S' T' R : Nat → Prop} {g : Nat} {r : Rl} {Am : Option Addr} {cm : Nat} {vl : Value} {mb : Nat} (h : RelX w S T g r Am cm vl mb) (hk : Kp R w w') (h1 : ∀ k, R k → T k) (h1' : ∀ k, R k → T' k) (h2 : ∀ k, S k → ¬R k)
    (h3 : ∀ k, k < w.heap.size → T' k → T k) (h4 : ∀ k, S k → S' k) (h5 : ∀ k, S' k → T' k) (h6 : ∀ k, T' k → k < w'.heap.size) : RelX w' S' T' g r Am cm vl mb := by
  refine ⟨Blk.kp h.blk hk (h2 _ h.g), Reads.kp h.rd (hk.weaken h1) h.mt, fun h0 a ha ht => ?_, (h.own.sub h3).keep (hk.weaken h1') (fun k hv hl => hk.block k hl (h2 k (h.vs k hv))), fun k hv => h4 _ (h.vs k hv), h.mp.kp hk (h2 _ h.ms), h4 _ h.ms, h.mg, h.vg, h.vm, h4 _ h.g, h5, h6⟩
  obtain ⟨a', e', hl', _⟩ := h.rd.2 h0
  rw [ha] at e'; cases e'
  exact h.mt h0 a ha (h3 _ hl' ht)
theorem RelW.move {w w' : World} {S T S' T' R : Nat → Prop} {g : Nat} {r : Rl} (h : RelW w S T g r) (hk : Kp R w w') (h1 : ∀ k, R k → T k) (h1' : ∀ k, R k → T' k) (h2 : ∀ k, S k → ¬R k)
    (h3 : ∀ k, k < w.heap.size → T' k → T k) (h4 : ∀ k, S k → S' k) (h5 : ∀ k, S' k → T' k) (h6 : ∀ k, T' k → k < w'.heap.size) : RelW w' S' T' g r := by
  obtain ⟨hok, Am, cm, vl, mb, hX⟩ := h
  exact ⟨hok, Am, cm, vl, mb, hX.move hk h1 h1' h2 h3 h4 h5 h6⟩
theorem OwnL.keep {w w' : World} {T R : Nat → Prop} {v : Value} {l : List Lt} (h : OwnL w T v l) (hk : Kp R w w') (h1 : ∀ k, R k → T k) (h2 : ∀ k, v.ownBlock = some k → ¬R k) : OwnL w' T v l := by
  obtain ⟨ms, e, ho, hm⟩ := h
  refine ⟨ms, e, ⟨ho.1, ?_⟩, fun m hmm => (hm m hmm).kp (hk.weaken h1)⟩
  rcases ho.2 with h' | ⟨g, cap, cur, hv, hb, hh, r⟩
  · exact .inl h'
  · exact .inr ⟨g, cap, cur, hv, hb, (hk.block g (Blk.lt hh) (h2 g (by rw [hv]; rfl))).trans hh, r⟩
theorem OwnL.sub {w : World} {T T' : Nat → Prop} {v : Value} {l : List Lt} (h : OwnL w T v l) (hs : ∀ k, k < w.heap.size → T' k → T k) : OwnL w T' v l := by
  obtain ⟨ms, e, ho, hm⟩ := h
  exact ⟨ms, e, ho, fun m hmm => (hm m hmm).sub hs⟩
theorem OwnL.sl {w : World} {T : Nat → Prop} {v : Value} {l : List Lt} (h : OwnL w T v l) : ∃ A c, v = .slice A l.length c ∧ l.length ≤ c := by
  obtain ⟨ms, e, ho, hm⟩ := h
  exact own_sl ho
/-- The blocks that are owned. -/
def OT (o : Nat → Option Nat) : Nat → Prop := fun k => (o k).isSome = true
def tg (o : Nat → Option Nat) (t : Nat) : Nat → Prop := fun k => o k = some t
theorem tg_OT {o : Nat → Option Nat} {t k : Nat} (h : tg o t k) : OT o k := by unfold OT; rw [h]; rfl
/-- Nodes in memory. -/
structure NdX (w : World) (o : Nat → Option Nat) (g : Nat) (s : Nd) (br bk gc bm bs cr : Nat) (gr : Nat → Nat) (vp : Value) (vk : Nat → Value) : Prop where
  blk : Blk w g 87 #[.slice (some ⟨br, 0, none⟩) 4 cr, .slice (some ⟨bk, 0, none⟩) 4 4, vp, .pointer (some ⟨gc, 0, none⟩), .int .i64 (s.n : Int)]
  rb : ∃ cs, Blk w br 24 cs ∧ ∀ i, i < 4 → cs[i]? = some (.pointer (some ⟨gr i, 0, none⟩))
  kb : ∃ cs, Blk w bk 42 cs ∧ ∀ i, i < 4 → cs[i]? = some (vk i)
  rel : ∀ i, i < 4 → RelW w (tg o (11 + i)) (OT o) (gr i) (s.rs i)
  kp : ∀ i, i < 4 → OwnR w (OT o) 0 (vk i) (s.kept i)
  po : OwnL w (OT o) vp s.post
  ct : Ctl w gc bm bs s.c
  ck : s.c.ok
  og : o g = some 0
  obr : o br = some 1
  obk : o bk = some 2
  oct : o gc = some 3 ∧ o bm = some 3 ∧ o bs = some 3
  ov : ∀ k, vp.ownBlock = some k → o k = some 6
  ok : ∀ i, i < 4 → ∀ k, (vk i).ownBlock = some k → o k = some (7 + i)
  lt : ∀ k, OT o k → k < w.heap.size
def NdW (w : World) (o : Nat → Option Nat) (g : Nat) (s : Nd) : Prop := ∃ br bk gc bm bs cr gr vp vk, NdX w o g s br bk gc bm bs cr gr vp vk
/-- Only blocks of one owner are changed; new blocks are his, or nobody's. -/
structure Oe (o o' : Nat → Option Nat) (w w' : World) (t : Nat) : Prop where
  kp : Kp (tg o t) w w'
  old : ∀ k, k < w.heap.size → o' k = o k
  new : ∀ k, w.heap.size ≤ k → o' k = none ∨ o' k = some t
  lt : ∀ k, OT o' k → k < w'.heap.size
theorem Oe.below {o : Nat → Option Nat} {w w' : World} (t : Nat) (hlt : ∀ k, OT o k → k < w.heap.size) (hb : Below w.heap.size w w') : Oe o o w w' t :=
  ⟨Kp.of_below hb, fun _ _ => rfl, fun k hk => .inl (by cases h : o k with
    | none => rfl
    | some x => have := hlt k (by unfold OT; rw [h]; rfl); omega), fun k hk => Nat.lt_of_lt_of_le (hlt k hk) hb.size⟩
theorem Oe.only {o : Nat → Option Nat} {w w' : World} {t g : Nat} (hlt : ∀ k, OT o k → k < w.heap.size) (hg : o g = some t) (ho : Only w w' g) : Oe o o w w' t :=
  ⟨Kp.of_only ho hg, fun _ _ => rfl, fun k hk => .inl (by cases h : o k with
    | none => rfl
    | some x => have := hlt k (by unfold OT; rw [h]; rfl); omega), fun k hk => Nat.lt_of_lt_of_le (hlt k hk) ho.size⟩
theorem Oe.trans {o o' o'' : Nat → Option Nat} {w w' w'' : World} {t : Nat} (h : Oe o o' w w' t) (h' : Oe o' o'' w' w'' t) : Oe o o'' w w'' t := by
  have hs := h.kp.size
  refine ⟨⟨h'.kp.os.trans h.kp.os, h'.kp.tape.trans h.kp.tape, h'.kp.output.trans h.kp.output, Nat.le_trans hs h'.kp.size, fun k hk hn => ?_⟩, fun k hk => (h'.old k (by omega)).trans (h.old k hk), fun k hk => ?_, h'.lt⟩
  · exact (h'.kp.block k (by omega) (fun g => hn (by unfold tg; rw [← h.old k hk]; exact g))).trans (h.kp.block k hk hn)
  · rcases Nat.lt_or_ge k w'.heap.size with g | g
    · rw [h'.old k g]; exact h.new k hk
    · exact h'.new k g
section
variable {o o' : Nat → Option Nat} {w w' : World} {t : Nat}
theorem Oe.R (he : Oe o o' w w' t) (hlt : ∀ k, OT o k → k < w.heap.size) : ∀ k, tg o t k → OT o' k := fun k hk => by
  have := hlt k (tg_OT hk)
  unfold OT
  rw [he.old k this, hk]
  rfl
theorem Oe.T (he : Oe o o' w w' t) : ∀ k, k < w.heap.size → OT o' k → OT o k := fun k hk h => by
  unfold OT at *
  rw [he.old k hk] at h
  exact h
theorem Oe.tag (he : Oe o o' w w' t) (hlt : ∀ k, OT o k → k < w.heap.size) {u : Nat} : ∀ k, tg o u k → tg o' u k := fun k hk => by
  have := hlt k (tg_OT hk)
  unfold tg
  rw [he.old k this]
  exact hk
theorem Oe.block (he : Oe o o' w w' t) {u k : Nat} (hu : u ≠ t) (hlt : ∀ k, OT o k → k < w.heap.size) (hk : o k = some u) : w'.heap[k]? = w.heap[k]? :=
  he.kp.block k (hlt k (tg_OT hk)) (fun h => by unfold tg at h; rw [hk] at h; exact hu (Option.some.inj h))
theorem Oe.blk (he : Oe o o' w w' t) {u k : Nat} {ty : TypeId} {cs : Array Value} (hB : Blk w k ty cs) (hu : u ≠ t) (hk : o k = some u) : Blk w' k ty cs :=
  (he.kp.block k hB.lt (fun h => by unfold tg at h; rw [hk] at h; exact hu (Option.some.inj h))).trans hB
theorem Oe.rel (he : Oe o o' w w' t) (hlt : ∀ k, OT o k → k < w.heap.size) {u g : Nat} {r : Rl} (h : RelW w (tg o u) (OT o) g r) (hu : u ≠ t) : RelW w' (tg o' u) (OT o') g r :=
  h.move he.kp (fun k hk => tg_OT hk) (he.R hlt) (fun k h1 h2 => hu (Option.some.inj (h1.symm.trans h2))) he.T (he.tag hlt) (fun k hk => tg_OT hk) he.lt
theorem Oe.row (he : Oe o o' w w' t) (hlt : ∀ k, OT o k → k < w.heap.size) {u : Nat} {v : Value} {l : List (List Nat)} (h : OwnR w (OT o) 0 v l) (ho : ∀ k, v.ownBlock = some k → o k = some u) (hu : u ≠ t) : OwnR w' (OT o') 0 v l :=
  (h.sub he.T).kp he.kp (he.R hlt) (fun k hk h2 => hu (Option.some.inj ((ho k hk).symm.trans h2)))
theorem Oe.post (he : Oe o o' w w' t) (hlt : ∀ k, OT o k → k < w.heap.size) {u : Nat} {v : Value} {l : List Lt} (h : OwnL w (OT o) v l) (ho : ∀ k, v.ownBlock = some k → o k = some u) (hu : u ≠ t) : OwnL w' (OT o') v l :=
  (h.sub he.T).keep he.kp (he.R hlt) (fun k hk h2 => hu (Option.some.inj ((ho k hk).symm.trans h2)))
theorem Oe.ctl (he : Oe o o' w w' t) (hlt : ∀ k, OT o k → k < w.heap.size) {gc bm bs : Nat} {k : Vw} (h : Ctl w gc bm bs k) (ho : o gc = some 3 ∧ o bm = some 3 ∧ o bs = some 3) (ht : t ≠ 3) : Ctl w' gc bm bs k :=
  h.keep (he.block (Ne.symm ht) hlt ho.1) (he.block (Ne.symm ht) hlt ho.2.1) (he.block (Ne.symm ht) hlt ho.2.2)
theorem Oe.opt (he : Oe o o' w w' t) (hlt : ∀ k, OT o k → k < w.heap.size) {k u : Nat} (h : o k = some u) : o' k = some u := (he.old k (hlt k (tg_OT h))).trans h
end
section
variable {o o' : Nat → Option Nat} {w w' : World} {g br bk gc bm bs cr : Nat} {gr : Nat → Nat} {vp : Value} {vk : Nat → Value} {s : Nd}
theorem NdX.below (h : NdX w o g s br bk gc bm bs cr gr vp vk) (hb : Below w.heap.size w w') : NdX w' o g s br bk gc bm bs cr gr vp vk := by
  have he := Oe.below 99 h.lt hb
  obtain ⟨cs, r1, r2⟩ := h.rb
  obtain ⟨ks, k1, k2⟩ := h.kb
  exact ⟨he.blk h.blk (by decide) h.og, ⟨cs, he.blk r1 (by decide) h.obr, r2⟩, ⟨ks, he.blk k1 (by decide) h.obk, k2⟩, fun i hi => he.rel h.lt (h.rel i hi) (by omega), fun i hi => he.row h.lt (h.kp i hi) (h.ok i hi) (by omega), he.post h.lt h.po h.ov (by decide), he.ctl h.lt h.ct h.oct (by decide), h.ck, h.og, h.obr, h.obk, h.oct, h.ov, h.ok, he.lt⟩
/-- A relay is another one. -/
theorem NdX.relay (h : NdX w o g s br bk gc bm bs cr gr vp vk) {n : Nat} {r : Rl} (hn : n < 4) (he : Oe o o' w w' (11 + n)) (hr : RelW w' (tg o' (11 + n)) (OT o') (gr n) r) : NdX w' o' g { s with rs := upd s.rs n r } br bk gc bm bs cr gr vp vk := by
  obtain ⟨cs, r1, r2⟩ := h.rb
  obtain ⟨ks, k1, k2⟩ := h.kb
  refine ⟨he.blk h.blk (by omega) h.og, ⟨cs, he.blk r1 (by omega) h.obr, r2⟩, ⟨ks, he.blk k1 (by omega) h.obk, k2⟩, fun i hi => ?_, fun i hi => he.row h.lt (h.kp i hi) (h.ok i hi) (by omega), he.post h.lt h.po h.ov (by omega), he.ctl h.lt h.ct h.oct (by omega), h.ck, he.opt h.lt h.og, he.opt h.lt h.obr, he.opt h.lt h.obk, ⟨he.opt h.lt h.oct.1, he.opt h.lt h.oct.2.1, he.opt h.lt h.oct.2.2⟩, fun k hk => he.opt h.lt (h.ov k hk), fun i hi k hk => he.opt h.lt (h.ok i hi k hk), he.lt⟩
  show RelW w' _ _ (gr i) (upd s.rs n r i)
  by_cases e : i = n
  · subst e
    rw [upd_same]
    exact hr
  · rw [upd_other _ _ e]
    exact he.rel h.lt (h.rel i hi) (by omega)
/-- What was kept of a relay is longer. -/
theorem NdX.kept (h : NdX w o g s br bk gc bm bs cr gr vp vk) {n : Nat} {l : List (List Nat)} {v : Value} {w1 : World} (hn : n < 4) (he : Oe o o' w w1 (7 + n)) (hr : OwnR w1 (OT o') 0 v l) (hv : ∀ k, v.ownBlock = some k → o' k = some (7 + n)) :
    NdX (w1.setCell ⟨bk, n, none⟩ v) o' g { s with kept := upd s.kept n l } br bk gc bm bs cr gr vp (upd vk n v) := by
  obtain ⟨cs, r1, r2⟩ := h.rb
  obtain ⟨ks, k1, k2⟩ := h.kb
  have obk' := he.opt h.lt h.obk
  have hks : n < ks.size := (Array.getElem?_eq_some_iff.1 (k2 n hn)).1
  have K1 : Blk w1 bk 42 ks := he.blk k1 (by omega) h.obk
  have hO : Only w1 (w1.setCell ⟨bk, n, none⟩ v) bk := Only.set_ (Only.refl _ _) (.inl rfl) _
  have he2 : Oe o' o' w1 (w1.setCell ⟨bk, n, none⟩ v) 2 := Oe.only he.lt obk' hO
  refine ⟨he2.blk (he.blk h.blk (by omega) h.og) (by omega) (he.opt h.lt h.og), ⟨cs, he2.blk (he.blk r1 (by omega) h.obr) (by omega) (he.opt h.lt h.obr), r2⟩, ⟨ks.setIfInBounds n v, K1.set_ n v, fun i hi => ?_⟩, fun i hi => he2.rel he.lt (he.rel h.lt (h.rel i hi) (by omega)) (by omega), fun i hi => ?_, he2.post he.lt (he.post h.lt h.po h.ov (by omega)) (fun k hk => he.opt h.lt (h.ov k hk)) (by omega), he2.ctl he.lt (he.ctl h.lt h.ct h.oct (by omega)) ⟨he.opt h.lt h.oct.1, he.opt h.lt h.oct.2.1, he.opt h.lt h.oct.2.2⟩ (by omega), h.ck, he.opt h.lt h.og, he.opt h.lt h.obr, obk', ⟨he.opt h.lt h.oct.1, he.opt h.lt h.oct.2.1, he.opt h.lt h.oct.2.2⟩, fun k hk => he.opt h.lt (h.ov k hk), fun i hi k hk => ?_, he2.lt⟩
  · by_cases e : i = n
    · subst e
      rw [upd_same]
      simp [hks]
    · rw [upd_other _ _ e, Array.getElem?_setIfInBounds_ne (Ne.symm e)]
      exact k2 i hi
  · show OwnR _ _ 0 (upd vk n v i) (upd s.kept n l i)
    by_cases e : i = n
    · subst e
      rw [upd_same, upd_same]
      exact he2.row he.lt hr hv (by omega)
    · rw [upd_other _ _ e, upd_other _ _ e]
      exact he2.row he.lt (he.row h.lt (h.kp i hi) (h.ok i hi) (by omega)) (fun k hk => he.opt h.lt (h.ok i hi k hk)) (u := 7 + i) (by omega)
  · by_cases e : i = n
    · subst e
      rw [upd_same] at hk
      exact hv k hk
    · rw [upd_other _ _ e] at hk
      exact he.opt h.lt (h.ok i hi k hk)
/-- Other letters are on their way. -/
theorem NdX.post (h : NdX w o g s br bk gc bm bs cr gr vp vk) {l : List Lt} {v : Value} {w1 : World} (he : Oe o o' w w1 6) (hr : OwnL w1 (OT o') v l) (hv : ∀ k, v.ownBlock = some k → o' k = some 6) :
    NdX (w1.setCell ⟨g, 2, none⟩ v) o' g { s with post := l } br bk gc bm bs cr gr v vk := by
  obtain ⟨cs, r1, r2⟩ := h.rb
  obtain ⟨ks, k1, k2⟩ := h.kb
  have og' := he.opt h.lt h.og
  have hO : Only w1 (w1.setCell ⟨g, 2, none⟩ v) g := Only.set_ (Only.refl _ _) (.inl rfl) _
  have he2 : Oe o' o' w1 (w1.setCell ⟨g, 2, none⟩ v) 0 := Oe.only he.lt og' hO
  exact ⟨(he.blk h.blk (by omega) h.og).set_ 2 v, ⟨cs, he2.blk (he.blk r1 (by omega) h.obr) (by omega) (he.opt h.lt h.obr), r2⟩, ⟨ks, he2.blk (he.blk k1 (by omega) h.obk) (by omega) (he.opt h.lt h.obk), k2⟩, fun i hi => he2.rel he.lt (he.rel h.lt (h.rel i hi) (by omega)) (by omega), fun i hi => he2.row he.lt (he.row h.lt (h.kp i hi) (h.ok i hi) (by omega)) (fun k hk => he.opt h.lt (h.ok i hi k hk)) (u := 7 + i) (by omega), he2.post he.lt hr hv (by omega), he2.ctl he.lt (he.ctl h.lt h.ct h.oct (by omega)) ⟨he.opt h.lt h.oct.1, he.opt h.lt h.oct.2.1, he.opt h.lt h.oct.2.2⟩ (by omega), h.ck, og', he.opt h.lt h.obr, he.opt h.lt h.obk, ⟨he.opt h.lt h.oct.1, he.opt h.lt h.oct.2.1, he.opt h.lt h.oct.2.2⟩, hv, fun i hi k hk => he.opt h.lt (h.ok i hi k hk), he2.lt⟩
/-- One more is counted. -/
theorem NdX.count (h : NdX w o g s br bk gc bm bs cr gr vp vk) (n : Nat) : NdX (w.setCell ⟨g, 4, none⟩ (.int .i64 (n : Int))) o g { s with n := n } br bk gc bm bs cr gr vp vk := by
  obtain ⟨cs, r1, r2⟩ := h.rb
  obtain ⟨ks, k1, k2⟩ := h.kb
  have hO : Only w (w.setCell ⟨g, 4, none⟩ (.int .i64 (n : Int))) g := Only.set_ (Only.refl _ _) (.inl rfl) _
  have he2 : Oe o o w (w.setCell ⟨g, 4, none⟩ (.int .i64 (n : Int))) 0 := Oe.only h.lt h.og hO
  exact ⟨h.blk.set_ 4 _, ⟨cs, he2.blk r1 (by omega) h.obr, r2⟩, ⟨ks, he2.blk k1 (by omega) h.obk, k2⟩, fun i hi => he2.rel h.lt (h.rel i hi) (by omega), fun i hi => he2.row h.lt (h.kp i hi) (h.ok i hi) (by omega), he2.post h.lt h.po h.ov (by omega), he2.ctl h.lt h.ct h.oct (by omega), h.ck, h.og, h.obr, h.obk, h.oct, h.ov, h.ok, he2.lt⟩
/-- The control is another one. -/
theorem NdX.ctl (h : NdX w o g s br bk gc bm bs cr gr vp vk) {k : Vw} {bm' bs' : Nat} (he : Oe o o' w w' 3) (hc : Ctl w' gc bm' bs' k) (hk : k.ok) (h1 : o' bm' = some 3) (h2 : o' bs' = some 3) : NdX w' o' g { s with c := k } br bk gc bm' bs' cr gr vp vk := by
  obtain ⟨cs, r1, r2⟩ := h.rb
  obtain ⟨ks, k1, k2⟩ := h.kb
  exact ⟨he.blk h.blk (by omega) h.og, ⟨cs, he.blk r1 (by omega) h.obr, r2⟩, ⟨ks, he.blk k1 (by omega) h.obk, k2⟩, fun i hi => he.rel h.lt (h.rel i hi) (by omega), fun i hi => he.row h.lt (h.kp i hi) (h.ok i hi) (by omega), he.post h.lt h.po h.ov (by omega), hc, hk, he.opt h.lt h.og, he.opt h.lt h.obr, he.opt h.lt h.obk, ⟨he.opt h.lt h.oct.1, h1, h2⟩, fun k hk => he.opt h.lt (h.ov k hk), fun i hi k hk => he.opt h.lt (h.ok i hi k hk), he.lt⟩
/-- A relay is loaded anew. -/
theorem NdX.reload (h : NdX w o g s br bk gc bm bs cr gr vp vk) {n q : Nat} {r : Rl} {w1 : World} (hn : n < 4) (he : Oe o o' w w1 (11 + n)) (hr : RelW w1 (tg o' (11 + n)) (OT o') q r) :
    NdX (w1.setCell ⟨br, n, none⟩ (.pointer (some ⟨q, 0, none⟩))) o' g { s with rs := upd s.rs n r } br bk gc bm bs cr (upd gr n q) vp vk := by
  obtain ⟨cs, r1, r2⟩ := h.rb
  obtain ⟨ks, k1, k2⟩ := h.kb
  have obr' := he.opt h.lt h.obr
  have hcs : n < cs.size := (Array.getElem?_eq_some_iff.1 (r2 n hn)).1
  have R1 : Blk w1 br 24 cs := he.blk r1 (by omega) h.obr
  have hO : Only w1 (w1.setCell ⟨br, n, none⟩ (.pointer (some ⟨q, 0, none⟩))) br := Only.set_ (Only.refl _ _) (.inl rfl) _
  have he2 : Oe o' o' w1 (w1.setCell ⟨br, n, none⟩ (.pointer (some ⟨q, 0, none⟩))) 1 := Oe.only he.lt obr' hO
  refine ⟨he2.blk (he.blk h.blk (by omega) h.og) (by omega) (he.opt h.lt h.og), ⟨cs.setIfInBounds n _, R1.set_ n _, fun i hi => ?_⟩, ⟨ks, he2.blk (he.blk k1 (by omega) h.obk) (by omega) (he.opt h.lt h.obk), k2⟩, fun i hi => ?_, fun i hi => he2.row he.lt (he.row h.lt (h.kp i hi) (h.ok i hi) (by omega)) (fun k hk => he.opt h.lt (h.ok i hi k hk)) (u := 7 + i) (by omega), he2.post he.lt (he.post h.lt h.po h.ov (by omega)) (fun k hk => he.opt h.lt (h.ov k hk)) (by omega), he2.ctl he.lt (he.ctl h.lt h.ct h.oct (by omega)) ⟨he.opt h.lt h.oct.1, he.opt h.lt h.oct.2.1, he.opt h.lt h.oct.2.2⟩ (by omega), h.ck, he.opt h.lt h.og, obr', he.opt h.lt h.obk, ⟨he.opt h.lt h.oct.1, he.opt h.lt h.oct.2.1, he.opt h.lt h.oct.2.2⟩, fun k hk => he.opt h.lt (h.ov k hk), fun i hi k hk => he.opt h.lt (h.ok i hi k hk), he2.lt⟩
  · by_cases e : i = n
    · subst e
      rw [upd_same]
      simp [hcs]
    · rw [upd_other _ _ e, Array.getElem?_setIfInBounds_ne (Ne.symm e)]
      exact r2 i hi
  · show RelW _ _ _ (upd gr n q i) (upd s.rs n r i)
    by_cases e : i = n
    · subst e
      rw [upd_same, upd_same]
      exact he2.rel he.lt hr (by omega)
    · rw [upd_other _ _ e, upd_other _ _ e]
      exact he2.rel he.lt (he.rel h.lt (h.rel i hi) (by omega)) (by omega)
end
end Go.Proofs.Ytjhcgnmibnjocaa

/-! Nodes in memory: appends of letters, of records. -/
namespace Go.Proofs.Ytjhcgnmibnjocaa
open Go.RowKit Go.Maps
set_option linter.unusedVariables false
set_option linter.unusedSimpArgs false
/-- What is changed is owned; who owned it goes on owning it. -/
structure Goes (o o' : Nat → Option Nat) (w w' : World) : Prop where
  kp : Kp (OT o) w w'
  old : ∀ k, k < w.heap.size → o' k = o k
theorem Oe.goes {o o' : Nat → Option Nat} {w w' : World} {t : Nat} (h : Oe o o' w w' t) : Goes o o' w w' := ⟨h.kp.weaken (fun k hk => tg_OT hk), h.old⟩
theorem Goes.refl (o : Nat → Option Nat) (w : World) : Goes o o w w := ⟨Kp.refl _ _, fun _ _ => rfl⟩
theorem Goes.below {o : Nat → Option Nat} {w w' : World} (h : Below w.heap.size w w') : Goes o o w w' := ⟨Kp.of_below h, fun _ _ => rfl⟩
theorem Goes.trans {o o' o'' : Nat → Option Nat} {w w' w'' : World} (h : Goes o o' w w') (h' : Goes o' o'' w' w'') : Goes o o'' w w'' := by
  have hs := h.kp.size
  refine ⟨⟨h'.kp.os.trans h.kp.os, h'.kp.tape.trans h.kp.tape, h'.kp.output.trans h.kp.output, Nat.le_trans hs h'.kp.size, fun k hk hn => ?_⟩, fun k hk => (h'.old k (by omega)).trans (h.old k hk)⟩
  exact (h'.kp.block k (by omega) (fun g => hn (by unfold OT at *; rw [h.old k hk] at g; exact g))).trans (h.kp.block k hk hn)
def Lo (o : Nat → Option Nat) (base : Nat) : Prop := ∀ k, OT o k → base ≤ k
theorem Goes.lo {o o' : Nat → Option Nat} {w w' : World} {base : Nat} (h : Goes o o' w w') (hl : Lo o base) (hb : base ≤ w.heap.size) : Lo o' base := fun k hk => by
  rcases Nat.lt_or_ge k w.heap.size with g | g
  · exact hl k (by unfold OT at *; rw [h.old k g] at hk; exact hk)
  · omega
theorem Goes.low {o o' : Nat → Option Nat} {w w' : World} {base : Nat} (h : Goes o o' w w') (hl : Lo o base) (hb : base ≤ w.heap.size) : Below base w w' := h.kp.below hb hl
section
variable {o o' : Nat → Option Nat} {w w' : World} {g br bk gc bm bs cr : Nat} {gr : Nat → Nat} {vp : Value} {vk : Nat → Value} {s : Nd}
/-- A row that grows is owned by whom it was owned. -/
theorem row_oe {u size n : Nat} {e : TypeId} {v v' : Value} {xs : List Value} (hlt : ∀ k, OT o k → k < w.heap.size) (hv : ∀ k, v.ownBlock = some k → o k = some u) (hg : w.grownBy w' v.ownBlock) (hb : v'.ownBlock = v.ownBlock ∨ v'.ownBlock = some w.heap.size) (ho : w'.ownsRow 0 e size v' n xs) :
    Oe o (fun k => if v'.ownBlock = some k then some u else o k) w w' u ∧ ∀ k, v'.ownBlock = some k → (fun k => if v'.ownBlock = some k then some u else o k) k = some u := by
  refine ⟨⟨(grown_kp hg).weaken (fun k hk => hv k hk), fun k hk => ?_, fun k hk => ?_, fun k hk => ?_⟩, fun k hk => if_pos hk⟩
  · show (if v'.ownBlock = some k then some u else o k) = o k
    split
    · rename_i he
      rcases hb with hb | hb
      · rw [hb] at he; exact (hv k he).symm
      · rw [hb] at he; cases he; omega
    · rfl
  · show (if v'.ownBlock = some k then some u else o k) = none ∨ (if v'.ownBlock = some k then some u else o k) = some u
    split
    · exact .inr rfl
    · cases h : o k with
      | none => exact .inl rfl
      | some x => have := hlt k (by unfold OT; rw [h]; rfl); omega
  · by_cases he : v'.ownBlock = some k
    · exact (ho.lt k he).2
    · have hk' : OT o k := by
        unfold OT at *
        simp only [if_neg he] at hk
        exact hk
      exact Nat.lt_of_lt_of_le (hlt k hk') hg.size
theorem NdX.app (h : NdX w o g s br bk gc bm bs cr gr vp vk) {ms : List Lm} (hms : ∀ m ∈ ms, LmW w (OT o) m) {A : Option Addr} {c : Nat} (hr : Reads w w.heap.size 13 A ms.length (lmV ms)) (hl : s.post.length ≤ 1000000) (hm : ms.length ≤ 1000000) :
    ∃ v' w' o' A' c', v' = .slice A' (s.post.length + ms.length) c' ∧ (Builtin.append_ #[84, 84] 84 #[vp, .slice A ms.length c]).run Try.prog w = .ok v' w' ∧
      NdX (w'.setCell ⟨g, 2, none⟩ v') o' g { s with post := s.post ++ ms.map Lm.x } br bk gc bm bs cr gr v' vk ∧ Blk w' g 87 #[.slice (some ⟨br, 0, none⟩) 4 cr, .slice (some ⟨bk, 0, none⟩) 4 4, vp, .pointer (some ⟨gc, 0, none⟩), .int .i64 (s.n : Int)] ∧ Kp (tg o 6) w w' ∧ Goes o o' w (w'.setCell ⟨g, 2, none⟩ v') := by
  obtain ⟨i0, hi, hz0, hz1, hz2⟩ := info_parts infoLt
  obtain ⟨ns, he, hown, hns⟩ := h.po
  obtain ⟨v', w', r1, r2, r3, r4⟩ := run_appR (t := 84) (ty := 84) (e := 145) Try.underlying84 hi hz0 hz1 hz2 rfl (by decide) hown (c := c) hr (lmV_one hms) (by unfold maxLen; omega) (by omega)
  obtain ⟨hoe, ho'⟩ := row_oe h.lt h.ov r3 r4 r2
  obtain ⟨A', c', hv', _⟩ := own_sl r2
  refine ⟨v', w', _, A', c', hv', r1, h.post hoe ⟨ns ++ ms, ?_, ?_, fun m hm => ?_⟩ ho', hoe.blk h.blk (by decide) h.og, hoe.kp, hoe.goes.trans (Oe.goes (Oe.only hoe.lt (hoe.opt h.lt h.og) (Only.set_ (Only.refl _ _) (.inl rfl) _)))⟩
  · rw [List.map_append, he]
  · rw [List.length_append, List.length_map, lmV_append]
    exact r2
  · have hsub : LmW w (OT o) m := (List.mem_append.1 hm).elim (hns m) (hms m)
    exact (hsub.sub hoe.T).kp (hoe.kp.weaken (hoe.R h.lt))
theorem bss_one {w : World} {T : Nat → Prop} {ms : List (List Nat × Value)} (h : ∀ m ∈ ms, Bsl w T m.2 m.1) : ∀ u ∈ ms.map Prod.snd, u.oneCell' = true := fun u hu => by
  obtain ⟨m, hm, rfl⟩ := List.mem_map.1 hu
  obtain ⟨A, c, e, _⟩ := (h m hm).ex
  rw [e]; rfl
theorem NdX.appK (h : NdX w o g s br bk gc bm bs cr gr vp vk) {n m : Nat} (hn : n < 4) {l : List (List Nat)} {A : Option Addr} {c : Nat} (hr : Recs w (OT o) A m l) (hl : (s.kept n).length ≤ 1000000) (hm : m ≤ 1000000) :
    ∃ v' w' o' A' c', v' = .slice A' ((s.kept n).length + m) c' ∧ (Builtin.append_ #[42, 42] 42 #[vk n, .slice A m c]).run Try.prog w = .ok v' w' ∧
      NdX (w'.setCell ⟨bk, n, none⟩ v') o' g { s with kept := upd s.kept n (s.kept n ++ l) } br bk gc bm bs cr gr vp (upd vk n v') ∧ Blk w' g 87 #[.slice (some ⟨br, 0, none⟩) 4 cr, .slice (some ⟨bk, 0, none⟩) 4 4, vp, .pointer (some ⟨gc, 0, none⟩), .int .i64 (s.n : Int)] ∧ (∃ ks, Blk w' bk 42 ks ∧ ∀ i, i < 4 → ks[i]? = some (vk i)) ∧ Kp (tg o (7 + n)) w w' ∧ Goes o o' w (w'.setCell ⟨bk, n, none⟩ v') := by
  obtain ⟨i0, hi, hz0, hz1, hz2⟩ := info_parts infoBs
  obtain ⟨ns, he, hown, hns⟩ := h.kp n hn
  obtain ⟨⟨ms, hme, hmr, hmm⟩, hln, hnt⟩ := hr
  obtain ⟨v', w', r1, r2, r3, r4⟩ := run_appR (t := 42) (ty := 42) (e := 32) Try.underlying42 hi hz0 hz1 hz2 rfl (by decide) hown (c := c) hmr (bss_one hmm) (by unfold maxLen; omega) (by omega)
  obtain ⟨hoe, ho'⟩ := row_oe h.lt (h.ok n hn) r3 r4 r2
  obtain ⟨A', c', hv', _⟩ := own_sl r2
  obtain ⟨ks, k1, k2⟩ := h.kb
  refine ⟨v', w', _, A', c', hv', r1, h.kept hn hoe ⟨ns ++ ms, ?_, ?_, fun m hm => ?_⟩ ho', hoe.blk h.blk (by omega) h.og, ⟨ks, hoe.blk k1 (by omega) h.obk, k2⟩, hoe.kp, hoe.goes.trans (Oe.goes (Oe.only hoe.lt (hoe.opt h.lt h.obk) (Only.set_ (Only.refl _ _) (.inl rfl) _)))⟩
  · rw [List.map_append, he, hme]
  · rw [List.length_append, List.map_append, hln]
    exact r2
  · have hsub : Bsl w (OT o) m.2 m.1 := (List.mem_append.1 hm).elim (fun h' => (hns m h').sub (fun k _ hk => .inl hk)) (hmm m)
    have := (hsub.sub hoe.T).kp (hoe.kp.weaken (hoe.R h.lt))
    refine this.sub (fun k _ hk => hk.elim id (fun e => ?_))
    unfold OT
    rw [ho' k e]; rfl
end
end Go.Proofs.Ytjhcgnmibnjocaa

/-! Nodes: the control tells all its view. -/
namespace Go.Proofs.Ytjhcgnmibnjocaa
open Go.RowKit Go.Maps
set_option linter.unusedVariables false
set_option linter.unusedSimpArgs false
attribute [local irreducible] First.wpF
theorem lm_reads {w : World} (m : Lm) {cs : Array Value} (hcs : cs = m.cells.toArray) {b : Nat} (hb : b = w.heap.size) : Reads (w.alloc (.cells cs 145)) (w.alloc (.cells cs 145)).heap.size 13 (some ⟨b, 0, none⟩) [m].length (lmV [m]) := by
  subst hcs hb
  refine ⟨lmV_length [m], fun _ => ⟨_, rfl, by simp, fun j u hu => cells_new w _ _ j u ?_⟩⟩
  simpa [lmV, rowsV] using hu
set_option maxRecDepth 100000 in
set_option maxHeartbeats 4000000 in
theorem nlead_any {o : Nat → Option Nat} {g br bk gc bm bs cr : Nat} {gr : Nat → Nat} {vp : Value} {vk : Nat → Value} {s : Nd} (w : World) (h : NdX w o g s br bk gc bm bs cr gr vp vk) (hl : s.post.length ≤ 10000) :
    Calls Try.prog 84 #[.pointer (some ⟨g, 0, none⟩)] w fun e w' => e = .returned (.tuple #[]) ∧ ∃ o' vp', NdX w' o' g (leadN s) br bk gc bm bs cr gr vp' vk ∧ Goes o o' w w' := by
  have hms := h.ck.mb
  have c0 := h.blk.cell
  have l0 := h.blk.lt
  go_enter Try.func84, Try.ntmps84
  go_wp2
  go_loopw [8] (fun vi wr => ∃ (j : Nat) (o1 : Nat → Option Nat) (vp1 : Value), j ≤ 4 ∧ vi = .int .i64 (j : Int) ∧ NdX wr o1 g { s with post := s.post ++ (List.range j).map fun i => ⟨-1, i, mg0, s.c.vi⟩ } br bk gc bm bs cr gr vp1 vk ∧ Goes o o1 w wr) (fun vi _ => ((4 : Int) - intOf vi).toNat)
  case atStart => exact ⟨0, o, vp, by omega, rfl, by simpa using h, Goes.refl _ _⟩
  case round =>
    clear h c0 l0
    obtain ⟨j, o1, vp1, hj, rfl, hX, hgo⟩ := hrel
    obtain ⟨wo, rfl⟩ : ∃ wo : World, wo = wr := ⟨_, rfl⟩
    by_cases hlt : j < 4
    · have hlj : (j : Int) < 4 := by omega
      have hL1 := hide (show s.post ++ (List.range (j + 1)).map (fun i => (⟨-1, i, mg0, s.c.vi⟩ : Lt)) = (s.post ++ (List.range j).map fun i => ⟨-1, i, mg0, s.c.vi⟩) ++ [⟨-1, j, mg0, s.c.vi⟩] by rw [List.range_succ, List.map_append, List.append_assoc]; rfl)
      have hLl : (s.post ++ (List.range j).map fun i => (⟨-1, i, mg0, s.c.vi⟩ : Lt)).length ≤ 20000 := by rw [List.length_append, List.length_map, List.length_range]; omega
      generalize (s.post ++ (List.range j).map fun i => (⟨-1, i, mg0, s.c.vi⟩ : Lt)) = L at *
      have cX := hX.blk.cell
      have lX := hX.blk.lt
      obtain ⟨Ap, cp, hvp, _⟩ := hX.po.sl
      subst hvp
      have hNow := fun Y : Ext => now_any gc bm bs s.c (wo.ext Y) (hX.below (World.below_ext wo Y)).ct hms
      go_upto_region 3 with fail
      refine First.wp_region_first_ext [4, 9] [0, 1, 2, 3, 5, 6, 7, 8, 11, 14, 15] [(true, false, 0), (true, false, 1), (true, false, 2), (true, false, 3), (true, true, 4), (true, false, 5), (true, false, 6), (true, false, 7), (true, false, 8), (true, true, 9), (false, true, 10), (true, false, 11), (false, true, 12), (false, false, 13), (true, false, 14), (true, false, 15), (false, false, 16)] (by kernel_rfl) (by kernel_rfl) (fun X => ?_); simp only [List.map_cons, List.map_nil, List.getD_cons_zero, List.getD_cons_succ]
      (repeat (first | (refine First.wpF_pure (fun K hK => ?_); go_simp; first | (refine hK _ _ ?_; clear hK K) | (apply Exists.intro; refine ⟨fun _ => ?_, hK _ _ ?_⟩; fail)) | (refine First.wpF_free (fun K hK => ?_); go_simp; first | (refine hK _ _ ?_; clear hK K))))
      refine First.wpF_must (fun K hK => ?_)
      go_wp2_with (go_at_call 37; (with_reducible refine (hNow _).mono ?_); rintro e w2 ⟨⟨v2, rfl, ho2⟩, hb2⟩; obtain ⟨A2, c2, rfl, _⟩ := own_sl ho2)
      have hgr2 : First.Grown _ w2 := World.ext_of_below hb2
      (refine hK _ _ (fun hnd => by first | exact Bool.noConfusion hnd | assumption | with_reducible exact grown_alloc _ _ | with_reducible exact First.Grown.refl _ | with_reducible exact First.Grown.cat _ _ _ | with_reducible exact First.Grown.ext _ _) ?_; clear hK K)
      (repeat (first | (refine First.wpF_pure (fun K hK => ?_); go_simp; first | (refine hK _ _ ?_; clear hK K) | (apply Exists.intro; refine ⟨fun _ => ?_, hK _ _ ?_⟩; fail)) | (refine First.wpF_free (fun K hK => ?_); go_simp; first | (refine hK _ _ ?_; clear hK K))))
      have hbx : Below wo.heap.size wo w2 := (World.below_ext wo X).trans (hb2.mono (by simp only [World.size_ext]; omega))
      have hX2 := hX.below hbx
      obtain ⟨m, hm⟩ : ∃ m : Lm, m = ⟨⟨-1, j, mg0, s.c.vi⟩, .slice none 0 0, .slice none 0 0, .slice A2 s.c.ms.length c2⟩ := ⟨_, rfl⟩
      have hmW : LmW w2 (OT o1) m := by
        rw [hm]
        exact ⟨⟨⟨none, 0, rfl, Reads.none_, fun h0 => absurd h0 (by simp [mg0, Vi.none])⟩, none, 0, rfl, Ents.nil _ _⟩, A2, c2, rfl, Reads.of_own ho2, fun h0 a ha ht => by have := (own_addr ho2 a ha).1; have := hX.lt _ ht; simp only [World.size_ext] at *; omega⟩
      obtain ⟨cs, hcs⟩ : ∃ cs, cs = m.cells.toArray := ⟨_, rfl⟩
      have hb3 : Below w2.heap.size w2 (w2.alloc (.cells cs 145)) := Below.alloc (Below.refl _ _) (Nat.le_refl _) _
      have hmx : m.x = ⟨-1, j, mg0, s.c.vi⟩ := by rw [hm]
      obtain ⟨v', w4, o4, A4, c4, hv4, hrun, hX4, hB4, hk4, hg4⟩ := (hX2.below hb3).app (ms := [m]) (fun x hx => by rw [List.mem_singleton] at hx; rw [hx]; exact hmW.kp (Kp.of_below hb3)) (c := 1) (lm_reads m hcs rfl) (by show L.length ≤ 1000000; omega) (by simp)
      subst hv4
      rw [hm] at hcs
      simp only [List.map_cons, List.map_nil, hmx] at hX4
      rw [← hL1.out] at hX4
      rw [hcs] at hrun hg4
      clear hX2 hmW hb3 hm hmx hcs hNow hk4
      have hgo4 := hgo.trans ((Goes.below hbx).trans ((Goes.below (Below.alloc (Below.refl _ _) (Nat.le_refl _) _)).trans hg4))
      have c4' := hB4.cell
      have f4 := hB4.frozen
      have l4 := hB4.lt
      refine First.wpF_must (fun K hK => ?_)
      go_wp2
      (refine hK _ _ (fun hnd => by first | exact Bool.noConfusion hnd | assumption | with_reducible exact grown_alloc _ _ | with_reducible exact First.Grown.refl _ | with_reducible exact First.Grown.cat _ _ _ | with_reducible exact First.Grown.ext _ _) ?_; clear hK K)
      refine First.wpF_must (fun K hK => ?_)
      go_wp2_with (at_builtin; refine wpList_append_run rfl (.tmp 15) (.tmp 23) 84 rfl rfl rfl hrun ?_)
      (refine hK _ _ (fun hnd => by first | exact Bool.noConfusion hnd | assumption | with_reducible exact grown_alloc _ _ | with_reducible exact First.Grown.refl _ | with_reducible exact First.Grown.cat _ _ _ | with_reducible exact First.Grown.ext _ _) ?_; clear hK K)
      (repeat (first | (refine First.wpF_pure (fun K hK => ?_); go_simp; first | (refine hK _ _ ?_; clear hK K) | (apply Exists.intro; refine ⟨fun _ => ?_, hK _ _ ?_⟩; fail)) | (refine First.wpF_free (fun K hK => ?_); go_simp; first | (refine hK _ _ ?_; clear hK K))))
      refine First.wpF_must (fun K hK => ?_)
      go_wp2
      (refine hK _ _ (fun hnd => by first | exact Bool.noConfusion hnd | assumption | with_reducible exact grown_alloc _ _ | with_reducible exact First.Grown.refl _ | with_reducible exact First.Grown.cat _ _ _ | with_reducible exact First.Grown.ext _ _) ?_; clear hK K)
      refine First.wpF_nil ?_
      go_wp2
      go_roundw
      case rel => exact ⟨j + 1, o4, _, by omega, by go_num, hX4, hgo4⟩
      case measure => simp [intOf]; omega
    · obtain rfl : j = 4 := by omega
      go_wp2
      refine bodyPost_end (v := .tuple #[]) (by simp [results, Try.results84, go_sem] <;> rfl) rfl ⟨rfl, o1, vp1, hX, hgo⟩
end Go.Proofs.Ytjhcgnmibnjocaa

/-! Nodes: records last, messages are set out. -/
namespace Go.Proofs.Ytjhcgnmibnjocaa
open Go.RowKit Go.Maps
set_option linter.unusedVariables false
set_option linter.unusedSimpArgs false
attribute [local irreducible] First.wpF
theorem posts_snoc (f : Int) : ∀ (l : List Ot) (p : List Lt) (o : Ot), posts f p (l ++ [o]) = if 0 ≤ o.to ∧ o.to < 4 ∧ (posts f p l).length < 300 then posts f p l ++ [⟨f, o.to.toNat, o.m, Vi.none⟩] else posts f p l
  | [], p, o => rfl
  | x :: l, p, o => by
    rw [List.cons_append, posts, posts]
    exact posts_snoc f l _ o
theorem posts_le (f : Int) : ∀ (l : List Ot) (p : List Lt), (posts f p l).length ≤ max p.length 300
  | [], p => by show p.length ≤ _; omega
  | x :: l, p => by
    rw [posts]
    split
    · have := posts_le f l (p ++ [⟨f, x.to.toNat, x.m, Vi.none⟩])
      rw [List.length_append, List.length_singleton] at this
      omega
    · exact posts_le f l p
theorem Outs.at_ {w : World} {T : Nat → Prop} {A : Option Addr} {n : Nat} {l : List Ot} (h : Outs w T A n l) {j : Nat} (hlt : j < n) :
    ∃ b q m, A = some ⟨b, q, none⟩ ∧ b < w.heap.size ∧ l[j]? = some m.o ∧ MgW w T m.vm m.vl m.o.m ∧ (∀ k u, (Om.cells m)[k]? = some u → w.cell? ⟨b, q + j * 9 + k, none⟩ = some u) := by
  obtain ⟨⟨ms, hms, hr, hm⟩, hln, hnt⟩ := h
  obtain ⟨b, q, rfl, hbl, hcc⟩ := hr.plain (by omega) (by omega)
  have hml : ms.length = n := by rw [← hln, ← hms, List.length_map]
  have hjm : j < ms.length := by omega
  have hg : ms[j]? = some (ms[j]'hjm) := List.getElem?_eq_getElem hjm
  refine ⟨b, q, ms[j]'hjm, rfl, hbl, by rw [← hms, List.getElem?_map, hg]; rfl, hm _ (List.getElem_mem hjm), fun k u hu => ?_⟩
  rw [Nat.add_assoc]
  exact hcc _ _ (rowsV_get Om.cells_len ms j _ hg k u hu)
theorem Goes.T {o o' : Nat → Option Nat} {w w' : World} (h : Goes o o' w w') : ∀ k, k < w.heap.size → OT o' k → OT o k := fun k hk ht => by unfold OT at *; rw [h.old k hk] at ht; exact ht
theorem Goes.R {o o' : Nat → Option Nat} {w w' : World} (h : Goes o o' w w') (hlt : ∀ k, OT o k → k < w.heap.size) : ∀ k, OT o k → OT o' k := fun k ht => by have := hlt k ht; unfold OT at *; rw [h.old k this]; exact ht
theorem Goes.outs {o o' : Nat → Option Nat} {w w' : World} (h : Goes o o' w w') (hlt : ∀ k, OT o k → k < w.heap.size) {A : Option Addr} {n : Nat} {l : List Ot} (hO : Outs w (OT o) A n l) : Outs w' (OT o') A n l := (hO.sub h.T).kp (h.kp.weaken (h.R hlt))
theorem Goes.recs {o o' : Nat → Option Nat} {w w' : World} (h : Goes o o' w w') (hlt : ∀ k, OT o k → k < w.heap.size) {A : Option Addr} {n : Nat} {l : List (List Nat)} (hO : Recs w (OT o) A n l) : Recs w' (OT o') A n l := (hO.sub h.T).kp (h.kp.weaken (h.R hlt))
theorem Goes.mg {o o' : Nat → Option Nat} {w w' : World} (h : Goes o o' w w') (hlt : ∀ k, OT o k → k < w.heap.size) {vm vl : Value} {m : Mg} (hO : MgW w (OT o) vm vl m) : MgW w' (OT o') vm vl m := (hO.sub h.T).kp (h.kp.weaken (h.R hlt))
set_option maxRecDepth 100000 in
set_option maxHeartbeats 4000000 in
theorem nout_any {o : Nat → Option Nat} {g br bk gc bm bs cr : Nat} {gr : Nat → Nat} {vp : Value} {vk : Nat → Value} {s : Nd} (w : World) (h : NdX w o g s br bk gc bm bs cr gr vp vk) {n : Nat} (hn : n < 4) {A B : Option Addr} {m c k d : Nat} {recs : List (List Nat)} {l : List Ot} (hR : Recs w (OT o) A m recs) (hO : Outs w (OT o) B k l)
    (hl : s.post.length ≤ 10000) (hkn : (s.kept n).length ≤ 10000) (hm : m ≤ 10000) (hk : k ≤ 1000000) :
    Calls Try.prog 85 #[.pointer (some ⟨g, 0, none⟩), .int .i64 (n : Int), .slice A m c, .slice B k d] w fun e w' => e = .returned (.tuple #[]) ∧ ∃ o' vp' vk', NdX w' o' g { s with kept := upd s.kept n (s.kept n ++ recs), post := posts n s.post l } br bk gc bm bs cr gr vp' vk' ∧ Goes o o' w w' := by
  have hnI : (n : Int) < 4 := by omega
  have hlO := hO.len
  have c0 := h.blk.cell
  have l0 := h.blk.lt
  obtain ⟨ks, k1, k2⟩ := h.kb
  have ck := k1.cell
  have lk := k1.lt
  obtain ⟨Ak, ck', hvk⟩ := (h.kp n hn).sl
  have kn : w.cell? ⟨bk, n, none⟩ = some (.slice Ak (s.kept n).length ck') := by rw [ck, k2 n hn, hvk]
  go_enter Try.func85, Try.ntmps85
  go_upto_region 0 with fail
  have hng : ¬tg o (7 + n) g := fun e => by unfold tg at e; rw [h.og] at e; injection e with e; omega
  have hnb : ¬tg o (7 + n) bk := fun e => by unfold tg at e; rw [h.obk] at e; injection e with e; omega
  have hksn : ks[n]? = some (.slice Ak (s.kept n).length ck') := by rw [k2 n hn, hvk]
  have hblk := h.blk
  refine wp_region_kp (tg o (7 + n)) [3, 8, 11] [0, 1, 2, 4, 5, 6, 7, 9, 10, 12, 14] [(true, false, 0), (true, false, 1), (true, false, 2), (true, true, 3), (true, false, 4), (true, false, 5), (true, false, 6), (true, false, 7), (true, true, 8), (true, false, 9), (true, false, 10), (true, true, 11), (true, false, 12), (false, true, 13), (true, false, 14), (false, false, 15)] (by kernel_rfl) (by kernel_rfl) (fun X => ?_); simp only [List.map_cons, List.map_nil, List.getD_cons_zero, List.getD_cons_succ]
  (repeat (first | (refine First.wpF_pure (fun K hK => ?_); go_simp; first | (refine hK _ _ ?_; clear hK K) | (apply Exists.intro; refine ⟨fun _ => ?_, hK _ _ ?_⟩; fail)) | (refine First.wpF_free (fun K hK => ?_); go_simp; first | (refine hK _ _ ?_; clear hK K))))
  (refine first_readG rfl (v := .slice (some ⟨bk, 0, none⟩) 4 4) (fun w' hw' => ?_) (fun K hK => ?_); rotate_left 1; go_simp; refine hK _ _ ?_; clear hK K; rotate_left 1; (have hB' := Blk.kp (Blk.ext hblk _) hw' hng; have c' := Blk.cell hB'; go_simp))
  (repeat (first | (refine First.wpF_pure (fun K hK => ?_); go_simp; first | (refine hK _ _ ?_; clear hK K) | (apply Exists.intro; refine ⟨fun _ => ?_, hK _ _ ?_⟩; fail)) | (refine First.wpF_free (fun K hK => ?_); go_simp; first | (refine hK _ _ ?_; clear hK K))))
  (refine first_readG rfl (v := .slice (some ⟨bk, 0, none⟩) 4 4) (fun w' hw' => ?_) (fun K hK => ?_); rotate_left 1; go_simp; refine hK _ _ ?_; clear hK K; rotate_left 1; (have hB' := Blk.kp (Blk.ext hblk _) hw' hng; have c' := Blk.cell hB'; go_simp))
  (repeat (first | (refine First.wpF_pure (fun K hK => ?_); go_simp; first | (refine hK _ _ ?_; clear hK K) | (apply Exists.intro; refine ⟨fun _ => ?_, hK _ _ ?_⟩; fail)) | (refine First.wpF_free (fun K hK => ?_); go_simp; first | (refine hK _ _ ?_; clear hK K))))
  (refine first_readG rfl (v := .slice Ak (s.kept n).length ck') (fun w' hw' => ?_) (fun K hK => ?_); rotate_left 1; go_simp; refine hK _ _ ?_; clear hK K; rotate_left 1; (have hB' := Blk.kp (Blk.ext k1 _) hw' hnb; have c' := Blk.cell hB'; go_simp))
  (repeat (first | (refine First.wpF_pure (fun K hK => ?_); go_simp; first | (refine hK _ _ ?_; clear hK K) | (apply Exists.intro; refine ⟨fun _ => ?_, hK _ _ ?_⟩; fail)) | (refine First.wpF_free (fun K hK => ?_); go_simp; first | (refine hK _ _ ?_; clear hK K))))
  obtain ⟨v1, w1, o1, A1, c1, hv1, hrun, hX1, hB1, ⟨ks1, hK1, hK2⟩, hk1, hg1⟩ := (h.below (World.below_ext w X)).appK hn (c := c) (hR.kp (Kp.of_below (World.below_ext w X))) (by omega) (by omega)
  subst hv1
  rw [hvk] at hrun
  have kx : w1.cell? ⟨bk, n, none⟩ = some (.slice Ak (s.kept n).length ck') := by rw [hK1.cell, hK2 n hn, hvk]
  have kf := hK1.frozen
  have kl := hK1.lt
  have hg01 := (Goes.below (World.below_ext w X)).trans hg1
  refine First.wpF_must (fun K hK => ?_)
  go_wp2_with (at_builtin; refine wpList_append_run rfl (.tmp 21) (.tmp 22) 42 rfl rfl rfl hrun ?_)
  (refine hK _ _ (fun hnd => by first | exact Bool.noConfusion hnd | exact hk1) ?_; clear hK K)
  (repeat (first | (refine First.wpF_pure (fun K hK => ?_); go_simp; first | (refine hK _ _ ?_; clear hK K) | (apply Exists.intro; refine ⟨fun _ => ?_, hK _ _ ?_⟩; fail)) | (refine First.wpF_free (fun K hK => ?_); go_simp; first | (refine hK _ _ ?_; clear hK K))))
  refine First.wpF_must (fun K hK => ?_)
  go_wp2
  (refine hK _ _ (fun hnd => by first | exact Bool.noConfusion hnd | exact hk1) ?_; clear hK K)
  refine First.wpF_nil ?_
  have hO1 : Outs (w1.setCell ⟨bk, n, none⟩ (.slice A1 ((s.kept n).length + m) c1)) (OT o) B k l := hO.kp hg01.kp
  have hgO : ∀ j, j < w.heap.size → OT o1 j → OT o j := fun j hj ht => by unfold OT at *; rw [hg01.old j hj] at ht; exact ht
  refine abstr (fun W => Goes o o1 w W ∧ ∃ vk1, NdX W o1 g { s with kept := upd s.kept n (s.kept n ++ recs) } br bk gc bm bs cr gr vp vk1) ⟨hg01, _, hX1⟩ (fun w2 hW2 => ?_)
  clear hX1 hB1 hK1 hK2 hk1 hg1 hrun kx kf kl hg01 hO1 c0 l0 k1 k2 ck lk kn hvk hng hnb hksn hblk
  obtain ⟨hg2, vk1, hX2⟩ := hW2
  have hlt0 := h.lt
  clear h hR
  go_wp2
  go_loopw [27] (fun vi wr => ∃ (j : Nat) (o3 : Nat → Option Nat) (vp3 : Value), j ≤ k ∧ vi = .int .i64 (j : Int) ∧ NdX wr o3 g { s with kept := upd s.kept n (s.kept n ++ recs), post := posts n s.post (l.take j) } br bk gc bm bs cr gr vp3 vk1 ∧ Goes o o3 w wr) (fun vi _ => ((k : Int) - intOf vi).toNat)
  case atStart => exact ⟨0, o1, vp, by omega, rfl, hX2, hg2⟩
  case round =>
    clear hX2 hg2
    obtain ⟨j, o3, vp3, hj, rfl, hX3, hg3⟩ := hrel
    obtain ⟨wo, rfl⟩ : ∃ wo : World, wo = wr := ⟨_, rfl⟩
    by_cases hlt : j < k
    · have hlj : (j : Int) < k := by omega
      have hO3 := hg3.outs hlt0 hO
      obtain ⟨b, q, mm, rfl, hbl, hgl, hM, hcell⟩ := hO3.at_ hlt
      have m0 := hcell 0 _ rfl
      have m1 := hcell 1 _ rfl
      have m2 := hcell 2 _ rfl
      have m3 := hcell 3 _ rfl
      have m4 := hcell 4 _ rfl
      have m5 := hcell 5 _ rfl
      have m6 := hcell 6 _ rfl
      have m7 := hcell 7 _ rfl
      have m8 := hcell 8 _ rfl
      rw [Nat.add_zero] at m0
      have htk : l.take (j + 1) = l.take j ++ [mm.o] := by rw [List.take_add_one, hgl]; rfl
      have HP := hide (posts_snoc n (l.take j) s.post mm.o)
      rw [← htk] at HP
      have hpl := posts_le n (l.take j) s.post
      generalize posts n s.post (l.take j) = L at *
      have cX := hX3.blk.cell
      have lX := hX3.blk.lt
      obtain ⟨Ap, cp, hvp, _⟩ := hX3.po.sl
      subst hvp
      clear hcell htk hgl
      obtain ⟨⟨to_, mg⟩, vm, vl⟩ := mm
      simp only at *
      obtain ⟨Am, cm, Bm, dm, rfl, rfl, -⟩ := hM.sl
      have hOut := Blk.new wo 106 #[.int .i64 to_, .int .i64 mg.k, .int .i64 mg.e, .int .i64 mg.v.e, .int .i64 mg.v.p, .slice Am mg.v.l.length cm, .int .i64 mg.i, .int .i64 mg.s, .slice Bm mg.log.length dm]
      have hbA : Below wo.heap.size wo (wo.alloc (.cells #[.int .i64 to_, .int .i64 mg.k, .int .i64 mg.e, .int .i64 mg.v.e, .int .i64 mg.v.p, .slice Am mg.v.l.length cm, .int .i64 mg.i, .int .i64 mg.s, .slice Bm mg.log.length dm] 106)) := Below.alloc (Below.refl _ _) (Nat.le_refl _) _
      have hpx : ¬OT o3 wo.heap.size := fun e => Nat.lt_irrefl _ (hX3.lt _ e)
      go_upto_region 4 with fail
      refine abstr (fun W => NdX W o3 g { s with kept := upd s.kept n (s.kept n ++ recs), post := L } br bk gc bm bs cr gr (.slice Ap L.length cp) vk1 ∧ Goes o o3 w W ∧ MgW W (OT o3) (.slice Am mg.v.l.length cm) (.slice Bm mg.log.length dm) mg ∧ Blk W wo.heap.size 106 #[.int .i64 to_, .int .i64 mg.k, .int .i64 mg.e, .int .i64 mg.v.e, .int .i64 mg.v.p, .slice Am mg.v.l.length cm, .int .i64 mg.i, .int .i64 mg.s, .slice Bm mg.log.length dm]) ⟨hX3.below hbA, hg3.trans (Goes.below hbA), hM.kp (Kp.of_below hbA), hOut⟩ (fun W hW => ?_)
      clear m0 m1 m2 m3 m4 m5 m6 m7 m8 hOut hbA hO3 hM hX3 hg3 cX lX
      generalize wo.heap.size = px at *
      clear hbl
      obtain ⟨hX, hgo, hM, hP⟩ := hW
      have cX := hX.blk.cell
      have lX := hX.blk.lt
      have cP := hP.cell
      have lP := hP.lt
      by_cases h0 : 0 ≤ to_
      · have d0 : decide (0 ≤ to_) = true := decide_eq_true h0
        by_cases h4 : to_ < 4
        · have d4 : decide (to_ < 4) = true := decide_eq_true h4
          by_cases h3 : L.length < 300
          · have d3 : decide ((L.length : Int) < 300) = true := decide_eq_true (by omega)
            have d3' : decide (L.length < 300) = true := decide_eq_true h3
            have HC := hide (⟨h0, h4, h3⟩ : _ ∧ _ ∧ _)
            clear h0 h4 h3
            go_wp2
            refine wp_region_ext_lit (by kernel_rfl) (by kernel_rfl) ?_
            (repeat (first | ((with_reducible refine wpQuiet_step (fun K hK => ?_)); go_simp; first | ((with_reducible refine hK _ ?_); clear hK K) | (apply Exists.intro; (with_reducible refine ⟨fun _ => ?_, hK _ ?_⟩); skip; clear hK K)) | ((with_reducible refine quiet_skipN ?_ (fun K hK => ?_)); (rfl); go_simp; (with_reducible refine hK _ ?_); clear hK K)))
            (with_reducible refine wpQuiet_nil ?_); intro _ hw'; obtain ⟨Y, hw''⟩ := hw'; subst hw''
            go_upto_region 5 with fail
            have hXY := hX.below (World.below_ext W Y)
            have hMY := hM.kp (Kp.of_below (World.below_ext W Y))
            have hgY := hgo.trans (Goes.below (World.below_ext W Y))
            refine abstr (fun V => NdX V o3 g { s with kept := upd s.kept n (s.kept n ++ recs), post := L } br bk gc bm bs cr gr (.slice Ap L.length cp) vk1 ∧ Goes o o3 w V ∧ MgW V (OT o3) (.slice Am mg.v.l.length cm) (.slice Bm mg.log.length dm) mg ∧ Blk V px 106 #[.int .i64 to_, .int .i64 mg.k, .int .i64 mg.e, .int .i64 mg.v.e, .int .i64 mg.v.p, .slice Am mg.v.l.length cm, .int .i64 mg.i, .int .i64 mg.s, .slice Bm mg.log.length dm]) ⟨hXY, hgY, hMY, hP.ext Y⟩ (fun V hV => ?_)
            clear hXY hMY hgY hX hgo hM hP cX lX cP lP
            obtain ⟨hX, hgo, hM, hP⟩ := hV
            have cX := hX.blk.cell
            have lX := hX.blk.lt
            have cP := hP.cell
            have lP := hP.lt
            obtain ⟨t, rfl⟩ : ∃ t : Nat, to_ = (t : Int) := ⟨to_.toNat, by have := HC.out.1; omega⟩
            have hng : ¬tg o3 6 g := fun e => by unfold tg at e; rw [hX.og] at e; cases e
            have hnp : ¬tg o3 6 px := fun e => hpx (tg_OT e)
            have hXb := hX.blk
            refine wp_region_kp (tg o3 6) [4, 7, 9] [0, 1, 2, 3, 5, 6, 8, 10, 13, 14] [(true, false, 0), (true, false, 1), (true, false, 2), (true, false, 3), (true, true, 4), (true, false, 5), (true, false, 6), (true, true, 7), (true, false, 8), (true, true, 9), (true, false, 10), (false, true, 11), (false, true, 12), (true, false, 13), (true, false, 14), (false, false, 15)] (by kernel_rfl) (by kernel_rfl) (fun Z => ?_); simp only [List.map_cons, List.map_nil, List.getD_cons_zero, List.getD_cons_succ]
            (repeat (first | (refine First.wpF_pure (fun K hK => ?_); go_simp; first | (refine hK _ _ ?_; clear hK K) | (apply Exists.intro; refine ⟨fun _ => ?_, hK _ _ ?_⟩; fail)) | (refine First.wpF_free (fun K hK => ?_); go_simp; first | (refine hK _ _ ?_; clear hK K))))
            (refine first_readG rfl (v := .slice Ap L.length cp) (fun w' hw' => ?_) (fun K hK => ?_); rotate_left 1; go_simp; refine hK _ _ ?_; clear hK K; rotate_left 1; (have hB' := Blk.kp (Blk.ext hXb _) hw' hng; have c' := Blk.cell hB'; go_simp))
            (repeat (first | (refine First.wpF_pure (fun K hK => ?_); go_simp; first | (refine hK _ _ ?_; clear hK K) | (apply Exists.intro; refine ⟨fun _ => ?_, hK _ _ ?_⟩; fail)) | (refine First.wpF_free (fun K hK => ?_); go_simp; first | (refine hK _ _ ?_; clear hK K))))
            (refine first_readG rfl (v := .int .i64 (t : Int)) (fun w' hw' => ?_) (fun K hK => ?_); rotate_left 1; go_simp; refine hK _ _ ?_; clear hK K; rotate_left 1; (have hB' := Blk.kp (Blk.ext hP _) hw' hnp; have c' := Blk.cell hB'; go_simp))
            (repeat (first | (refine First.wpF_pure (fun K hK => ?_); go_simp; first | (refine hK _ _ ?_; clear hK K) | (apply Exists.intro; refine ⟨fun _ => ?_, hK _ _ ?_⟩; fail)) | (refine First.wpF_free (fun K hK => ?_); go_simp; first | (refine hK _ _ ?_; clear hK K))))
            (refine first_readG rfl (v := .agg #[.int .i64 mg.k, .int .i64 mg.e, .int .i64 mg.v.e, .int .i64 mg.v.p, (.slice Am mg.v.l.length cm), .int .i64 mg.i, .int .i64 mg.s, (.slice Bm mg.log.length dm)]) (fun w' hw' => ?_) (fun K hK => ?_); rotate_left 1; go_simp; refine hK _ _ ?_; clear hK K; rotate_left 1; (have hB' := Blk.kp (Blk.ext hP _) hw' hnp; have c' := Blk.cell hB'; go_simp))
            (repeat (first | (refine First.wpF_pure (fun K hK => ?_); go_simp; first | (refine hK _ _ ?_; clear hK K) | (apply Exists.intro; refine ⟨fun _ => ?_, hK _ _ ?_⟩; fail)) | (refine First.wpF_free (fun K hK => ?_); go_simp; first | (refine hK _ _ ?_; clear hK K))))
            have hbx : Below V.heap.size V (V.ext Z) := World.below_ext V Z
            have hX2 := hX.below hbx
            obtain ⟨m2, hm2⟩ : ∃ m : Lm, m = ⟨⟨(n : Int), t, mg, Vi.none⟩, .slice Am mg.v.l.length cm, .slice Bm mg.log.length dm, .slice none 0 0⟩ := ⟨_, rfl⟩
            have hmW : LmW (V.ext Z) (OT o3) m2 := by
              rw [hm2]
              refine ⟨?_, Isl.nil _ _⟩
              exact hM.kp (Kp.of_below hbx)
            obtain ⟨cs, hcs⟩ : ∃ cs, cs = m2.cells.toArray := ⟨_, rfl⟩
            generalize V.ext Z = V2 at *
            have hb3 : Below V2.heap.size V2 (V2.alloc (.cells cs 145)) := Below.alloc (Below.refl _ _) (Nat.le_refl _) _
            have hmx : m2.x = ⟨(n : Int), t, mg, Vi.none⟩ := by rw [hm2]
            obtain ⟨v', w4, o4, A4, c4, hv4, hrun, hX4, hB4, hk4, hg4⟩ := (hX2.below hb3).app (ms := [m2]) (fun x hx => by rw [List.mem_singleton] at hx; rw [hx]; exact hmW.kp (Kp.of_below hb3)) (c := 1) (lm_reads m2 hcs rfl) (by show L.length ≤ 1000000; omega) (by simp)
            subst hv4
            rw [hm2] at hcs
            simp only [List.map_cons, List.map_nil, hmx] at hX4
            rw [if_pos HC.out, Int.toNat_natCast] at HP
            rw [hcs] at hrun hg4 hk4
            clear hX2 hmW hb3 hm2 hmx hcs
            have hgo4 := hgo.trans ((Goes.below hbx).trans ((Goes.below (Below.alloc (Below.refl _ _) (Nat.le_refl _) _)).trans hg4))
            have c4' := hB4.cell
            have f4 := hB4.frozen
            have l4 := hB4.lt
            refine First.wpF_must (fun K hK => ?_)
            go_wp2
            (refine hK _ _ (fun hnd => by first | exact Bool.noConfusion hnd | exact Kp.of_below (Below.alloc (Below.refl _ _) (Nat.le_refl _) _)) ?_; clear hK K)
            refine First.wpF_must (fun K hK => ?_)
            go_wp2_with (at_builtin; refine wpList_append_run rfl (.tmp 56) (.tmp 63) 84 rfl rfl rfl hrun ?_)
            (refine hK _ _ (fun hnd => by first | exact Bool.noConfusion hnd | exact hk4) ?_; clear hK K)
            (repeat (first | (refine First.wpF_pure (fun K hK => ?_); go_simp; first | (refine hK _ _ ?_; clear hK K) | (apply Exists.intro; refine ⟨fun _ => ?_, hK _ _ ?_⟩; fail)) | (refine First.wpF_free (fun K hK => ?_); go_simp; first | (refine hK _ _ ?_; clear hK K))))
            refine First.wpF_must (fun K hK => ?_)
            go_wp2
            (refine hK _ _ (fun hnd => by first | exact Bool.noConfusion hnd | exact hk4) ?_; clear hK K)
            refine First.wpF_nil ?_
            go_wp2
            go_roundw
            case rel => exact ⟨j + 1, o4, _, by omega, by go_num, by rw [HP.out]; exact hX4, hgo4⟩
            case measure => simp [intOf]; omega
          · skip
            have HC : Hid (¬(0 ≤ to_ ∧ to_ < 4 ∧ L.length < 300)) := hide (by omega)
            first | (have d9 := decide_eq_false h0) | skip
            first | (have d9 := decide_eq_false h4) | skip
            first | (have d9 := decide_eq_false h3; have d9' : decide ((L.length : Int) < 300) = false := decide_eq_false (by omega)) | skip
            clear h0
            first | clear h4 | skip
            first | clear h3 | skip
            go_wp2
            refine wp_region_ext_lit (by kernel_rfl) (by kernel_rfl) ?_
            (repeat (first | ((with_reducible refine wpQuiet_step (fun K hK => ?_)); go_simp; first | ((with_reducible refine hK _ ?_); clear hK K) | (apply Exists.intro; (with_reducible refine ⟨fun _ => ?_, hK _ ?_⟩); skip; clear hK K)) | ((with_reducible refine quiet_skipN ?_ (fun K hK => ?_)); (rfl); go_simp; (with_reducible refine hK _ ?_); clear hK K)))
            (with_reducible refine wpQuiet_nil ?_); intro _ hw'; obtain ⟨Y, hw''⟩ := hw'; subst hw''
            go_wp2
            rw [if_neg HC.out] at HP
            go_roundw
            case rel => exact ⟨j + 1, o3, _, by omega, by go_num, by rw [HP.out]; exact hX.below (World.below_ext W Y), hgo.trans (Goes.below (World.below_ext W Y))⟩
            case measure => simp [intOf]; omega
        · skip
          have HC : Hid (¬(0 ≤ to_ ∧ to_ < 4 ∧ L.length < 300)) := hide (by omega)
          first | (have d9 := decide_eq_false h0) | skip
          first | (have d9 := decide_eq_false h4) | skip
          first | (have d9 := decide_eq_false h3; have d9' : decide ((L.length : Int) < 300) = false := decide_eq_false (by omega)) | skip
          clear h0
          first | clear h4 | skip
          first | clear h3 | skip
          go_wp2
          refine wp_region_ext_lit (by kernel_rfl) (by kernel_rfl) ?_
          (repeat (first | ((with_reducible refine wpQuiet_step (fun K hK => ?_)); go_simp; first | ((with_reducible refine hK _ ?_); clear hK K) | (apply Exists.intro; (with_reducible refine ⟨fun _ => ?_, hK _ ?_⟩); skip; clear hK K)) | ((with_reducible refine quiet_skipN ?_ (fun K hK => ?_)); (rfl); go_simp; (with_reducible refine hK _ ?_); clear hK K)))
          (with_reducible refine wpQuiet_nil ?_); intro _ hw'; obtain ⟨Y, hw''⟩ := hw'; subst hw''
          go_wp2
          rw [if_neg HC.out] at HP
          go_roundw
          case rel => exact ⟨j + 1, o3, _, by omega, by go_num, by rw [HP.out]; exact hX.below (World.below_ext W Y), hgo.trans (Goes.below (World.below_ext W Y))⟩
          case measure => simp [intOf]; omega
      · skip
        have HC : Hid (¬(0 ≤ to_ ∧ to_ < 4 ∧ L.length < 300)) := hide (by omega)
        first | (have d9 := decide_eq_false h0) | skip
        first | (have d9 := decide_eq_false h4) | skip
        first | (have d9 := decide_eq_false h3; have d9' : decide ((L.length : Int) < 300) = false := decide_eq_false (by omega)) | skip
        clear h0
        first | clear h4 | skip
        first | clear h3 | skip
        go_wp2
        refine wp_region_ext_lit (by kernel_rfl) (by kernel_rfl) ?_
        (repeat (first | ((with_reducible refine wpQuiet_step (fun K hK => ?_)); go_simp; first | ((with_reducible refine hK _ ?_); clear hK K) | (apply Exists.intro; (with_reducible refine ⟨fun _ => ?_, hK _ ?_⟩); skip; clear hK K)) | ((with_reducible refine quiet_skipN ?_ (fun K hK => ?_)); (rfl); go_simp; (with_reducible refine hK _ ?_); clear hK K)))
        (with_reducible refine wpQuiet_nil ?_); intro _ hw'; obtain ⟨Y, hw''⟩ := hw'; subst hw''
        go_wp2
        rw [if_neg HC.out] at HP
        go_roundw
        case rel => exact ⟨j + 1, o3, _, by omega, by go_num, by rw [HP.out]; exact hX.below (World.below_ext W Y), hgo.trans (Goes.below (World.below_ext W Y))⟩
        case measure => simp [intOf]; omega
    · obtain rfl : j = k := by omega
      go_wp2
      rw [List.take_of_length_le (by omega)] at hX3
      refine bodyPost_end (v := .tuple #[]) (by simp [results, Try.results85, go_sem] <;> rfl) rfl ⟨rfl, o3, vp3, vk1, hX3, hg3⟩
end Go.Proofs.Ytjhcgnmibnjocaa

/-! A relay as its records tell it: in memory of its own. -/
namespace Go.Proofs.Ytjhcgnmibnjocaa
open Go.RowKit Go.Maps
set_option linter.unusedVariables false
set_option linter.unusedSimpArgs false
/-- A relay whose memory is new from a block on, and that leads to no older one. -/
def Rln (w : World) (base g : Nat) (r : Rl) : Prop := ∃ S T, RelW w S T g r ∧ (∀ k, S k → base ≤ k) ∧ (∀ k, k < base → T k)
theorem RelX.newT {w : World} {S T T' : Nat → Prop} {g : Nat} {id : Int} {vl : Value} {mb cm : Nat} {Am : Option Addr} (h : RelX w S T g (newP id) Am cm vl mb) (h1 : ∀ k, S k → T' k) (h2 : ∀ k, T' k → k < w.heap.size) : RelX w S T' g (newP id) Am cm vl mb := by
  refine ⟨h.blk, h.rd, fun h0 => absurd h0 (by simp [newP, Vi.none]), ?_, h.vs, h.mp, h.ms, h.mg, h.vg, h.vm, h.g, h1, h2⟩
  obtain ⟨ms, e, ho, hm⟩ := h.own
  have : ms = [] := List.map_eq_nil_iff.1 e
  subst this
  exact ⟨[], e, ho, fun m hm => by cases hm⟩
theorem Rln.new {w : World} {S T : Nat → Prop} {g base : Nat} {id : Int} {vl : Value} {mb cm : Nat} {Am : Option Addr} (hid : 0 ≤ id ∧ id < 8) (h : RelX w S T g (newP id) Am cm vl mb) (hb : True) (hs : base ≤ w.heap.size) (h1 : ∀ k, T k → k < w.heap.size) (h2 : ∀ k, S k → base ≤ k) : Rln w base g (newP id) :=
  ⟨S, fun k => k < base ∨ S k, ⟨newP_ok hid, _, _, _, _, h.newT (fun k hk => .inr hk) (fun k hk => hk.elim (fun h' => by omega) (fun h' => h1 k (h.sub k h')))⟩, h2, fun k hk => .inl hk⟩
theorem Aft.rln {w w' : World} {S T : Nat → Prop} {g base : Nat} {r r' : Rl} {K : (Nat → Prop) → Prop} (h : Aft w w' S T g r' K) (h0 : RelW w S T g r) (hS : ∀ k, S k → base ≤ k) (hT : ∀ k, k < base → T k) (hb : base ≤ w.heap.size) : Rln w' base g r' ∧ Below base w w' ∧ ∃ T', K T' := by
  obtain ⟨S', hW, hk, hs, hK⟩ := h
  exact ⟨⟨S', _, hW, fun k hk => (hs k hk).elim (hS k) (fun h => by omega), fun k hk => .inl (hT k hk)⟩, hk.below hb hS, _, hK⟩
def LoadedF (o : Option Rl) (w' : World) (base : Nat) (e : Ending) : Prop := match o with
  | none => e = .returned (.tuple #[.pointer none, .int .i64 200])
  | some r => ∃ g, e = .returned (.tuple #[.pointer (some ⟨g, 0, none⟩), .int .i64 0]) ∧ Rln w' base g (loadedP r)
theorem loadedF_some {r : Rl} {w' : World} {base : Nat} {e : Ending} (h : LoadedF (some r) w' base e) : ∃ g, e = .returned (.tuple #[.pointer (some ⟨g, 0, none⟩), .int .i64 0]) ∧ Rln w' base g (loadedP r) := h
attribute [local irreducible] First.wpF
set_option maxRecDepth 100000 in
set_option maxHeartbeats 4000000 in
theorem load_far {T0 : Nat → Prop} (id : Int) (A : Option Addr) (n c : Nat) (l : List (List Nat)) (w : World) (h : 0 ≤ id ∧ id < 8) (hR : Recs w T0 A n l) (hT0 : ∀ k, w.heap.size ≤ k → T0 k) (hn : n ≤ 9223372036854775807) (hb : ∀ b ∈ l, b.length ≤ 1000000) :
    Calls Try.prog 30 #[.int .i64 id, .slice A n c] w fun e w' => Below w.heap.size w w' ∧ LoadedF (restores (newP id) l) w' w.heap.size e := by
  have hN := rnew_yes id w h
  have hmm := @run_makeMap Try.prog
  obtain ⟨RS, hRS⟩ : ∃ RS, RS = restores (newP id) l := ⟨_, rfl⟩
  rw [← hRS]
  go_enter Try.func30, Try.ntmps30
  go_wp2_with (go_at_call 9; (with_reducible refine hN.mono ?_); rintro e w1 ⟨rfl, hX1, hb1⟩)
  have hR1 : Rln w1 w.heap.size (w.heap.size + 1) (newP id) := Rln.new h hX1 trivial hb1.size (fun k hk => by have := hX1.lt k hk; exact this) (fun k hk => by rcases hk with hk | hk <;> omega)
  clear hX1 hN
  generalize w.heap.size + 1 = g at *
  go_loopw [20] (fun vi wr => ∃ (j : Nat) (r : Rl), j ≤ n ∧ vi = .int .i64 (j : Int) ∧ Rln wr w.heap.size g r ∧ RS = restores r (l.drop j) ∧ Below w.heap.size w wr) (fun vi _ => ((n : Int) - intOf vi).toNat)
  case atStart => exact ⟨0, newP id, by omega, rfl, hR1, hRS, hb1⟩
  case round =>
    clear hR1 hRS hb1
    obtain ⟨j, r, hj, rfl, hRl, hE, hbo⟩ := hrel
    obtain ⟨wo, rfl⟩ : ∃ wo : World, wo = wr := ⟨_, rfl⟩
    have hso := hbo.size
    obtain ⟨S, T, hW, hS, hT⟩ := hRl
    by_cases hlt : j < n
    · have hlj : (j : Int) < n := by omega
      obtain ⟨⟨ms, hms, hr, hm⟩, hln, hnt⟩ := hR
      obtain ⟨b, o, rfl, hbl, hcc⟩ := hr.plain (by omega) (by omega)
      have hml : ms.length = n := by rw [← hln, ← hms, List.length_map]
      have hjm : j < ms.length := by omega
      have hg : ms[j]? = some (ms[j]'hjm) := List.getElem?_eq_getElem hjm
      have hB := hm _ (List.getElem_mem hjm)
      have m1 : wo.cell? ⟨b, o + j, none⟩ = some (ms[j]'hjm).2 := by
        rw [hbo.cell (p := ⟨b, o + j, none⟩) hbl]
        exact hcc _ _ (by rw [List.getElem?_map, hg]; rfl)
      have hdr : l.drop j = (ms[j]'hjm).1 :: l.drop (j + 1) := by
        have hlt2 : j < l.length := by omega
        rw [List.drop_eq_getElem_cons hlt2]
        congr 1
        have : l[j]? = some (ms[j]'hjm).1 := by rw [← hms, List.getElem?_map, hg]; rfl
        rw [List.getElem?_eq_getElem hlt2] at this
        exact Option.some.inj this
      have hbn := hb (ms[j]'hjm).1 (by rw [← hms]; exact List.mem_map_of_mem (List.getElem_mem hjm))
      generalize ms[j]'hjm = y at *
      obtain ⟨bs, u⟩ := y
      simp only at hB m1 hdr hbn
      have hBo := hB.kp (Kp.of_below hbo)
      have hRes := restore_any u bs wo hW hBo hbn
      rw [hdr] at hE
      unfold restores at hE
      obtain ⟨uA, un, uc, hu⟩ := hB.sl
      have hbw : b < wo.heap.size := by omega
      rw [hu] at m1 hRes
      clear hr hm hcc hg hms hB hBo
      rcases hrp : restoreP r bs with _ | r'
      · rw [hrp] at hRes
        have hE' : RS = none := by rw [hE, hrp]
        clear hE
        simp only [Option.isSome_none, Option.getD_none] at hRes
        go_wp2_with (go_at_call 75; (with_reducible refine hRes.mono ?_); rintro e w5 hA5; obtain ⟨_, hb5, _, rfl⟩ := hA5.rln (base := w.heap.size) hW hS hT hso)
        refine bodyPost_ret (v := .tuple #[.pointer none, .int .i64 200]) (by simp [results, Try.results30, go_sem] <;> rfl) rfl ?_
        rw [hE']
        exact ⟨hbo.trans hb5, rfl⟩
      · rw [hrp] at hRes hE
        simp only [Option.isSome_some, Option.getD_some] at hRes hE
        have hE' := hide hE
        clear hE
        go_wp2_with (go_at_call 75; (with_reducible refine hRes.mono ?_); rintro e w5 hA5; obtain ⟨hR5, hb5, _, rfl⟩ := hA5.rln (base := w.heap.size) hW hS hT hso)
        go_roundw
        case rel => exact ⟨j + 1, r', by omega, by go_num, hR5, hE'.out, hbo.trans hb5⟩
        case measure => simp [intOf]; omega
    · obtain rfl : j = n := by omega
      rw [List.drop_eq_nil_of_le (by rw [hR.len]; omega)] at hE
      simp only [restores] at hE
      have hE' := hide hE
      clear hE
      obtain ⟨hok, Am, cm, vl, mb, hX⟩ := hW
      have hXo := hX.own
      obtain ⟨ms0, _, hown0, _⟩ := hXo
      obtain ⟨Al, cl, hvl, _⟩ := own_sl hown0
      clear hown0
      subst hvl
      have c0 := hX.blk.cell
      have f0 := hX.blk.frozen
      have l0 := hX.blk.lt
      have hoA : Only wo ((((wo.setCell ⟨g, 6, none⟩ (.int .i64 0)).setCell ⟨g, 8, none⟩ (.bool false)).setCell ⟨g, 7, none⟩ (.map (some wo.heap.size))).alloc (Obj.map #[] 0)) g := (((Only.setCell wo g 6 _).trans (Only.setCell _ g 8 _)).trans (Only.setCell _ g 7 _)).alloc _
      have hXA : RelX ((((wo.setCell ⟨g, 6, none⟩ (.int .i64 0)).setCell ⟨g, 8, none⟩ (.bool false)).setCell ⟨g, 7, none⟩ (.map (some wo.heap.size))).alloc (Obj.map #[] 0)) (fun k => S k ∨ k = wo.heap.size) (fun k => T k ∨ k = wo.heap.size) g { r with sure := 0, act := false, acks := [] } Am cm (.slice Al r.log.length cl) wo.heap.size :=
        hX.remap hoA ((((hX.blk.set_ 6 (.int .i64 0)).set_ 8 (.bool false)).set_ 7 (.map (some wo.heap.size))).alloc _) rfl rfl (by
          have := Mp.made (((wo.setCell ⟨g, 6, none⟩ (.int .i64 0)).setCell ⟨g, 8, none⟩ (.bool false)).setCell ⟨g, 7, none⟩ (.map (some wo.heap.size)))
          simpa using this) (Nat.le_refl _)
      go_upto_region 11 with fail
      refine abstr (fun W => RelX W (fun k => S k ∨ k = wo.heap.size) (fun k => T k ∨ k = wo.heap.size) g { r with sure := 0, act := false, acks := [] } Am cm (.slice Al r.log.length cl) wo.heap.size ∧ Only wo W g) ⟨hXA, hoA⟩ (fun W hW => ?_)
      obtain ⟨hX1, ho1⟩ := hW
      have hgb : w.heap.size ≤ g := hS _ hX.g
      have hid := hok.id
      have hln := hok.n
      obtain ⟨r1, hr1⟩ : ∃ r1 : Rl, r1 = { r with sure := 0, act := false, acks := [] } := ⟨_, rfl⟩
      have hok1 : r1.ok := by rw [hr1]; exact ⟨hok.id, hok.v, hok.n, hok.log, hok.j, by simp, (fun x hx => by cases hx), List.nodup_nil⟩
      have hLP : loadedP r = settleP (if r1.leads then { r1 with acks := ackedL r1.id r1.log.length [] } else r1) := by rw [hr1]; rfl
      have hlok := loaded_ok hok
      have hT1 : ∀ k, (S k ∨ k = wo.heap.size) → w.heap.size ≤ k := fun k hk => hk.elim (hS k) (fun e => by omega)
      have hlog : r.log.length = r1.log.length := by rw [hr1]
      rw [← hr1] at hX1
      have hbW : Below w.heap.size w W := hbo.trans (ho1.below hgb hso)
      generalize hm1 : wo.heap.size = mw at *
      have hr1' := hide hr1
      clear hXA hoA hX c0 f0 l0 hr1 hm1
      have hLd := leads_any W hX1
      rcases hl : r1.leads with _ | _
      · rw [hl] at hLd hLP
        simp only [Bool.false_eq_true, if_false] at hLP
        go_wp2_with (first | (go_at_call 44; (with_reducible refine hLd.mono ?_); rintro e w2 ⟨rfl, hb2⟩; have hX2 := hX1.below hb2) | (go_at_call 46; (with_reducible refine (settle_any w2 hX2 hok1).mono ?_); rintro e w3 ⟨rfl, hX3, ho3⟩))
        refine bodyPost_ret (v := .tuple #[.pointer (some ⟨g, 0, none⟩), .int .i64 0]) (by simp [results, Try.results30, go_sem] <;> rfl) rfl ?_
        rw [hE'.out]
        have hs2 := hb2.size
        refine ⟨(hbW.trans (hb2.mono hbW.size)).trans (ho3.below hgb (by have := hbW.size; omega)), g, rfl, (fun k => S k ∨ k = mw), (fun k => T k ∨ k = mw), ⟨hlok, Am, cm, (.slice Al r.log.length cl), mw, ?_⟩, hT1, fun k hk => .inl (hT k hk)⟩
        rw [hLP]
        exact hX3
      · rw [hl] at hLd hLP
        simp only [if_true] at hLP
        go_upto_region 12 with (go_at_call 44; (with_reducible refine hLd.mono ?_); rintro e w2 ⟨rfl, hb2⟩; have hX2 := hX1.below hb2)
        have c2 := hX2.blk.cell
        have l2 := hX2.blk.lt
        have hs2 := hb2.size
        refine First.wp_region_first_ext [3, 7, 11] [0, 1, 2, 4, 5, 6, 8, 9, 10, 12] [(true, false, 0), (true, false, 1), (true, false, 2), (true, true, 3), (true, false, 4), (true, false, 5), (true, false, 6), (true, true, 7), (true, false, 8), (true, false, 9), (true, false, 10), (true, true, 11), (true, false, 12), (false, false, 13)] (by kernel_rfl) (by kernel_rfl) (fun X => ?_); simp only [List.map_cons, List.map_nil, List.getD_cons_zero, List.getD_cons_succ]
        have hmp : Mp (w2.ext X) mw [] := by
          have := hX2.mp.kp (Kp.of_below (S := fun _ => False) (World.below_ext w2 X)) (fun h => h)
          rwa [show r1.acks = [] by rw [hr1'.out]] at this
        (repeat (first | (refine First.wpF_pure (fun K hK => ?_); go_simp; first | (refine hK _ _ ?_; clear hK K) | (apply Exists.intro; refine ⟨fun _ => ?_, hK _ _ ?_⟩; fail)) | (refine First.wpF_free (fun K hK => ?_); go_simp; first | (refine hK _ _ ?_; clear hK K))))
        refine First.wpF_must (fun K hK => ?_)
        go_wp2_with (at_mapUpdate; refine wpList_put rfl _ _ _ rfl mw [] rfl hmp r1.id r1.log.length rfl rfl (by have := hok1.id; unfold I64; omega) (by have := hok1.n; omega) (by simp) List.nodup_nil (fun w5 hm5 ho5 => ?_))
        (refine hK _ _ (fun hnd => by first | exact Bool.noConfusion hnd | assumption | with_reducible exact grown_alloc _ _ | with_reducible exact First.Grown.refl _ | with_reducible exact First.Grown.cat _ _ _ | with_reducible exact First.Grown.ext _ _) ?_; clear hK K)
        refine First.wpF_nil ?_
        have hX5 : RelX w5 (fun k => S k ∨ k = mw) (fun k => T k ∨ k = mw) g { r1 with acks := ackedL r1.id r1.log.length [] } Am cm (.slice Al r.log.length cl) mw := (hX2.below (World.below_ext w2 X)).acks ho5 hm5 rfl
        have hok5 : ({ r1 with acks := ackedL r1.id r1.log.length [] } : Rl).ok := ⟨hok1.id, hok1.v, hok1.n, hok1.log, hok1.j, hok1.s, acked_ok (fun x hx => by cases hx) hok1.n hok1.id, acked_nodup List.nodup_nil⟩
        have hmb : w.heap.size ≤ mw := hT1 mw (.inr rfl)
        have hb05 : Below w.heap.size w w5 := ((hbW.trans (hb2.mono hbW.size)).trans ((World.below_ext w2 X).mono (by have := hbW.size; omega))).trans (ho5.below hmb (by have := hbW.size; simp only [World.size_ext]; omega))
        have hcs := settle_any w5 hX5 hok5
        go_wp2_with (go_at_call 46; (with_reducible refine hcs.mono ?_); rintro e w6 ⟨rfl, hX6, ho6⟩)
        refine bodyPost_ret (v := .tuple #[.pointer (some ⟨g, 0, none⟩), .int .i64 0]) (by simp [results, Try.results30, go_sem] <;> rfl) rfl ?_
        rw [hE'.out]
        refine ⟨hb05.trans (ho6.below hgb hb05.size), g, rfl, (fun k => S k ∨ k = mw), (fun k => T k ∨ k = mw), ⟨hlok, Am, cm, (.slice Al r.log.length cl), mw, ?_⟩, hT1, fun k hk => .inl (hT k hk)⟩
        rw [hLP]
        exact hX6
end Go.Proofs.Ytjhcgnmibnjocaa

/-! Nodes: four of them are made. -/
namespace Go.Proofs.Ytjhcgnmibnjocaa
open Go.RowKit Go.Maps
set_option linter.unusedVariables false
set_option linter.unusedSimpArgs false
attribute [local irreducible] First.wpF
def vw0 : Vw := ⟨1, 0, [0, 1, 2], [0, 1, 2]⟩
def nd0 : Nd := ⟨fun i => newP i, fun _ => [], [], vw0, 0⟩
theorem vw0_ok : vw0.ok := ⟨by decide, by decide, by decide, by decide, fun x h => h, by decide, by decide⟩
theorem infoRp : (Try.prog.info? 24).map (fun i => (i.zero, i.size, i.bytes)) = some (some (.pointer none), 1, 8) := by kernel_rfl
/-- Some of the relays are made. -/
structure BgX (w : World) (o : Nat → Option Nat) (g bk gc bm bs : Nat) (vr : Value) (gr : Nat → Nat) (j : Nat) : Prop where
  blk : Blk w g 87 #[vr, .slice (some ⟨bk, 0, none⟩) 4 4, .slice none 0 0, .pointer (some ⟨gc, 0, none⟩), .int .i64 0]
  rr : w.ownsRow 0 24 1 vr j ((List.range j).map fun i => .pointer (some ⟨gr i, 0, none⟩))
  kb : Blk w bk 42 #[.slice none 0 0, .slice none 0 0, .slice none 0 0, .slice none 0 0]
  rel : ∀ i, i < j → RelW w (tg o (11 + i)) (OT o) (gr i) (newP i)
  ct : Ctl w gc bm bs vw0
  og : o g = some 0
  obk : o bk = some 2
  oct : o gc = some 3 ∧ o bm = some 3 ∧ o bs = some 3
  ov : ∀ k, vr.ownBlock = some k → o k = some 1
  lt : ∀ k, OT o k → k < w.heap.size
section
variable {o o' : Nat → Option Nat} {w w' : World} {g bk gc bm bs mb t : Nat} {gr : Nat → Nat} {vr : Value} {j : Nat}
theorem Oe.own (he : Oe o o' w w' t) {u size n : Nat} {e : TypeId} {v : Value} {xs : List Value} (h : w.ownsRow 0 e size v n xs) (ho : ∀ k, v.ownBlock = some k → o k = some u) (hu : u ≠ t) : w'.ownsRow 0 e size v n xs := by
  refine ⟨h.1, ?_⟩
  rcases h.2 with h' | ⟨g', cap, cur, hv, hb, hh, r⟩
  · exact .inl h'
  · exact .inr ⟨g', cap, cur, hv, hb, (he.kp.block g' (Blk.lt hh) (fun h2 => hu (Option.some.inj ((ho g' (by rw [hv]; rfl)).symm.trans h2)))).trans hh, r⟩
theorem BgX.below (h : BgX w o g bk gc bm bs vr gr j) (hj4 : j ≤ 4) (hb : Below w.heap.size w w') : BgX w' o g bk gc bm bs vr gr j := by
  have he := Oe.below 99 h.lt hb
  exact ⟨he.blk h.blk (by decide) h.og, he.own h.rr h.ov (by decide), he.blk h.kb (by decide) h.obk, fun i hi => he.rel h.lt (h.rel i hi) (by omega), he.ctl h.lt h.ct h.oct (by decide), h.og, h.obk, h.oct, h.ov, he.lt⟩
/-- One relay more. -/
theorem BgX.more (h : BgX w o g bk gc bm bs vr gr j) (hj : j < 4) {q : Nat} {S T : Nat → Prop} (hr : RelX w' S T q (newP j) none 0 (.slice none 0 0) mb) (hb : Below w.heap.size w w') (hS : ∀ k, S k → w.heap.size ≤ k ∧ k < w'.heap.size) :
    ∃ v' w4 o4 A' c', v' = .slice A' (j + 1) c' ∧ (Builtin.append_ #[82, 82] 82 #[vr, .slice (some ⟨w'.heap.size, 0, none⟩) 1 1]).run Try.prog (w'.alloc (.cells #[.pointer (some ⟨q, 0, none⟩)] 24)) = .ok v' w4 ∧
      BgX (w4.setCell ⟨g, 0, none⟩ v') o4 g bk gc bm bs v' (upd gr j q) (j + 1) ∧ Blk w4 g 87 #[vr, .slice (some ⟨bk, 0, none⟩) 4 4, .slice none 0 0, .pointer (some ⟨gc, 0, none⟩), .int .i64 0] ∧ Goes o o4 w (w4.setCell ⟨g, 0, none⟩ v') := by
  obtain ⟨i0, hi, hz0, hz1, hz2⟩ := info_parts infoRp
  obtain ⟨o1, ho1⟩ : ∃ o1 : Nat → Option Nat, (∀ k, S k → o1 k = some (11 + j)) ∧ ∀ k, ¬S k → o1 k = o k := by
    refine ⟨fun k => @ite _ (S k) (Classical.propDecidable _) (some (11 + j)) (o k), fun k hk => ?_, fun k hk => ?_⟩
    · simp only [if_pos hk]
    · simp only [if_neg hk]
  have he1 : Oe o o1 w w' (11 + j) := by
    refine ⟨Kp.of_below hb, fun k hk => ho1.2 k (fun hs => by have := (hS k hs).1; omega), fun k hk => ?_, fun k hk => ?_⟩
    · by_cases hs : S k
      · exact .inr (ho1.1 k hs)
      · rw [ho1.2 k hs]
        cases e : o k with
        | none => exact .inl rfl
        | some x => have := h.lt k (by unfold OT; rw [e]; rfl); omega
    · by_cases hs : S k
      · exact (hS k hs).2
      · have : OT o k := by unfold OT at *; rw [ho1.2 k hs] at hk; exact hk
        exact Nat.lt_of_lt_of_le (h.lt k this) hb.size
  have hq1 : RelW w' (tg o1 (11 + j)) (OT o1) q (newP j) := by
    have hx := hr.newT (T' := OT o1) (fun k hk => tg_OT (ho1.1 k hk)) he1.lt
    exact ⟨newP_ok (by omega), _, _, _, _, hx.move (R := fun _ => False) (Kp.refl _ _) (fun _ h => h.elim) (fun _ h => h.elim) (fun _ _ h => h) (fun _ _ h => h) (fun k hk => ho1.1 k hk) (fun k hk => tg_OT hk) he1.lt⟩
  have hbA : Below w'.heap.size w' (w'.alloc (.cells #[.pointer (some ⟨q, 0, none⟩)] 24)) := Below.alloc (Below.refl _ _) (Nat.le_refl _) _
  have he2 : Oe o1 o1 w' (w'.alloc (.cells #[.pointer (some ⟨q, 0, none⟩)] 24)) 99 := Oe.below 99 he1.lt hbA
  have rr2 := he2.own (he1.own h.rr h.ov (by omega)) (fun k hk => he1.opt h.lt (h.ov k hk)) (u := 1) (by omega)
  obtain ⟨v', w4, r1, r2, r3, r4⟩ := run_appR (t := 82) (ty := 82) (e := 24) Try.underlying82 hi hz0 hz1 hz2 rfl (by decide) rr2 (A := some ⟨w'.heap.size, 0, none⟩) (m := 1) (c := 1) (news := [.pointer (some ⟨q, 0, none⟩)])
    ⟨rfl, fun _ => ⟨_, rfl, by simp, fun i u hu => cells_new w' _ _ i u (by simpa using hu)⟩⟩ (fun u hu => by rw [List.mem_singleton] at hu; rw [hu]; rfl) (by unfold maxLen; omega) (by omega)
  have ov2 : ∀ k, vr.ownBlock = some k → o1 k = some 1 := fun k hk => he1.opt h.lt (h.ov k hk)
  obtain ⟨he4, ho4⟩ := row_oe he2.lt ov2 r3 r4 r2
  obtain ⟨A', c', hv', _⟩ := own_sl r2
  generalize ho4e : (fun k => if v'.ownBlock = some k then some 1 else o1 k) = o4 at *
  have og4 : o4 g = some 0 := he4.opt he2.lt (he1.opt h.lt h.og)
  have he5 : Oe o4 o4 w4 (w4.setCell ⟨g, 0, none⟩ v') 0 := Oe.only he4.lt og4 (Only.set_ (Only.refl _ _) (.inl rfl) _)
  have hgo := ((he1.goes.trans he2.goes).trans he4.goes).trans he5.goes
  have opt4 : ∀ k u, o k = some u → o4 k = some u := fun k u hk => he4.opt he2.lt (he1.opt h.lt hk)
  have B4 : Blk w4 g 87 #[vr, .slice (some ⟨bk, 0, none⟩) 4 4, .slice none 0 0, .pointer (some ⟨gc, 0, none⟩), .int .i64 0] := he4.blk (he2.blk (he1.blk h.blk (by omega) h.og) (by omega) (he1.opt h.lt h.og)) (by omega) (he1.opt h.lt h.og)
  refine ⟨v', w4, o4, A', c', hv', r1, ⟨B4.set_ 0 v', ?_, he5.blk (he4.blk (he2.blk (he1.blk h.kb (by omega) h.obk) (by omega) (he1.opt h.lt h.obk)) (by omega) (he1.opt h.lt h.obk)) (by omega) (opt4 _ _ h.obk), fun i hi => ?_, he5.ctl he4.lt (he4.ctl he2.lt (he2.ctl he1.lt (he1.ctl h.lt h.ct h.oct (by omega)) ⟨he1.opt h.lt h.oct.1, he1.opt h.lt h.oct.2.1, he1.opt h.lt h.oct.2.2⟩ (by omega)) ⟨he1.opt h.lt h.oct.1, he1.opt h.lt h.oct.2.1, he1.opt h.lt h.oct.2.2⟩ (by omega)) ⟨opt4 _ _ h.oct.1, opt4 _ _ h.oct.2.1, opt4 _ _ h.oct.2.2⟩ (by omega), og4, opt4 _ _ h.obk, ⟨opt4 _ _ h.oct.1, opt4 _ _ h.oct.2.1, opt4 _ _ h.oct.2.2⟩, ho4, he5.lt⟩, B4, hgo⟩
  · have hl : (List.range (j + 1)).map (fun i => Value.pointer (some ⟨upd gr j q i, 0, none⟩)) = (List.range j).map (fun i => Value.pointer (some ⟨gr i, 0, none⟩)) ++ [.pointer (some ⟨q, 0, none⟩)] := by
      have hm : (List.range j).map (fun i => Value.pointer (some ⟨upd gr j q i, 0, none⟩)) = (List.range j).map (fun i => Value.pointer (some ⟨gr i, 0, none⟩)) := List.map_congr_left fun i hi => by
        rw [upd_other _ _ (by have := List.mem_range.1 hi; omega)]
      rw [List.range_succ, List.map_append, hm, List.map_cons, List.map_nil, upd_same]
    rw [hl]
    exact he5.own r2 ho4 (by omega)
  · by_cases e : i = j
    · subst e
      rw [upd_same]
      exact he5.rel he4.lt (he4.rel he2.lt (by
        rcases Nat.lt_or_ge (11 + i) 99 with g' | g'
        · exact he2.rel he1.lt hq1 (by omega)
        · omega) (by omega)) (by omega)
    · rw [upd_other _ _ e]
      exact he5.rel he4.lt (he4.rel he2.lt (he2.rel he1.lt (he1.rel h.lt (h.rel i (by omega)) (by omega)) (by omega)) (by omega)) (by omega)
end
theorem BgX.done {o : Nat → Option Nat} {w : World} {g bk gc bm bs : Nat} {gr : Nat → Nat} {vr : Value} (h : BgX w o g bk gc bm bs vr gr 4) : ∃ br cr, NdX w o g nd0 br bk gc bm bs cr gr (.slice none 0 0) (fun _ => .slice none 0 0) := by
  rcases h.rr.2 with ⟨_, h0⟩ | ⟨br, cap, cur, hv, _, hh, hnc, hmx, hcs, htk⟩
  · cases h0
  · subst hv
    refine ⟨br, cap, h.blk, ⟨cur, hh, fun i hi => ?_⟩, ⟨_, h.kb, fun i hi => ?_⟩, fun i hi => h.rel i hi, fun i hi => OwnR.nil _ _ _, OwnL.nil _ _, h.ct, vw0_ok, h.og, h.ov _ rfl, h.obk, h.oct, fun k hk => (by cases hk), fun i hi k hk => (by cases hk), h.lt⟩
    · have h1 : (cur.toList.take (4 * 1))[i]? = some (.pointer (some ⟨gr i, 0, none⟩)) := by
        rw [htk, List.getElem?_map, List.getElem?_range (by omega)]
        rfl
      rw [List.getElem?_take, if_pos (by omega)] at h1
      rw [← Array.getElem?_toList]
      exact h1
    · have : i = 0 ∨ i = 1 ∨ i = 2 ∨ i = 3 := by omega
      rcases this with rfl | rfl | rfl | rfl <;> rfl
set_option maxRecDepth 100000 in
set_option maxHeartbeats 4000000 in
theorem nbegun_any (w : World) : Calls Try.prog 33 #[] w fun e w' => ∃ o g, e = .returned (.pointer (some ⟨g, 0, none⟩)) ∧ NdW w' o g (leadN nd0) ∧ Lo o w.heap.size ∧ Below w.heap.size w w' := by
  have hmk : ∀ w, (Instr.makeSlice 83 (.int .i64 4) (.int .i64 4)).run Try.prog w = .ok (.slice (some ⟨w.heap.size, 0, none⟩) 4 4) (w.alloc (.cells #[.slice none 0 0, .slice none 0 0, .slice none 0 0, .slice none 0 0] 42)) := fun w => by kernel_rfl
  go_enter Try.func33, Try.ntmps33
  go_upto_region 2 with fail
  have hb0 : Below w.heap.size w ((w.alloc (.cells #[.slice none 0 0, .slice none 0 0, .slice none 0 0, .slice none 0 0] 42)).alloc (.cells #[.slice none 0 0, .slice (some ⟨w.heap.size, 0, none⟩) 4 4, .slice none 0 0, .pointer none, .int .i64 0] 87)) := (Below.alloc (Below.refl _ _) (Nat.le_refl _) _).alloc (by simp) _
  refine abstr (fun W => Below w.heap.size w W ∧ Blk W w.heap.size 42 #[.slice none 0 0, .slice none 0 0, .slice none 0 0, .slice none 0 0] ∧ Blk W (w.heap.size + 1) 87 #[.slice none 0 0, .slice (some ⟨w.heap.size, 0, none⟩) 4 4, .slice none 0 0, .pointer none, .int .i64 0]) ⟨hb0, (Blk.new w _ _).alloc _, Blk.made w _ _ _⟩ (fun W hW => ?_)
  clear hb0 hmk
  obtain ⟨hbW, hK, hN⟩ := hW
  have hsW := hbW.size
  have lN := hN.lt
  have lK := hK.lt
  have hR1 : Reads (W.alloc (.cells #[.int .i64 0, .int .i64 1, .int .i64 2] 3)) (W.alloc (.cells #[.int .i64 0, .int .i64 1, .int .i64 2] 3)).heap.size 1 (some ⟨W.heap.size, 0, none⟩) 3 (ints [0, 1, 2]) := reads_new W [0, 1, 2] (by unfold maxLen; simp)
  have hNew := new_yes (some ⟨W.heap.size, 0, none⟩) 3 3 0 [1, 2] _ hR1 (by omega) (by decide)
  have hbA : Below W.heap.size W (W.alloc (.cells #[.int .i64 0, .int .i64 1, .int .i64 2] 3)) := Below.alloc (Below.refl _ _) (Nat.le_refl _) _
  go_upto_region 3 with (go_at_call 83; (with_reducible refine hNew.mono ?_); rintro e w1 ⟨⟨gc, bm, bs, rfl, hC1, hgc, hbm, hbs⟩, hb1⟩; have hN1 := (hN.alloc _).below hb1 (by simp; omega); have c1 := hN1.cell; have f1 := hN1.frozen; have l1 := hN1.lt)
  have hK1 := (hK.alloc (.cells #[.int .i64 0, .int .i64 1, .int .i64 2] 3)).below hb1 (by simp; omega)
  have hbW1 : Below w.heap.size w w1 := (hbW.alloc hsW _).trans (hb1.mono (by simp; omega))
  simp only [World.size_alloc] at hgc hbm hbs
  have hlC := hC1.lt
  have hO : Only w1 (w1.setCell ⟨w.heap.size + 1, 3, none⟩ (.pointer (some ⟨gc, 0, none⟩))) (w.heap.size + 1) := Only.set_ (Only.refl _ _) (.inl rfl) _
  obtain ⟨o, ho⟩ : ∃ o : Nat → Option Nat, o = fun k => if k = w.heap.size + 1 then some 0 else if k = w.heap.size then some 2 else if k = gc ∨ k = bm ∨ k = bs then some 3 else none := ⟨_, rfl⟩
  have hoi : ∀ k, OT o k → k = w.heap.size + 1 ∨ k = w.heap.size ∨ k = gc ∨ k = bm ∨ k = bs := fun k hk => by
    unfold OT at hk
    rw [ho] at hk
    simp only at hk
    split at hk
    · exact .inl ‹_›
    split at hk
    · exact .inr (.inl ‹_›)
    split at hk
    · exact .inr (.inr ‹_›)
    · cases hk
  have hX : BgX (w1.setCell ⟨w.heap.size + 1, 3, none⟩ (.pointer (some ⟨gc, 0, none⟩))) o (w.heap.size + 1) w.heap.size gc bm bs (.slice none 0 0) (fun _ => 0) 0 := by
    refine ⟨hN1.set_ 3 _, World.ownsRow_nil _ _ _ _, Blk.only hK1 hO (by omega), fun i hi => by omega, ?_, by rw [ho]; simp, by rw [ho]; simp, ?_, fun k hk => (by cases hk), fun k hk => ?_⟩
    · exact hC1.keep (hO.block _ hlC.1 (by omega)) (hO.block _ hlC.2.1 (by omega)) (hO.block _ hlC.2.2 (by omega))
    · rw [ho]
      simp only
      refine ⟨?_, ?_, ?_⟩
      · rw [if_neg (by omega), if_neg (by omega), if_pos (by simp)]
      · rw [if_neg (by omega), if_neg (by omega), if_pos (by simp)]
      · rw [if_neg (by omega), if_neg (by omega), if_pos (by simp)]
    · have := hO.size
      rcases hoi k hk with h | h | h | h | h <;> omega
  have hlo : Lo o w.heap.size := fun k hk => by rcases hoi k hk with h | h | h | h | h <;> omega
  have hb3 : Below w.heap.size w (w1.setCell ⟨w.heap.size + 1, 3, none⟩ (.pointer (some ⟨gc, 0, none⟩))) := hbW1.trans (hO.below (by omega) hbW1.size)
  clear hoi ho hC1 hK1 hN1 c1 f1 l1 hb1 hbW hK hN hbA hNew hR1 hgc hbm hbs hlC hO hbW1 lN lK hsW
  go_wp2
  go_loopw [16] (fun vi wr => ∃ (j : Nat) (o : Nat → Option Nat) (vr : Value) (gr : Nat → Nat), j ≤ 4 ∧ vi = .int .i64 (j : Int) ∧ BgX wr o (w.heap.size + 1) w.heap.size gc bm bs vr gr j ∧ Lo o w.heap.size ∧ Below w.heap.size w wr) (fun vi _ => ((4 : Int) - intOf vi).toNat)
  case atStart => exact ⟨0, o, _, _, by omega, rfl, hX, hlo, hb3⟩
  case round =>
    clear hX hlo hb3
    obtain ⟨j, o1, vr, gr, hj, rfl, hX, hlo, hb⟩ := hrel
    obtain ⟨wo, rfl⟩ : ∃ wo : World, wo = wr := ⟨_, rfl⟩
    have hso := hb.size
    by_cases hlt : j < 4
    · have hlj : (j : Int) < 4 := by omega
      have hN := rnew_yes (j : Int) wo (by omega)
      obtain ⟨Ar, cr, hvr, _⟩ := own_sl hX.rr
      subst hvr
      go_upto_region 7 with (go_at_call 9; (with_reducible refine hN.mono ?_); rintro e w2 ⟨rfl, hq, hb2⟩)
      obtain ⟨v', w4, o4, A', c', hv', hrun, hX4, hB4, hg4⟩ := hX.more hlt hq hb2 (fun k hk => by have := hq.lt k hk; rcases hk with hk | hk <;> omega)
      subst hv'
      have hX2 := hX.below hj hb2
      have c2 := hX2.blk.cell
      have l2 := hX2.blk.lt
      have c4 := hB4.cell
      have f4 := hB4.frozen
      have l4 := hB4.lt
      have hlo4 := hg4.lo hlo hso
      have hb4 := hb.trans (hg4.low hlo hso)
      go_wp2_with (at_builtin; refine wpList_append_run rfl (.tmp 37) (.tmp 39) 82 rfl rfl rfl hrun ?_)
      go_roundw
      case rel => exact ⟨j + 1, o4, _, _, by omega, by go_num, hX4, hlo4, hb4⟩
      case measure => simp [intOf]; omega
    · obtain rfl : j = 4 := by omega
      obtain ⟨br, cr, hN⟩ := hX.done
      have hld := nlead_any wo hN (by show 0 ≤ 10000; omega)
      clear hX
      go_wp2_with (go_at_call 84; (with_reducible refine hld.mono ?_); rintro e w5 ⟨rfl, o5, vp5, hN5, hg5⟩)
      go_ret
      exact ⟨o5, _, rfl, ⟨_, _, _, _, _, _, _, _, _, hN5⟩, hg5.lo hlo hso, hb.trans (hg5.low hlo hso)⟩
end Go.Proofs.Ytjhcgnmibnjocaa
