import Derived.Test.YtjhcgnmibnjocaaGreatY26
import Derived.Test.YtjhcgnmibnjocaaGreatGD
import Derived.Test.YtjhcgnmibnjocaaGreatY48
import Derived.Test.YtjhcgnmibnjocaaGreatY33
/-! Several texts in one. -/
set_option linter.unusedVariables false
set_option linter.unusedSimpArgs false
namespace Go.Proofs.YtjhcgnmibnjocaaGreat
open Go.RowKit
theorem leads_iff {r : Rl} : r.leads = true ↔ 0 < r.v.e ∧ r.v.p = r.id := by simp [Rl.leads]
theorem settle_same (r : Rl) : (settleP r).id = r.id ∧ (settleP r).v = r.v ∧ (settleP r).log = r.log ∧ (settleP r).joined = r.joined ∧ (settleP r).acks = r.acks := by
 unfold settleP
 split
 ·split <;> exact ⟨rfl, rfl, rfl, rfl, rfl⟩
 ·exact ⟨rfl, rfl, rfl, rfl, rfl⟩
theorem promise_same (r : Rl) (v : Vi) : (promiseP r v).id = r.id ∧ (promiseP r v).v = v ∧ (promiseP r v).log = r.log ∧ (promiseP r v).joined = if 0 < v.e ∧ v.p = r.id then v.e else r.joined := by
 unfold promiseP
 obtain ⟨a1, a2, a3, a4, _⟩ := settle_same (if ({ r with v := v, act := false, acks := [] } : Rl).leads then { r with v := v, act := false, joined := v.e, acks := ackedL r.id r.log.length [] } else { r with v := v, act := false, acks := [] })
 rw [a1, a2, a3, a4]
 by_cases hl : ({ r with v := v, act := false, acks := [] } : Rl).leads = true
 ·rw [if_pos hl, if_pos (leads_iff.1 hl)]
  exact ⟨rfl, rfl, rfl, rfl⟩
 ·rw [if_neg hl, if_neg (fun h => hl (leads_iff.2 h))]
  exact ⟨rfl, rfl, rfl, rfl⟩
end Go.Proofs.YtjhcgnmibnjocaaGreat

namespace Go.Proofs.YtjhcgnmibnjocaaGreat
open Go.RowKit
theorem offerOk_iff {r : Rl} {f : Int} {m : Mg} (h : offerOk r f m = true) : m.v.right = true ∧ m.v.e = m.e ∧ m.v.p = f ∧ f ≠ r.id ∧ r.v.e ≤ m.e ∧ (m.e = r.v.e → r.v.p = f) := by
 unfold offerOk at h
 simp only [Bool.and_eq_true, decide_eq_true_eq, Bool.not_eq_true', beq_eq_false_iff_ne, Bool.and_eq_false_iff, decide_eq_false_iff_not, beq_eq_false_iff_ne, Bool.not_eq_false', beq_iff_eq] at h
 obtain ⟨⟨⟨⟨⟨⟨⟨h1, h2⟩, h3⟩, h4⟩, h5⟩, h6⟩, h7⟩, h8⟩ := h
 refine ⟨h1, h2, h3, h4, by omega, fun g => ?_⟩
 rcases h8 with h8 | h8
 ·exact absurd g h8
 ·exact h8
end Go.Proofs.YtjhcgnmibnjocaaGreat

namespace Go.Proofs.YtjhcgnmibnjocaaGreat
open Go.RowKit
theorem num_numB' {n : Nat} : num (be (longN n) n) = n := by rw [num_be, Nat.mod_eq_of_lt (lt_longN n)]
theorem numP_back {n : Nat} (h : n < 18446744073709551616) (rest : List Nat) : numP ⟨numB n ++ rest, 0⟩ = (n, ⟨rest, 0⟩) := by
 unfold numB
 by_cases h1 : n < 248
 ·rw [if_pos h1]
  exact numP_low rest h1
 ·rw [if_neg h1]
  have h2 := longN_le 8 n (by omega)
  have h3 : 1 ≤ longN n := by rw [longN_pos (by omega)]; omega
  have hk : 247 + longN n - 247 = longN n := by omega
  have hl := be_length (longN n) n
  have hn := @num_numB' n
  rw [List.cons_append, numP_long (by omega) (by rw [hk, List.length_append]; omega), hk, List.take_left' hl, List.drop_left' hl, hn, if_neg (fun h => by rcases h with h | h <;> omega)]
theorem count_back {n : Nat} {m : Int} (h : (n : Int) ≤ m) (h' : n < 18446744073709551616) (rest : List Nat) : countP m ⟨numB n ++ rest, 0⟩ = (n, ⟨rest, 0⟩) := by
 unfold countP
 rw [numP_back h' rest, if_neg (fun h => by rcases h with h | h <;> simp only at h <;> omega)]
theorem glP_back (rest : List Nat) {l : List Int} (hl : ∀ x ∈ l, I64 x) : ∀ j, j ≤ l.length → glP j ⟨tailB l ++ rest, 0⟩ = (l.take j, ⟨tailB (l.drop j) ++ rest, 0⟩)
 | 0, _ => rfl
 | j + 1, h => by
  unfold glP
  rw [glP_back rest hl j (by omega)]
  have hj : l.drop j = l[j] :: l.drop (j + 1) := (List.drop_eq_getElem_cons (by omega))
  have ht : tailB (l.drop j) ++ rest = numB (zig l[j]) ++ (tailB (l.drop (j + 1)) ++ rest) := by
   rw [hj]
   show List.flatMap _ (l[j] :: l.drop (j + 1)) ++ rest = _
   rw [List.flatMap_cons, List.append_assoc]
   rfl
  simp only
  rw [ht, numP_back (zig_lt _ (hl _ (List.getElem_mem (by omega)))), zag_zig, List.take_add_one, List.getElem?_eq_getElem (by omega)]
  rfl
theorem getV_back {e p : Int} {l : List Int} (he : I64 e) (hp : I64 p) (hl : ∀ x ∈ l, I64 x) (hn : l.length ≤ 8) (rest : List Nat) : getV ⟨viewB e p l ++ rest, 0⟩ = ⟨e, p, l, ⟨rest, 0⟩⟩ := by
 have h1 : numP ⟨viewB e p l ++ rest, 0⟩ = (zig e, ⟨numB (zig p) ++ (numB l.length ++ (tailB l ++ rest)), 0⟩) := by
  rw [viewB, List.append_assoc, numP_back (zig_lt _ he)]
  simp
 have h2 := numP_back (zig_lt _ hp) (numB l.length ++ (tailB l ++ rest))
 have h3 := count_back (n := l.length) (m := 8) (by omega) (by omega) (tailB l ++ rest)
 have h4 := glP_back rest hl l.length (Nat.le_refl _)
 rw [List.take_length, List.drop_length] at h4
 have hg := gvP_eq h1 h2 h3
 rw [h4, zag_zig, zag_zig] at hg
 unfold getV
 rw [hg]
 rfl
theorem glStep_back {x : Ent} (hx : x.ok) (rest : List Nat) : glStep ⟨entB x ++ rest, 0⟩ = (x, ⟨rest, 0⟩) := by
 have hn := hx.n
 have h1 : numP ⟨entB x ++ rest, 0⟩ = (zig x.e, ⟨numB x.t.length ++ (x.t ++ rest), 0⟩) := by
  rw [entB, List.append_assoc, numP_back (zig_lt _ hx.e), List.append_assoc]
 have h2 := count_back (n := x.t.length) (m := 262144) (by omega) (by omega) (x.t ++ rest)
 unfold glStep textP
 rw [h1]
 simp only
 rw [h2]
 simp only
 rw [takeP_ok (by rw [List.length_append]; omega), List.take_left' rfl, List.drop_left' rfl, zag_zig]
theorem glE_back (rest : List Nat) : ∀ (l : List Ent), (∀ x ∈ l, x.ok) → glE l.length ⟨entsB l ++ rest, 0⟩ = (l, ⟨rest, 0⟩)
 | [], _ => rfl
 | x :: l, h => by
  rw [List.length_cons, glE_next _ rfl, show entsB (x :: l) ++ rest = entB x ++ (entsB l ++ rest) by simp [entsB], glStep_back (h x (by simp))]
  simp only
  rw [glE_back rest l (fun y hy => h y (by simp [hy]))]
theorem getL_back {l : List Ent} (h : ∀ x ∈ l, x.ok) (hn : l.length ≤ 4096) (rest : List Nat) : getL ⟨logB l ++ rest, 0⟩ = (l, ⟨rest, 0⟩) := by
 unfold getL
 rw [logB, List.append_assoc, count_back (by omega) (by omega)]
 simp only
 exact glE_back rest l h
theorem endP_nil : (endP ⟨[], 0⟩).e = 0 := rfl
theorem restore_promise {r : Rl} {v : Vi} (hv : v.right = true) (he : r.v.e < v.e) : restoreP r (recPromiseP v) = some (promiseP r v) := by
 have hb := right_bd hv
 have hm := rising_mem hb.2.2.1
 have hln := rising_len hb.2.2.1
 have hp := hm _ hb.2.2.2
 have h1 := numP_back (n := 1) (by omega) (viewB v.e v.p v.l)
 have h2 := getV_back (e := v.e) (p := v.p) (l := v.l) (by unfold I64; omega) (by unfold I64; omega) (fun x hx => by have := hm x hx; unfold I64; omega) hln []
 rw [List.append_nil] at h2
 unfold restoreP recPromiseP
 rw [h1, if_pos rfl]
 simp only
 rw [h2]
 unfold rest1
 rw [if_neg]
 rintro (h | h | h)
 ·exact h endP_nil
 ·have : v.right = false := h
  rw [hv] at this; cases this
 ·have : v.e ≤ r.v.e := h
  omega
theorem restore_entry {r : Rl} {x : Ent} (hx : x.ok) (hn : r.log.length < 4096) : restoreP r (recEntryP (r.log.length + 1) x) = some { r with log := r.log ++ [x] } := by
 have h1 := numP_back (n := 2) (by omega) (numB (zig ((r.log.length + 1 : Nat) : Int)) ++ logB [x])
 have h2 := numP_back (zig_lt ((r.log.length + 1 : Nat) : Int) (by omega)) (logB [x])
 have h3 := getL_back (l := [x]) (fun y hy => by rw [List.mem_singleton] at hy; rw [hy]; exact hx) (by simp) []
 rw [List.append_nil] at h3
 unfold restoreP recEntryP
 rw [h1, if_neg (show ¬(2 : Nat) = 1 by decide), if_pos rfl]
 simp only
 rw [h2]
 simp only
 rw [h3, zag_zig]
 unfold rest2
 rw [if_neg]
 rintro (h | h | h | h)
 ·exact h endP_nil
 ·exact h rfl
 ·exact h (by omega)
 ·omega
theorem restore_log {r : Rl} {l : List Ent} {e : Int} (hl : ∀ x ∈ l, x.ok) (hn : l.length ≤ 4096) (h0 : 0 ≤ e) (he : e ≤ r.v.e) (hb : e ≤ 4611686018427387904) : restoreP r (recLogP e l) = some { r with joined := e, log := l } := by
 have h1 := numP_back (n := 3) (by omega) (numB (zig e) ++ logB l)
 have h2 := numP_back (zig_lt e (by omega)) (logB l)
 have h3 := getL_back hl hn []
 rw [List.append_nil] at h3
 unfold restoreP recLogP
 rw [h1, if_neg (show ¬(3 : Nat) = 1 by decide), if_neg (show ¬(3 : Nat) = 2 by decide), if_pos rfl]
 simp only
 rw [h2]
 simp only
 rw [h3, zag_zig]
 unfold rest3
 rw [if_neg]
 rintro (h | h | h)
 ·exact h endP_nil
 ·omega
 ·omega
theorem restores_append (r : Rl) : ∀ (a b : List (List Nat)), restores r (a ++ b) = (restores r a).bind fun r' => restores r' b := by
 intro a
 induction a generalizing r with
 | nil => intro b; rfl
 | cons x a ih =>
  intro b
  rw [List.cons_append, restores, restores]
  cases restoreP r x with
  | none => rfl
  | some r' => exact ih r' b
def Kept (n : Nat) (r : Rl) (k : List (List Nat)) : Prop := ∃ ρ, restores (newP n) k = some ρ ∧ ρ.id = r.id ∧ ρ.v = r.v ∧ ρ.log = r.log ∧ ρ.joined = r.joined
theorem Kept.more {n : Nat} {r r' : Rl} {k l : List (List Nat)} (h : Kept n r k) (hl : ∀ ρ : Rl, ρ.id = r.id → ρ.v = r.v → ρ.log = r.log → ρ.joined = r.joined → ∃ ρ', restores ρ l = some ρ' ∧ ρ'.id = r'.id ∧ ρ'.v = r'.v ∧ ρ'.log = r'.log ∧ ρ'.joined = r'.joined) : Kept n r' (k ++ l) := by
 obtain ⟨ρ, h1, h2, h3, h4, h5⟩ := h
 obtain ⟨ρ', g1, g2⟩ := hl ρ h2 h3 h4 h5
 exact ⟨ρ', by rw [restores_append, h1]; exact g1, g2⟩
theorem Kept.same {n : Nat} {r r' : Rl} {k : List (List Nat)} (h : Kept n r k) (h2 : r'.id = r.id) (h3 : r'.v = r.v) (h4 : r'.log = r.log) (h5 : r'.joined = r.joined) : Kept n r' k := by
 obtain ⟨ρ, g1, g2, g3, g4, g5⟩ := h
 exact ⟨ρ, g1, g2.trans h2.symm, g3.trans h3.symm, g4.trans h4.symm, g5.trans h5.symm⟩
theorem restores_one {r r' : Rl} {b : List Nat} (h : restoreP r b = some r') : restores r [b] = some r' := by
 rw [restores, h]; rfl
theorem promise_eqs {r ρ : Rl} {v : Vi} (h1 : ρ.id = r.id) (h4 : ρ.log = r.log) (h5 : ρ.joined = r.joined) : (promiseP ρ v).id = (promiseP r v).id ∧ (promiseP ρ v).v = (promiseP r v).v ∧ (promiseP ρ v).log = (promiseP r v).log ∧ (promiseP ρ v).joined = (promiseP r v).joined := by
 obtain ⟨a1, a2, a3, a4⟩ := promise_same ρ v
 obtain ⟨b1, b2, b3, b4⟩ := promise_same r v
 rw [a1, a2, a3, a4, b1, b2, b3, b4, h1, h4, h5]
 exact ⟨rfl, rfl, rfl, rfl⟩
theorem Kept.lead {n : Nat} {r : Rl} {k : List (List Nat)} (h : Kept n r k) (v : Vi) : Kept n (leadP r v).r (k ++ (leadP r v).recs) := by
 unfold leadP
 split
 ·rename_i hv
  split
  ·rw [List.append_nil]; exact h
  ·rename_i he
   refine h.more fun ρ h1 h2 h3 h4 => ⟨_, restores_one (restore_promise hv (by rw [h2]; omega)), promise_eqs h1 h3 h4⟩
 ·rw [List.append_nil]; exact h
theorem Kept.propose {n : Nat} {r : Rl} {k : List (List Nat)} (h : Kept n r k) (x : List Nat) (hx : (⟨r.v.e, x⟩ : Ent).ok) : Kept n (proposeP r x).r (k ++ (proposeP r x).recs) := by
 unfold proposeP
 split
 ·rw [List.append_nil]; exact h
 split
 ·rw [List.append_nil]; exact h
 split
 ·rw [List.append_nil]; exact h
 rename_i hn
 obtain ⟨b1, b2, b3, b4, b5⟩ := settle_same { r with log := r.log ++ [⟨r.v.e, x⟩], acks := ackedL r.id (r.log.length + 1) r.acks }
 refine h.more fun ρ h1 h2 h3 h4 => ⟨{ ρ with log := ρ.log ++ [⟨r.v.e, x⟩] }, restores_one ?_, h1.trans b1.symm, h2.trans b2.symm, ?_, h4.trans b4.symm⟩
 ·have := restore_entry (r := ρ) hx (by rw [h3]; omega)
  rw [h3] at this
  rw [h3]
  exact this
 ·show ρ.log ++ _ = (proposed r x).log
  unfold proposed
  rw [b3, h3]
theorem offer1_kept {r : Rl} {m : Mg} (hv : m.v.right = true) (he : m.v.e = m.e) {ρ : Rl} (h1 : ρ.id = r.id) (h2 : ρ.v = r.v) (h3 : ρ.log = r.log) (h4 : ρ.joined = r.joined) :
  ∃ ρ', restores ρ (offerR r m) = some ρ' ∧ ρ'.id = (offer1 r m).id ∧ ρ'.v = (offer1 r m).v ∧ ρ'.log = (offer1 r m).log ∧ ρ'.joined = (offer1 r m).joined := by
 unfold offerR offer1
 split
 ·exact ⟨_, restores_one (restore_promise hv (by rw [h2]; omega)), promise_eqs h1 h3 h4⟩
 ·exact ⟨ρ, rfl, h1, h2, h3, h4⟩
theorem Kept.offer {n : Nat} {r : Rl} {k : List (List Nat)} (h : Kept n r k) {f : Int} {m : Mg} (hm : ∀ x ∈ m.log, x.ok) : Kept n (offerP r f m).r (k ++ (offerP r f m).recs) := by
 unfold offerP
 split
 ·rename_i ho
  obtain ⟨o1, o2, o3, o4, o5, o6⟩ := offerOk_iff ho
  have hln : m.log.length ≤ 4096 := by
   unfold offerOk at ho
   simp only [Bool.and_eq_true, decide_eq_true_eq] at ho
   exact ho.1.1.2
  have hb := right_bd o1
  refine h.more fun ρ h1 h2 h3 h4 => ?_
  obtain ⟨ρ1, g1, g2, g3, g4, g5⟩ := offer1_kept o1 o2 h1 h2 h3 h4
  have hve : (offer1 r m).v.e = m.e := by
   unfold offer1
   split
   ·rw [(promise_same r m.v).2.1]; exact o2
   ·omega
  rw [restores_append, g1]
  show ∃ ρ', restores ρ1 (offer2R (offer1 r m) m) = some ρ' ∧ ρ'.id = (hearP (offer2 (offer1 r m) m) m.s).id ∧ ρ'.v = (hearP (offer2 (offer1 r m) m) m.s).v ∧ ρ'.log = (hearP (offer2 (offer1 r m) m) m.s).log ∧ ρ'.joined = (hearP (offer2 (offer1 r m) m) m.s).joined
  generalize offer1 r m = r1 at *
  unfold hearP offer2R offer2
  split
  ·exact ⟨_, restores_one (restore_log hm hln (by omega) (by rw [g3]; omega) (by omega)), g2, g3, rfl, rfl⟩
  ·exact ⟨ρ1, rfl, g2, g3, g4, g5⟩
 ·rw [List.append_nil]; exact h
theorem Kept.ship {n : Nat} {r : Rl} {k : List (List Nat)} (h : Kept n r k) {f : Int} {m : Mg} (hm : ∀ x ∈ m.log, x.ok) : Kept n (shipP r f m).r (k ++ (shipP r f m).recs) := by
 unfold shipP
 split
 ·refine h.more fun ρ h1 h2 h3 h4 => ?_
  show ∃ ρ', restores ρ (ship1R r m) = some ρ' ∧ ρ'.id = (hearP (ship1 r m) m.s).id ∧ ρ'.v = (hearP (ship1 r m) m.s).v ∧ ρ'.log = (hearP (ship1 r m) m.s).log ∧ ρ'.joined = (hearP (ship1 r m) m.s).joined
  unfold hearP ship1R ship1
  split
  ·rename_i x hx
   unfold shipIn at hx
   split at hx
   ·rename_i y hy
    split at hx
    ·rename_i hi
     obtain rfl := Option.some.inj hx
     have hr := restore_entry (r := ρ) (hm y (by rw [hy]; simp)) (by rw [h3]; omega)
     rw [h3] at hr
     exact ⟨_, restores_one hr, h1, h2, rfl, h4⟩
    ·cases hx
   ·cases hx
  ·exact ⟨ρ, rfl, h1, h2, h3, h4⟩
 ·rw [List.append_nil]; exact h
theorem Kept.take {n : Nat} {r : Rl} {k : List (List Nat)} (h : Kept n r k) {f : Int} {m : Mg} (hm : ∀ x ∈ m.log, x.ok) : Kept n (takeP_ r f m).r (k ++ (takeP_ r f m).recs) := by
 unfold takeP_
 split
 ·exact h.offer hm
 split
 ·exact h.ship hm
 split
 ·rw [List.append_nil]
  show Kept n (ackP r f m) k
  unfold ackP
  split
  ·obtain ⟨b1, b2, b3, b4, b5⟩ := settle_same { r with acks := ackedL f (max ((r.acks.lookup f).getD 0) m.i.toNat) r.acks }
   exact h.same b1 b2 b3 b4
  ·exact h
 ·rw [List.append_nil]; exact h
theorem Kept.load {n : Nat} {r ρ : Rl} {k : List (List Nat)} (h : Kept n r k) (hr : restores (newP n) k = some ρ) : ρ.id = r.id ∧ ρ.v = r.v ∧ ρ.log = r.log ∧ ρ.joined = r.joined ∧ Kept n (loadedP ρ) k := by
 obtain ⟨ρ', g1, g2, g3, g4, g5⟩ := h
 obtain rfl : ρ' = ρ := Option.some.inj (g1.symm.trans hr)
 refine ⟨g2, g3, g4, g5, ρ', g1, ?_⟩
 unfold loadedP
 split
 ·obtain ⟨b1, b2, b3, b4, b5⟩ := settle_same { ρ' with sure := 0, act := false, acks := ackedL ρ'.id ρ'.log.length [] }
  exact ⟨b1.symm, b2.symm, b3.symm, b4.symm⟩
 ·obtain ⟨b1, b2, b3, b4, b5⟩ := settle_same { ρ' with sure := 0, act := false, acks := [] }
  exact ⟨b1.symm, b2.symm, b3.symm, b4.symm⟩
end Go.Proofs.YtjhcgnmibnjocaaGreat

namespace Go.Proofs.YtjhcgnmibnjocaaGreat
open Go.RowKit
structure Jn (r : Rl) : Prop where
 le : r.joined ≤ r.v.e
 ld : 0 < r.v.e → r.v.p = r.id → r.joined = r.v.e
theorem Jn.same {r r' : Rl} (h : Jn r) (h1 : r'.id = r.id) (h2 : r'.v = r.v) (h3 : r'.joined = r.joined) : Jn r' := ⟨by rw [h3, h2]; exact h.le, by rw [h1, h2, h3]; exact h.ld⟩
theorem Jn.new (id : Int) : Jn (newP id) := ⟨by simp [newP, Vi.none], fun h => by simp [newP, Vi.none] at h⟩
theorem Jn.promise {r : Rl} {v : Vi} (h : Jn r) (he : r.v.e < v.e) : Jn (promiseP r v) := by
 obtain ⟨a1, a2, a3, a4⟩ := promise_same r v
 have hle := h.le
 refine ⟨?_, fun h0 h1 => ?_⟩
 ·rw [a4, a2]
  split <;> omega
 ·rw [a2] at h0 h1
  rw [a1] at h1
  rw [a4, if_pos ⟨h0, h1⟩, a2]
theorem Jn.lead {r : Rl} (h : Jn r) (v : Vi) : Jn (leadP r v).r := by
 unfold leadP
 split
 ·split
  ·exact h
  ·exact h.promise (by omega)
 ·exact h
theorem Jn.propose {r : Rl} (h : Jn r) (x : List Nat) : Jn (proposeP r x).r := by
 unfold proposeP
 split
 ·exact h
 split
 ·exact h
 split
 ·exact h
 obtain ⟨b1, b2, b3, b4, b5⟩ := settle_same { r with log := r.log ++ [⟨r.v.e, x⟩], acks := ackedL r.id (r.log.length + 1) r.acks }
 exact h.same b1 b2 b4
theorem Jn.take {r : Rl} (h : Jn r) (f : Int) (m : Mg) : Jn (takeP_ r f m).r := by
 unfold takeP_
 split
 ·unfold offerP
  split
  ·rename_i ho
   unfold offerOk at ho
   simp only [Bool.and_eq_true, decide_eq_true_eq] at ho
   have h2 := ho.1.1.1.1.1.1.2
   have h1 : Jn (offer1 r m) := by
    unfold offer1
    split
    ·exact h.promise (by omega)
    ·exact h
   have h3 : Jn (offer2 (offer1 r m) m) := by
    unfold offer2
    split
    ·exact ⟨Int.le_refl _, fun _ _ => rfl⟩
    ·exact h1
   exact h3.same rfl rfl rfl
  ·exact h
 split
 ·unfold shipP
  split
  ·have h3 : Jn (ship1 r m) := by
    unfold ship1
    split
    ·exact h.same rfl rfl rfl
    ·exact h
   exact h3.same rfl rfl rfl
  ·exact h
 split
 ·unfold ackP
  split
  ·obtain ⟨b1, b2, b3, b4, b5⟩ := settle_same { r with acks := ackedL f (max ((r.acks.lookup f).getD 0) m.i.toNat) r.acks }
   exact h.same b1 b2 b4
  ·exact h
 ·exact h
theorem loaded_same (r : Rl) : (loadedP r).id = r.id ∧ (loadedP r).v = r.v ∧ (loadedP r).log = r.log ∧ (loadedP r).joined = r.joined := by
 unfold loadedP
 split
 ·obtain ⟨b1, b2, b3, b4, b5⟩ := settle_same { r with sure := 0, act := false, acks := ackedL r.id r.log.length [] }
  exact ⟨b1, b2, b3, b4⟩
 ·obtain ⟨b1, b2, b3, b4, b5⟩ := settle_same { r with sure := 0, act := false, acks := [] }
  exact ⟨b1, b2, b3, b4⟩
theorem Kept.save {n : Nat} {r : Rl} (hok : r.ok) (hj : Jn r) (hid : r.id = n) : Kept n r (saveP r) := by
 have hj0 := hok.j
 have hle := hj.le
 unfold saveP
 by_cases h0 : 0 < r.v.e
 ·rw [if_pos h0]
  have hv : r.v.right = true := by
   rcases hok.v with e | e
   ·rw [e] at h0; simp [Vi.none] at h0
   ·exact e
  have hb := right_bd hv
  obtain ⟨a1, a2, a3, a4⟩ := promise_same (newP n) r.v
  have hp : restores (newP n) [recPromiseP r.v] = some (promiseP (newP n) r.v) := restores_one (restore_promise hv (by simp only [newP, Vi.none]; omega))
  by_cases h1 : 0 < r.log.length ∨ 0 < r.joined
  ·rw [if_pos h1]
   refine ⟨{ promiseP (newP n) r.v with joined := r.joined, log := r.log }, ?_, ?_, a2, rfl, rfl⟩
   ·rw [restores_append, hp]
    exact restores_one (restore_log hok.log hok.n hj0.1 (by rw [a2]; exact hle) hj0.2)
   ·exact a1.trans hid.symm
  ·rw [if_neg h1, List.append_nil]
   refine ⟨_, hp, a1.trans hid.symm, a2, ?_, ?_⟩
   ·rw [a3]
    exact (List.eq_nil_of_length_eq_zero (by have : ¬0 < r.log.length := fun h => h1 (.inl h); omega)).symm
   ·have h2 : r.joined = 0 := by have : ¬0 < r.joined := fun h => h1 (.inr h); omega
    rw [a4]
    split
    ·rename_i hc
     have := hj.ld h0 (by rw [hc.2, hid]; rfl)
     omega
    ·rw [h2]; rfl
 ·rw [if_neg h0, List.nil_append]
  have hv : r.v = Vi.none := by
   rcases hok.v with e | e
   ·exact e
   ·have := right_bd e; omega
  by_cases h1 : 0 < r.log.length ∨ 0 < r.joined
  ·rw [if_pos h1]
   refine ⟨{ newP n with joined := r.joined, log := r.log }, ?_, hid.symm, hv.symm, rfl, rfl⟩
   exact restores_one (restore_log hok.log hok.n hj0.1 (by rw [hv] at hle; exact hle) hj0.2)
  ·rw [if_neg h1]
   refine ⟨newP n, rfl, hid.symm, hv.symm, ?_, ?_⟩
   ·exact (List.eq_nil_of_length_eq_zero (by have : ¬0 < r.log.length := fun h => h1 (.inl h); omega)).symm
   ·have : ¬0 < r.joined := fun h => h1 (.inr h)
    show (0 : Int) = r.joined
    omega
structure Lg (j : Nat) (r : Rl) : Prop where
 n : r.log.length ≤ 30 + j
 t : ∀ x ∈ r.log, x.t.length ≤ 200
theorem Lg.same {j : Nat} {r r' : Rl} (h : Lg j r) (h1 : r'.log = r.log) : Lg (j + 1) r' := ⟨by rw [h1]; have := h.n; omega, by rw [h1]; exact h.t⟩
theorem Lg.lead {j : Nat} {r : Rl} (h : Lg j r) (v : Vi) : Lg (j + 1) (leadP r v).r := by
 unfold leadP
 split
 ·split
  ·exact h.same rfl
  ·exact h.same (promise_same r v).2.2.1
 ·exact h.same rfl
theorem Lg.snoc {j : Nat} {r r' : Rl} {x : Ent} (h : Lg j r) (h1 : r'.log = r.log ++ [x]) (hx : x.t.length ≤ 200) : Lg (j + 1) r' := by
 refine ⟨by rw [h1, List.length_append]; have := h.n; simp; omega, fun y hy => ?_⟩
 rw [h1] at hy
 rcases List.mem_append.1 hy with hy | hy
 ·exact h.t y hy
 ·rw [List.mem_singleton] at hy; rw [hy]; exact hx
theorem Lg.propose {j : Nat} {r : Rl} (h : Lg j r) (x : List Nat) (hx : x.length ≤ 200) : Lg (j + 1) (proposeP r x).r := by
 unfold proposeP
 split
 ·exact h.same rfl
 split
 ·exact h.same rfl
 split
 ·exact h.same rfl
 exact h.snoc (proposed_v r x).2.2 hx
theorem Lg.take {j : Nat} {r : Rl} (h : Lg j r) (f : Int) {m : Mg} (hm : m.log.length ≤ 30) (ht : ∀ x ∈ m.log, x.t.length ≤ 200) : Lg (j + 1) (takeP_ r f m).r := by
 unfold takeP_
 split
 ·unfold offerP
  split
  ·have h1 : (offer1 r m).log = r.log := offer1_log r m
   show Lg (j + 1) (hearP (offer2 (offer1 r m) m) m.s)
   unfold offer2
   split
   ·exact ⟨by show m.log.length ≤ _; omega, ht⟩
   ·exact h.same h1
  ·exact h.same rfl
 split
 ·unfold shipP
  split
  ·show Lg (j + 1) (hearP (ship1 r m) m.s)
   unfold ship1
   split
   ·rename_i x hx
    refine h.snoc (x := x) rfl (ht x ?_)
    unfold shipIn at hx
    split at hx
    ·rename_i heq
     split at hx
     ·cases hx; rw [heq]; exact List.mem_singleton.2 rfl
     ·cases hx
    ·cases hx
   ·exact h.same rfl
  ·exact h.same rfl
 split
 ·unfold ackP
  split
  ·exact h.same (settle_same { r with acks := ackedL f (max ((r.acks.lookup f).getD 0) m.i.toNat) r.acks }).2.2.1
  ·exact h.same rfl
 ·exact h.same rfl
theorem entB_200 {x : Ent} (h : x.ok) (ht : x.t.length ≤ 200) : (entB x).length ≤ 218 := by
 have h1 := numB_le (zig x.e) (zig_lt _ h.e)
 have h2 := numB_le x.t.length (by omega)
 unfold entB
 rw [List.length_append, List.length_append]
 omega
theorem entsB_200 : ∀ {l : List Ent}, (∀ x ∈ l, x.ok) → (∀ x ∈ l, x.t.length ≤ 200) → (entsB l).length ≤ 218 * l.length
 | [], _, _ => Nat.zero_le _
 | x :: l, h, ht => by
  have h1 := entB_200 (h x (by simp)) (ht x (by simp))
  have h2 := entsB_200 (fun y hy => h y (by simp [hy])) (fun y hy => ht y (by simp [hy])) (l := l)
  rw [show entsB (x :: l) = entB x ++ entsB l by simp [entsB], List.length_append, List.length_cons]
  omega
theorem logB_200 {l : List Ent} (h : ∀ x ∈ l, x.ok) (ht : ∀ x ∈ l, x.t.length ≤ 200) (hn : l.length ≤ 200) : (logB l).length ≤ 44000 := by
 have h1 := numB_le l.length (by omega)
 have h2 := entsB_200 h ht
 unfold logB
 rw [List.length_append]
 omega
theorem recLog_200 {e : Int} {l : List Ent} (he : I64 e) (h : ∀ x ∈ l, x.ok) (ht : ∀ x ∈ l, x.t.length ≤ 200) (hn : l.length ≤ 200) : (recLogP e l).length ≤ 100000 := by
 have h1 := numB_le 3 (by omega)
 have h2 := numB_le (zig e) (zig_lt _ he)
 have h3 := logB_200 h ht hn
 unfold recLogP
 rw [List.length_append, List.length_append]
 omega
theorem recEntry_200 {n : Nat} {x : Ent} (hn : n ≤ 5000) (h : x.ok) (ht : x.t.length ≤ 200) : (recEntryP n x).length ≤ 100000 := by
 have h1 := numB_le 2 (by omega)
 have h2 := numB_le (zig (n : Int)) (zig_lt _ (by omega))
 have h3 := logB_200 (l := [x]) (fun y hy => by rw [List.mem_singleton] at hy; rw [hy]; exact h) (fun y hy => by rw [List.mem_singleton] at hy; rw [hy]; exact ht) (by simp)
 unfold recEntryP
 rw [List.length_append, List.length_append]
 omega
theorem recPromise_200 {v : Vi} (hv : v.right = true) : (recPromiseP v).length ≤ 100000 := by
 have hb := right_bd hv
 have hm := rising_mem hb.2.2.1
 have hln := rising_len hb.2.2.1
 have hp := hm _ hb.2.2.2
 have h1 := numB_le 1 (by omega)
 have h2 := numB_le (zig v.e) (zig_lt _ (by omega))
 have h3 := numB_le (zig v.p) (zig_lt _ (by omega))
 have h4 := numB_le v.l.length (by omega)
 have h5 : ∀ {l : List Int}, (∀ x ∈ l, I64 x) → (tailB l).length ≤ 9 * l.length := fun {l} => by
  induction l with
  | nil => intro _; exact Nat.zero_le _
  | cons x l ih =>
   intro h
   have h1 := numB_le (zig x) (zig_lt _ (h x (by simp)))
   have h3 := ih (fun y hy => h y (by simp [hy]))
   rw [show tailB (x :: l) = numB (zig x) ++ tailB l by simp [tailB], List.length_append, List.length_cons]
   omega
 have h6 := h5 (l := v.l) (fun x hx => by have := hm x hx; unfold I64; omega)
 unfold recPromiseP viewB
 simp only [List.length_append]
 omega
def Sr (l : List (List Nat)) : Prop := l.length ≤ 2 ∧ ∀ b ∈ l, b.length ≤ 100000
theorem Sr.nil : Sr [] := ⟨by simp, fun _ h => by cases h⟩
theorem Sr.one {b : List Nat} (h : b.length ≤ 100000) : Sr [b] := ⟨by simp, fun y hy => by rw [List.mem_singleton] at hy; rw [hy]; exact h⟩
theorem sr_lead (r : Rl) (v : Vi) : Sr (leadP r v).recs := by
 unfold leadP
 split
 ·rename_i hv
  split
  ·exact Sr.nil
  ·exact Sr.one (recPromise_200 hv)
 ·exact Sr.nil
theorem sr_propose {r : Rl} (hok : r.ok) {x : List Nat} (hx : x.length ≤ 200) (hb : ∀ y ∈ x, y < 256) : Sr (proposeP r x).recs := by
 unfold proposeP
 split
 ·exact Sr.nil
 split
 ·exact Sr.nil
 split
 ·exact Sr.nil
 have := he64 hok
 exact Sr.one (recEntry_200 (by have := hok.n; omega) ⟨by unfold I64; simp only; omega, by simp only; omega, hb⟩ hx)
theorem sr_take {r : Rl} (hok : r.ok) (f : Int) {m : Mg} (ho : ∀ x ∈ m.log, x.ok) (hm : m.log.length ≤ 30) (ht : ∀ x ∈ m.log, x.t.length ≤ 200) : Sr (takeP_ r f m).recs := by
 unfold takeP_
 split
 ·unfold offerP
  split
  ·rename_i hy
   unfold offerOk at hy
   simp only [Bool.and_eq_true, decide_eq_true_eq] at hy
   have hv := hy.1.1.1.1.1.1.1
   have h1 := he64 (offer1_ok hok hv)
   refine ⟨?_, fun b hb => ?_⟩
   ·show (offerR r m ++ offer2R (offer1 r m) m).length ≤ 2
    rw [List.length_append]
    have q1 : (offerR r m).length ≤ 1 := by unfold offerR; split <;> simp
    have q2 : (offer2R (offer1 r m) m).length ≤ 1 := by unfold offer2R; split <;> simp
    omega
   ·replace hb : b ∈ offerR r m ++ offer2R (offer1 r m) m := hb
    rcases List.mem_append.1 hb with hb | hb
    ·unfold offerR at hb
     split at hb
     ·rw [List.mem_singleton] at hb; rw [hb]; exact recPromise_200 hv
     ·cases hb
    ·unfold offer2R at hb
     split at hb
     ·rw [List.mem_singleton] at hb; rw [hb]; exact recLog_200 (by unfold I64; omega) ho ht (by omega)
     ·cases hb
  ·exact Sr.nil
 split
 ·unfold shipP
  split
  ·show Sr (ship1R r m)
   unfold ship1R
   split
   ·rename_i x hx
    have hxm : x ∈ m.log := by
     unfold shipIn at hx
     split at hx
     ·rename_i heq
      split at hx
      ·cases hx; rw [heq]; exact List.mem_singleton.2 rfl
      ·cases hx
     ·cases hx
    exact Sr.one (recEntry_200 (by have := hok.n; omega) (ho x hxm) (ht x hxm))
   ·exact Sr.nil
  ·exact Sr.nil
 split
 ·exact Sr.nil
 ·exact Sr.nil
structure Pin (n j : Nat) (r : Rl) (L : List (List Nat)) : Prop where
 k : Kept n r L
 jn : Jn r
 lg : Lg j r
 ln : L.length ≤ 2 * j
 lb : ∀ b ∈ L, b.length ≤ 100000
 id : r.id = n
theorem restores_id : ∀ {l : List (List Nat)} {r ρ : Rl}, restores r l = some ρ → ρ.id = r.id
 | [], r, ρ, h => by cases h; rfl
 | b :: l, r, ρ, h => by
  rw [restores] at h
  cases hb : restoreP r b with
  | none => rw [hb] at h; cases h
  | some r' => rw [hb] at h; exact (restores_id h).trans (restore_id hb)
theorem Kept.id_ {n : Nat} {r : Rl} {L : List (List Nat)} (h : Kept n r L) : r.id = n := by
 obtain ⟨ρ, h1, h2, _⟩ := h
 rw [← h2, restores_id h1]
 rfl
theorem Pin.new (n : Nat) : Pin n 0 (newP n) [] := ⟨⟨_, rfl, rfl, rfl, rfl, rfl⟩, Jn.new _, ⟨by simp [newP], fun _ h => by simp [newP] at h⟩, by simp, (fun _ h => by cases h), rfl⟩
theorem Pin.mk' {n j : Nat} {r r' : Rl} {L R : List (List Nat)} (h : Pin n j r L) (hk : Kept n r' (L ++ R)) (hj : Jn r') (hg : Lg (j + 1) r') (hr : Sr R) : Pin n (j + 1) r' (L ++ R) :=
 ⟨hk, hj, hg, by rw [List.length_append]; have := h.ln; have := hr.1; omega, fun b hb => (List.mem_append.1 hb).elim (h.lb b) (hr.2 b), hk.id_⟩
theorem Pin.lead {n j : Nat} {r : Rl} {L : List (List Nat)} (h : Pin n j r L) (v : Vi) : Pin n (j + 1) (leadP r v).r (L ++ (leadP r v).recs) := h.mk' (h.k.lead v) (h.jn.lead v) (h.lg.lead v) (sr_lead r v)
theorem Pin.propose {n j : Nat} {r : Rl} {L : List (List Nat)} (h : Pin n j r L) (hok : r.ok) {x : List Nat} (hx : x.length ≤ 200) (hb : ∀ y ∈ x, y < 256) : Pin n (j + 1) (proposeP r x).r (L ++ (proposeP r x).recs) :=
 h.mk' (h.k.propose x ⟨by have := he64 hok; unfold I64; simp only; omega, by simp only; omega, hb⟩) (h.jn.propose x) (h.lg.propose x hx) (sr_propose hok hx hb)
theorem Pin.take {n j : Nat} {r : Rl} {L : List (List Nat)} (h : Pin n j r L) (hok : r.ok) (f : Int) {m : Mg} (ho : ∀ x ∈ m.log, x.ok) (hm : m.log.length ≤ 30) (ht : ∀ x ∈ m.log, x.t.length ≤ 200) : Pin n (j + 1) (takeP_ r f m).r (L ++ (takeP_ r f m).recs) :=
 h.mk' (h.k.take ho) (h.jn.take f m) (h.lg.take f hm ht) (sr_take hok f ho hm ht)
theorem Pin.none {n j : Nat} {r : Rl} {L : List (List Nat)} (h : Pin n j r L) : Pin n (j + 1) r (L ++ []) := h.mk' (by rw [List.append_nil]; exact h.k) h.jn (h.lg.same rfl) Sr.nil
theorem Pin.load {n j : Nat} {r ρ : Rl} {L L' : List (List Nat)} (h : Pin n j r L) (hk : Kept n r L') (hr : restores (newP n) L' = some ρ) : Pin n (j + 1) (loadedP ρ) (L ++ []) := by
 obtain ⟨e1, e2, e3, e4, _⟩ := hk.load hr
 obtain ⟨b1, b2, b3, b4⟩ := loaded_same ρ
 refine h.mk' ?_ (h.jn.same (b1.trans e1) (b2.trans e2) (b4.trans e4)) (h.lg.same (b3.trans e3)) Sr.nil
 rw [List.append_nil]
 exact h.k.same (b1.trans e1) (b2.trans e2) (b3.trans e3) (b4.trans e4)
theorem save_b {r : Rl} {j : Nat} (hok : r.ok) (hg : Lg j r) (hj : j ≤ 100) : Sr (saveP r) := by
 have := he64 hok
 have hjo := hok.j
 unfold saveP
 refine ⟨?_, fun b hb => ?_⟩
 ·rw [List.length_append]
  split <;> split <;> simp
 ·rcases List.mem_append.1 hb with hb | hb
  ·split at hb
   ·rename_i h0
    rw [List.mem_singleton] at hb
    rw [hb]
    refine recPromise_200 ?_
    rcases hok.v with e | e
    ·rw [e] at h0; simp [Vi.none] at h0
    ·exact e
   ·cases hb
  ·split at hb
   ·rw [List.mem_singleton] at hb
    rw [hb]
    exact recLog_200 (by unfold I64; omega) hok.log hg.t (by have := hg.n; omega)
   ·cases hb
end Go.Proofs.YtjhcgnmibnjocaaGreat
