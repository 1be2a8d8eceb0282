import Derived.Test.YtjhcgnmibnjocaaY1
/-! A relay's epoch and what is sure never fall. -/
namespace Go.Proofs.Ytjhcgnmibnjocaa
open Go.RowKit
set_option linter.unusedVariables false
set_option linter.unusedSimpArgs false
/-- What is sure stands in the log; who is active leads. -/
structure Fit (r : Rl) : Prop where
  s : r.sure ≤ r.log.length
  a : r.act = true → r.leads = true
/-- Neither epoch nor what is sure falls. -/
structure Ups (r r' : Rl) : Prop where
  fit : Fit r'
  e : r.v.e ≤ r'.v.e
  s : r.sure ≤ r'.sure
  id : r'.id = r.id
theorem Ups.refl {r : Rl} (h : Fit r) : Ups r r := ⟨h, Int.le_refl _, Nat.le_refl _, rfl⟩
theorem Ups.trans {a b c : Rl} (h : Ups a b) (h' : Ups b c) : Ups a c := ⟨h'.fit, Int.le_trans h.e h'.e, Nat.le_trans h.s h'.s, h'.id.trans h.id⟩
theorem leastP_le {a : List (Int × Nat)} : ∀ {l : List Int} {m k : Nat}, leastP a l m = some k → k ≤ m
  | [], m, k, h => by simp only [leastP, Option.some.injEq] at h; omega
  | n :: l, m, k, h => by
    unfold leastP at h
    split at h
    · cases h
    · have := leastP_le h
      omega
theorem settle_ups {r : Rl} (h : Fit r) : Ups r (settleP r) := by
  unfold settleP
  split
  · rename_i hl
    split
    · exact Ups.refl h
    · rename_i m hm
      have := leastP_le hm
      have := h.s
      refine ⟨⟨?_, fun _ => hl⟩, Int.le_refl _, Nat.le_max_left _ _, rfl⟩
      show max r.sure m ≤ r.log.length
      omega
  · exact Ups.refl h
theorem promise_ups {r : Rl} (h : Fit r) {v : Vi} (he : r.v.e ≤ v.e) : Ups r (promiseP r v) := by
  unfold promiseP
  split
  · exact Ups.trans (b := { r with v := v, act := false, joined := v.e, acks := ackedL r.id r.log.length [] }) ⟨⟨h.s, fun h => by cases h⟩, he, Nat.le_refl _, rfl⟩ (settle_ups ⟨h.s, fun h => by cases h⟩)
  · exact Ups.trans (b := { r with v := v, act := false, acks := [] }) ⟨⟨h.s, fun h => by cases h⟩, he, Nat.le_refl _, rfl⟩ (settle_ups ⟨h.s, fun h => by cases h⟩)
theorem lead_ups {r : Rl} (h : Fit r) (v : Vi) : Ups r (leadP r v).r := by
  unfold leadP
  split
  · split
    · exact Ups.refl h
    · exact promise_ups h (by omega)
  · exact Ups.refl h
theorem propose_ups {r : Rl} (h : Fit r) (c : List Nat) : Ups r (proposeP r c).r := by
  unfold proposeP
  split
  · exact Ups.refl h
  split
  · exact Ups.refl h
  split
  · exact Ups.refl h
  have hf : Fit { r with log := r.log ++ [⟨r.v.e, c⟩], acks := ackedL r.id (r.log.length + 1) r.acks } := ⟨by have := h.s; simp; omega, h.a⟩
  exact Ups.trans ⟨hf, Int.le_refl _, Nat.le_refl _, rfl⟩ (settle_ups hf)
theorem hear_ups {r : Rl} (h : Fit r) (s : Int) : Ups r (hearP r s) :=
  ⟨⟨by have := h.s; show max r.sure (min s r.log.length).toNat ≤ r.log.length; omega, h.a⟩, Int.le_refl _, Nat.le_max_left _ _, rfl⟩
theorem promise_not {r : Rl} {v : Vi} (h : v.p ≠ r.id) : promiseP r v = { r with v := v, act := false, acks := [] } := by
  have hl : ({ r with v := v, act := false, acks := [] } : Rl).leads = false := by
    unfold Rl.leads
    rw [decide_eq_false (p := v.p = r.id) h, Bool.and_false]
  unfold promiseP
  rw [if_neg (by rw [hl]; simp)]
  unfold settleP
  rw [if_neg (by rw [hl]; simp)]
theorem offer_ups {r : Rl} (h : Fit r) (f : Int) {m : Mg} (hs : r.sure ≤ m.log.length) : Ups r (offerP r f m).r := by
  unfold offerP
  split
  · rename_i ho
    unfold offerOk at ho
    simp only [Bool.and_eq_true, decide_eq_true_eq] at ho
    have hp : m.v.p ≠ r.id := by
      intro e
      obtain ⟨⟨⟨⟨⟨⟨⟨_, _⟩, hp⟩, hf⟩, _⟩, _⟩, _⟩, _⟩ := ho
      rw [← hp, e] at hf
      simp at hf
    have h1 : Ups r (offer1 r m) ∧ (offer1 r m).sure = r.sure := by
      unfold offer1
      split
      · rename_i he
        exact ⟨promise_ups h (by omega), by rw [promise_not hp]⟩
      · exact ⟨Ups.refl h, rfl⟩
    have h2 : Ups (offer1 r m) (offer2 (offer1 r m) m) := by
      unfold offer2
      split
      · exact ⟨⟨by show (offer1 r m).sure ≤ m.log.length; omega, h1.1.fit.a⟩, Int.le_refl _, Nat.le_refl _, rfl⟩
      · exact Ups.refl h1.1.fit
    exact (h1.1.trans h2).trans (hear_ups h2.fit _)
  · exact Ups.refl h
theorem ship_ups {r : Rl} (h : Fit r) (f : Int) (m : Mg) : Ups r (shipP r f m).r := by
  unfold shipP
  split
  · have h1 : Ups r (ship1 r m) := by
      unfold ship1
      split
      · exact ⟨⟨by have := h.s; show r.sure ≤ (r.log ++ [_]).length; simp; omega, h.a⟩, Int.le_refl _, Nat.le_refl _, rfl⟩
      · exact Ups.refl h
    exact h1.trans (hear_ups h1.fit _)
  · exact Ups.refl h
theorem ack_ups {r : Rl} (h : Fit r) (f : Int) (m : Mg) : Ups r (ackP r f m) := by
  unfold ackP
  split
  · exact Ups.trans (b := { r with acks := ackedL f (max ((r.acks.lookup f).getD 0) m.i.toNat) r.acks }) ⟨⟨h.s, h.a⟩, Int.le_refl _, Nat.le_refl _, rfl⟩ (settle_ups ⟨h.s, h.a⟩)
  · exact Ups.refl h
/-- No primary offers less than what is sure. -/
theorem take_ups {r : Rl} (h : Fit r) (f : Int) (m : Mg) (hs : m.k = 1 → r.sure ≤ m.log.length) : Ups r (takeP_ r f m).r := by
  unfold takeP_
  split
  · exact offer_ups h f (hs ‹_›)
  split
  · exact ship_ups h f m
  split
  · exact ack_ups h f m
  · exact Ups.refl h
theorem new_fit (id : Int) : Fit (newP id) := ⟨Nat.le_refl _, fun h => by cases h⟩
theorem Fit.prim {r : Rl} (h : Fit r) (ha : r.act = true) : r.v.p = r.id := by
  have := h.a ha
  unfold Rl.leads at this
  simp only [Bool.and_eq_true, decide_eq_true_eq] at this
  exact this.2
end Go.Proofs.Ytjhcgnmibnjocaa
