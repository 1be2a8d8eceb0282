import Derived.Test.YtjhcgnmibnjocaaGreatW11
/-! The document's relay takes any message. -/
namespace Go.Proofs.YtjhcgnmibnjocaaGreat
open Go.RowKit Go.Maps
set_option linter.unusedVariables false
set_option linter.unusedSimpArgs false
theorem dtake_any {T : Nat → Prop} (r : Rl) (f : Int) (m : Mg) (vm vl va mv ml : Value) (w : World) (h : DrW w T vm vl va r) (hm : MgW w T mv ml m) (hTl : ∀ k, T k → k < w.heap.size) (hok : r.ok) (hml : m.v.l.length ≤ 1000000) (hcm : ∀ A n c, ml = .slice A n c → n ≤ c) :
  Calls Tryz.prog 18 #[.agg #[.int .i64 r.id, .int .i64 r.v.e, .int .i64 r.v.p, vm, vl, .int .i64 r.joined, .int .i64 (r.sure : Int), va, .bool r.act], .int .i64 f, .agg #[.int .i64 m.k, .int .i64 m.e, .int .i64 m.v.e, .int .i64 m.v.p, mv, .int .i64 m.i, .int .i64 m.s, ml]] w fun e w' => ∃ vm' vl' va' A1 n1 c1 A2 n2 c2, e = .returned (.tuple #[.slice A1 n1 c1, .slice A2 n2 c2, .agg #[.int .i64 (takeP_ r f m).r.id, .int .i64 (takeP_ r f m).r.v.e, .int .i64 (takeP_ r f m).r.v.p, vm', vl', .int .i64 (takeP_ r f m).r.joined, .int .i64 ((takeP_ r f m).r.sure : Int), va', .bool (takeP_ r f m).r.act]]) ∧ Recs w' T A1 n1 (takeP_ r f m).recs ∧ Outs w' T A2 n2 (takeP_ r f m).outs ∧ DrW w' T vm' vl' va' (takeP_ r f m).r ∧ Below w.heap.size w w' := by
 by_cases k1 : m.k = 1
 ·have hT : takeP_ r f m = offerP r f m := by unfold takeP_; rw [if_pos k1]
  rw [hT]
  cases ho : offerOk r f m with
  | false =>
   rw [offerP_no ho]
   refine (doffer_no r f m vm vl va mv ml w h hm hTl hok hml k1 ho).mono fun e w' hA => ?_
   obtain ⟨rfl, hD, hb⟩ := hA
   exact ⟨vm, vl, va, none, 0, 0, none, 0, 0, rfl, Recs.nil _ _, Outs.nil _ _, hD, hb⟩
  | true =>
   have hP : offerP r f m = ⟨offerR r m ++ offer2R (offer1 r m) m, hearO (offer2 (offer1 r m) m) f, hearP (offer2 (offer1 r m) m) m.s⟩ := by unfold offerP; rw [ho]; rfl
   rw [hP]
   unfold offerOk at ho
   simp only [Bool.and_eq_true, Bool.not_eq_true', decide_eq_true_eq, decide_eq_false_iff_not, Bool.and_eq_false_iff, beq_eq_false_iff_ne] at ho
   obtain ⟨⟨⟨⟨⟨⟨⟨h1, h2⟩, h3⟩, h4⟩, h5⟩, h6⟩, h7⟩, h8⟩ := ho
   refine doffer_yes r f m vm vl va mv ml w h hm hTl hok hml hcm k1 h1 (by simpa using h2) (by simpa using h3) (by simpa using h4) h5 (by simp; omega) (by simpa using h7) ?_
   by_cases he : m.e = r.v.e
   ·right
    rcases h8 with h8 | h8
    ·exact absurd he h8
    ·have h9 : r.v.p = f := by simpa using h8
     exact ⟨by simpa using he, by simpa using h9, by simp; omega⟩
   ·left
    exact ⟨by simpa using he, by simp; omega⟩
 ·by_cases k2 : m.k = 2
  ·have hT : takeP_ r f m = shipP r f m := by unfold takeP_; rw [if_neg k1, if_pos k2]
   rw [hT]
   cases ho : shipOk r f m with
   | false =>
    have hP : shipP r f m = ⟨[], [], r⟩ := by unfold shipP; rw [ho]; rfl
    rw [hP]
    refine (dship_no r f m vm vl va mv ml w h hm hTl hok hml k2 ho).mono fun e w' hA => ?_
    obtain ⟨rfl, hD, hb⟩ := hA
    exact ⟨vm, vl, va, none, 0, 0, none, 0, 0, rfl, Recs.nil _ _, Outs.nil _ _, hD, hb⟩
   | true =>
    have hP : shipP r f m = ⟨ship1R r m, hearO (ship1 r m) f, hearP (ship1 r m) m.s⟩ := by unfold shipP; rw [ho]; rfl
    rw [hP]
    exact dship_yes r f m vm vl va mv ml w h hm hTl hok hml k2 ho
  ·by_cases k3 : m.k = 3
   ·have hT : takeP_ r f m = ⟨[], [], ackP r f m⟩ := by unfold takeP_; rw [if_neg k1, if_neg k2, if_pos k3]
    rw [hT]
    cases ho : ackOk r f m with
    | false =>
     have hP : ackP r f m = r := by unfold ackP; rw [ho]; rfl
     rw [hP]
     refine (dack_no r f m vm vl va mv ml w h hm hTl hok hml k3 ho).mono fun e w' hA => ?_
     obtain ⟨rfl, hD, hb⟩ := hA
     exact ⟨vm, vl, va, none, 0, 0, none, 0, 0, rfl, Recs.nil _ _, Outs.nil _ _, hD, hb⟩
    | true =>
     refine (dack_yes r f m vm vl va mv ml w h hm hTl hok hml k3 ho).mono fun e w' hA => ?_
     obtain ⟨va', rfl, hD, hb⟩ := hA
     exact ⟨vm, vl, va', none, 0, 0, none, 0, 0, rfl, Recs.nil _ _, Outs.nil _ _, hD, hb⟩
   ·have hT : takeP_ r f m = ⟨[], [], r⟩ := by unfold takeP_; rw [if_neg k1, if_neg k2, if_neg k3]
    rw [hT]
    refine (dtake_other r f m vm vl va mv ml w h hm hTl hok hml k1 k2 k3).mono fun e w' hA => ?_
    obtain ⟨rfl, hD, hb⟩ := hA
    exact ⟨vm, vl, va, none, 0, 0, none, 0, 0, rfl, Recs.nil _ _, Outs.nil _ _, hD, hb⟩
end Go.Proofs.YtjhcgnmibnjocaaGreat
