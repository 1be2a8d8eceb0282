import Derived.Test.YtjhcgnmibnjocaaGreatY49
import Derived.Test.YtjhcgnmibnjocaaGreatY33
/-! A relay as its records tell it. -/
namespace Go.Proofs.YtjhcgnmibnjocaaGreat
open Go.RowKit Go.Maps
set_option linter.unusedVariables false
set_option linter.unusedSimpArgs false
theorem RelX.remap {w W : World} {S T : Nat → Prop} {g : Nat} {r r1 : Rl} {Am : Option Addr} {cm : Nat} {vl : Value} {mb : Nat} (h : RelX w S T g r Am cm vl mb) (ho : Only w W g) {m1 : Nat} (hB : Blk W g 77 #[.int .i64 r1.id, .int .i64 r1.v.e, .int .i64 r1.v.p, .slice Am r1.v.l.length cm, vl, .int .i64 r1.joined, .int .i64 (r1.sure : Int), .map (some m1), .bool r1.act])
  (e1 : r1.v.l = r.v.l) (e2 : r1.log = r.log) (mp : Mp W m1 r1.acks) (hm : w.heap.size ≤ m1) :
  RelX W (fun k => S k ∨ k = m1) (fun k => T k ∨ k = m1) g r1 Am cm vl m1 := by
 have hk : Kp T w W := Kp.of_only ho (h.sub _ h.g)
 have hg := h.blk.lt
 refine ⟨hB, by rw [e1]; exact Reads.kp h.rd hk h.mt, fun h0 a ha ht => ?_, ?_, fun k hv => .inl (h.vs k hv), mp, .inr rfl, by omega, h.vg, fun hv => ?_, .inl h.g, fun k hs => hs.elim (fun hs => .inl (h.sub k hs)) .inr, fun k ht => ?_⟩
 ·rw [e1] at h0
  rcases ht with ht | ht
  ·exact h.mt h0 a ha ht
  ·obtain ⟨a', e', hl, _⟩ := h.rd.2 h0
   rw [ha] at e'; cases e'
   omega
 ·rw [e2]
  exact (h.own.sub (fun k hk ht => ht.elim id (fun e => by omega))).keep (hk.weaken fun k => .inl) (fun k hv hl => ho.block k hl fun e => h.vg (e ▸ hv))
 ·have := h.lt _ (h.sub _ (h.vs _ hv)); omega
 ·rcases ht with ht | rfl
  ·exact Nat.lt_of_lt_of_le (h.lt _ ht) hk.size
  ·exact mp.lt
attribute [local irreducible] First.wpF
end Go.Proofs.YtjhcgnmibnjocaaGreat
