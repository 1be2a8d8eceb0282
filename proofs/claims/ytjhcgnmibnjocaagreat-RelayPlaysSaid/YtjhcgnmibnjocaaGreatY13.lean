import Derived.Test.YtjhcgnmibnjocaaGreatY12
/-! What a relay says; a nil one. -/
namespace Go.Proofs.YtjhcgnmibnjocaaGreat
open Go.RowKit Go.Maps
set_option linter.unusedVariables false
set_option linter.unusedSimpArgs false
theorem ractive_any {S T : Nat → Prop} {g : Nat} {r : Rl} (w : World) (h : RelW w S T g r) :
  Calls Tryz.prog 24 #[.pointer (some ⟨g, 0, none⟩)] w fun e w' => e = .returned (.bool r.act) ∧ w' = w := by
 obtain ⟨_, Am, cm, vl, mb, hX⟩ := h
 have c := hX.blk.cell
 have l := hX.blk.lt
 clear hX
 go_enter Tryz.func24, Tryz.ntmps24
 go_wp2
 go_ret
 exact ⟨rfl, rfl⟩
theorem rsure_any {S T : Nat → Prop} {g : Nat} {r : Rl} (w : World) (h : RelW w S T g r) :
  Calls Tryz.prog 25 #[.pointer (some ⟨g, 0, none⟩)] w fun e w' => e = .returned (.int .i64 (r.sure : Int)) ∧ w' = w := by
 obtain ⟨_, Am, cm, vl, mb, hX⟩ := h
 have c := hX.blk.cell
 have l := hX.blk.lt
 clear hX
 go_enter Tryz.func25, Tryz.ntmps25
 go_wp2
 go_ret
 exact ⟨rfl, rfl⟩
def Rly (w : World) (base g : Nat) (r : Rl) : Prop := ∃ S T, RelW w S T g r ∧ ∀ k, T k → base ≤ k
theorem Aft.rly {w w' : World} {S T : Nat → Prop} {g base : Nat} {r r' : Rl} {K : (Nat → Prop) → Prop} (h : Aft w w' S T g r' K) (h0 : RelW w S T g r) (hT : ∀ k, T k → base ≤ k) (hb : base ≤ w.heap.size) : Rly w' base g r' ∧ Below base w w' ∧ ∃ T', K T' := by
 obtain ⟨S', hW, hk, hs, hK⟩ := h
 obtain ⟨_, _, _, _, _, hX⟩ := h0
 refine ⟨⟨S', _, hW, fun k hk => ?_⟩, hk.below hb (fun k hk => hT k (hX.sub k hk)), _, hK⟩
 rcases hk with hk | hk
 ·exact hT k hk
 ·rcases hs k hk with h | h
  ·exact hT k (hX.sub k h)
  ·omega
end Go.Proofs.YtjhcgnmibnjocaaGreat
