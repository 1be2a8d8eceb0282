import Derived.Test.YtmfbidhnafpkdaaDoorFirst
import Derived.Test.YtmfbidhnafpkdaaDoorOnly
/-! A region that draws, whose operations change one old block at most. -/
namespace Go.Proofs.YtmfbidhnafpkdaaDoor
open Go.RowKit
set_option linter.unusedVariables false
set_option linter.unusedSimpArgs false
theorem wp_region_only (p : Nat) {P : Program} {id : Nat} {Q : Exit → Act → World → Prop} {a : Act} {w : World} {l : List Oper} (Vs Ps : List Nat) (ks : List (Bool × Bool × Nat)) (hm : P.follows .mixedOrders = true)
    (hB : (Region.noSelect l.toArray && decide (ks.length = l.length) && First.orderB .any l.toArray Vs Ps ks (Array.replicate l.length false)) = true)
    (h : ∀ X, First.wpF P l.toArray (fun w w' => Only w w' p) (Q .normal) (ks.map fun k => (k.1, k.2.1, l.getD k.2.2 default)) a (w.ext X)) : (Code.region id l.toArray true).wp P Q a w := by
  have hw₁ : ({ w with drawn := w.drawn + 1 } : World) = w.ext ⟨#[], w.drawn + 1⟩ := by simp [World.ext]
  exact First.wp_region_first _ (fun w => Only.refl w p) (fun w w' w'' h h' => h.trans h') Vs Ps ks hm hB (hw₁ ▸ h _)
theorem first_read {P : Program} {ops : Array Oper} {Le : World → World → Prop} {Q : Act → World → Prop} {a : Act} {w : World} {o : Oper} {rest : List (Bool × Bool × Oper)} {v : Value} (hg : o.guard = none) (hv : ∀ w', Le w w' → First.at_ P o a w' v)
    (hk : ∀ K : Act → World → Prop, (∀ a w, First.wpF P ops Le Q rest a w → K a w) → K (a.put o.dst v) w) : First.wpF P ops Le Q ((true, true, o) :: rest) a w :=
  First.wpF_free fun K hK => by
    rw [if_pos (by unfold Region.wanted; rw [hg])]
    exact ⟨v, hv, hk K hK⟩
end Go.Proofs.YtmfbidhnafpkdaaDoor
