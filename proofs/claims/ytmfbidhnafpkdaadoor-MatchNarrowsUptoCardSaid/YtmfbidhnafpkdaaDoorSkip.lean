import Derived.Test.YtmfbidhnafpkdaaDoorFirst
/-! An operation that is not wanted, in the walks of a region that draws. -/
namespace Go.Proofs.YtmfbidhnafpkdaaDoor
open Go.RowKit
theorem quiet_skip {P : Program} {ops : Array Oper} {C : World → Prop} {Q : Act → Prop} {a b : Act} {o : Oper} {rest : List Oper} (h : Region.wanted o (yielded ops a.tmps) = false) (hb : a.put o.dst undef = b) (hk : wpQuiet P ops C Q rest b) : wpQuiet P ops C Q (o :: rest) a :=
  wpQuiet_step fun K hK => by rw [h]; exact hb ▸ hK _ (hb ▸ hk)
theorem quiet_skipN {P : Program} {ops : Array Oper} {C : World → Prop} {Q : Act → Prop} {a : Act} {o : Oper} {rest : List Oper} (h : Region.wanted o (yielded ops a.tmps) = false) (hk : ∀ K : Act → Prop, (∀ a, wpQuiet P ops C Q rest a → K a) → K (a.put o.dst undef)) : wpQuiet P ops C Q (o :: rest) a :=
  quiet_skip h rfl (hk _ fun _ h => h)
theorem first_skip {P : Program} {ops : Array Oper} {Le : World → World → Prop} {Q : Act → World → Prop} {a b : Act} {w : World} {o : Oper} {f : Bool} {rest : List (Bool × Bool × Oper)} (h : Region.wanted o (yielded ops a.tmps) = false) (hb : a.put o.dst undef = b) (hk : First.wpF P ops Le Q rest b w) : First.wpF P ops Le Q ((true, f, o) :: rest) a w := by
  cases f
  · exact First.wpF_pure fun K hK => by rw [h]; exact hb ▸ hK _ _ (hb ▸ hk)
  · exact First.wpF_free fun K hK => by rw [h]; exact hb ▸ hK _ _ (hb ▸ hk)
theorem first_skipN {P : Program} {ops : Array Oper} {Le : World → World → Prop} {Q : Act → World → Prop} {a : Act} {w : World} {o : Oper} {f : Bool} {rest : List (Bool × Bool × Oper)} (h : Region.wanted o (yielded ops a.tmps) = false) (hk : ∀ K : Act → World → Prop, (∀ a w, First.wpF P ops Le Q rest a w → K a w) → K (a.put o.dst undef) w) : First.wpF P ops Le Q ((true, f, o) :: rest) a w :=
  first_skip h rfl (hk _ fun _ _ h => h)
end Go.Proofs.YtmfbidhnafpkdaaDoor
