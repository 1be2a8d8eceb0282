import Derived.Test.YtacnfcolkllagaaDoorFu
import Derived.Test.YtacnfcolkllagaaDoorOwn
import Derived.Test.YtacnfcolkllagaaDoorTie
import Derived.Test.YtacnfcolkllagaaDoorCards
import Derived.Deep.DeepHandedRow
import Derived.LaidMore
import Derived.Lay
import Derived.Stop.LaidErr
import Derived.Lib.LaidTab
import Derived.Test.YtacnfcolkllagaaDoorBulk
/-! What the listed variables give; a law whose statement is a card: its walk lifted. -/
namespace Go.Proofs.YtacnfcolkllagaaDoor
open Go.RowKit Go.ChangeShapes Go.WideShapes Go.ChangeAt
set_option linter.unusedVariables false
set_option linter.unusedSimpArgs false
theorem gPow : Tryd.prog.globalNamed "internal/strconv.uint64pow10" = some 0 := by kernel_rfl
theorem gPowT : (Tryd.prog.globals[0]?).map (·.type) = some 65 := by kernel_rfl
theorem gRng : Tryd.prog.globalNamed "strconv.ErrRange" = some 3 := by kernel_rfl
theorem gRngT : (Tryd.prog.globals[3]?).map (·.type) = some 50 := by kernel_rfl
theorem gSyn : Tryd.prog.globalNamed "strconv.ErrSyntax" = some 2 := by kernel_rfl
theorem gSynT : (Tryd.prog.globals[2]?).map (·.type) = some 50 := by kernel_rfl
theorem star : "*" ++ "errors.errorString" = "*errors.errorString" := by decide
theorem rowErr (u : TypeId) (h : Tryd.prog.typeName? 3 u = some "*errors.errorString") : u = 94 :=
  typeName_ptr_named (nm := "errors.errorString") (by rw [star]; kernel_rfl) (by kernel_rfl) (by decide) u (by rw [star]; exact h)
theorem var?_below {P : Program} {B g : Nat} {W W' : World} {n : String} {cs : Array Value} (h : Below B W W') (hg : P.globalNamed n = some g) (hgB : g < B) (hv : W.var? P n = some cs) : W'.var? P n = some cs := by
  unfold World.var? at hv ⊢
  simp only [hg, Option.bind_some] at hv ⊢
  rw [h.block g hgB]
  exact hv
structure Sx (w : World) : Prop where
  big : 8 ≤ w.heap.size
  tab : Lib.TabIs Tryd.prog w "internal/strconv.uint64pow10" .u64 Lib.pow10Tab
  syn : ∃ tp p, w.var? Tryd.prog "strconv.ErrSyntax" = some #[.iface tp p]
  rng : ∃ tp p, w.var? Tryd.prog "strconv.ErrRange" = some #[.iface tp p]
  mx : ∃ m, w.cell? ⟨1, 0, none⟩ = some (.int .i64 m)
theorem Sx.below {w w' : World} (h : Sx w) (hb : Below w.heap.size w w') : Sx w' := by
  obtain ⟨h1, h2, ⟨a, b, h3⟩, ⟨c, d, h4⟩, m, h5⟩ := h
  exact ⟨Nat.le_trans h1 hb.size, var?_below hb gPow (by omega) h2, ⟨a, b, var?_below hb gSyn (by omega) h3⟩, ⟨c, d, var?_below hb gRng (by omega) h4⟩, m, (hb.cell (show 1 < _ by omega)).trans h5⟩
theorem lt_of_var {P : Program} {w : World} {n : String} {g : Nat} {cs : Array Value} (hg : P.globalNamed n = some g) (h : w.var? P n = some cs) : g < w.heap.size := by
  unfold World.var? at h
  simp only [hg, Option.bind_some] at h
  cases hh : w.heap[g]? with
  | none => rw [hh] at h; cases h
  | some o => exact (Array.getElem?_eq_some_iff.1 hh).1
set_option maxRecDepth 100000 in
theorem sx_of_laid {W : World} (h : laidMetH Tryd.prog Rows.stampTextsUptoRow.laid W) (hs : W.ShapedOpen Tryd.prog) : Sx W := by
  obtain ⟨m, hm⟩ := (Tryd.laysM219).s1_3 W hs
  rw [MakeChecks.laidMetH_plain _ _ _ (by kernel_rfl)] at h
  have h2 := h.tail.tail
  have hp := Lib.tabIs_of_head gPow gPowT Tryd.underlying65 Tryd.underlying39 (by kernel_rfl) (by kernel_rfl) (zs := Lib.pow10Tab) h2
  have h3 := h2.tail.tail
  obtain ⟨a, s, hr, _⟩ := laid_sentinel h3 gRng gRngT Tryd.underlying50 rowErr Tryd.underlying94 Tryd.underlying96 rfl rfl Tryd.underlying9 (by kernel_rfl) (by kernel_rfl)
  obtain ⟨a', s', hy, _⟩ := laid_sentinel h3.tail gSyn gSynT Tryd.underlying50 rowErr Tryd.underlying94 Tryd.underlying96 rfl rfl Tryd.underlying9 (by kernel_rfl) (by kernel_rfl)
  have hf := h3.tail.tail
  obtain ⟨ps, ⟨g0, t0, cs0, f0, p0, q0, hg0, ht0, hv0, _⟩, _⟩ := hf
  obtain rfl : 6 = g0 := Option.some.inj ((show Tryd.prog.globalNamed "unicode/utf8.first" = some 6 by kernel_rfl).symm.trans hg0)
  have hacc := h2.tail
  obtain ⟨ps, ⟨g1, t1, cs1, f1, p1, q1, hg1, ht1, hv1, _⟩, _⟩ := hacc
  obtain rfl : 7 = g1 := Option.some.inj ((show Tryd.prog.globalNamed "unicode/utf8.acceptRanges" = some 7 by kernel_rfl).symm.trans hg1)
  exact ⟨lt_of_var hg1 hv1, hp, ⟨_, _, hy⟩, ⟨_, _, hr⟩, m, hm⟩
variable {H : Type} {enc : TypeId × Value → H}
/-- .. where the arguments are within a bound, and the listed variables lie where they were laid. -/
def LawWalkX (enc : TypeId × Value → H) (f : FuncId) (fn : Func) : Prop :=
  ∀ (W : World) (base : Nat) (args : Array Value) (ds : List (DataW H)) (ps : List MemPlace),
    (∀ (j : Nat) t v, fn.params[j]? = some t → args[j]? = some v → Value.okWide Tryd.prog W .any base t v) →
    DataW.TrodAll enc Tryd.prog W 0 (fun _ => true) true fn.params.toList args.toList ds ps → (∀ p ∈ ps, p.block < W.heap.size) → W.noneFrozen ps →
    Rows.uptoSmall H ds = true → (DataW.weightsEach Tryd.prog fn.params.toList ds).all (· ≤ reachBytes) = true → Sx W →
    Calls Tryd.prog f args W fun e W' => e = .returned (.bool true) ∧ Below W.heap.size W W'
theorem law_lifted_x {os : Os} {f : FuncId} {fn : Func} {s : OpenSpec} {s0 : ChangeSpec} {tb : TypeId} (hk : s.cond = some Rows.uptoSmall) {F : Stop.Interp} (hsF : s.at F = s0)
    (own : ownKnob Tryd.prog.godebug = none) (started : os.Started) (noInit : Tryd.prog.inits.idxOf? f = none) (hfn : Tryd.prog.funcs[f]? = some fn)
    (hr : (fn.params.toList.all fun t => Tryd.prog.readableRec t && decide (t < Tryd.prog.types.size)) = true)
    (hres : fn.resultTypes = #[tb]) (hb : Tryd.prog.underlying tb = some .bool) (hv : s0.vars = []) (hsv : s.vars = s0.vars) (hvt : s.bare.plain.varTypes Tryd.prog = [])
    (hs : ∀ ds : List (DataW H), ds.length = fn.params.size → s0.fn H ds = { results := [.lit (.bool true)], args := ds })
    (witness : ∃ (w : World) (tape : Tape) (i : Input), w.os = os ∧ (w.forCall tape i).Shaped Tryd.checked.prog ∧ i.vars = [] ∧ Input.okWide Tryd.checked.prog (w.forCall tape i) .any w.heap.size f i ∧
      s.preRow enc Tryd.checked.prog fn [] false Rows.stampTextsUptoRow.laid (w.forCall tape i).memory i.args ∧ Assume.holds {} Tryd.checked.prog (lone (Frame.enter Tryd.checked.prog f i.args .normal) [] (w.forCall tape i)))
    (walk : LawWalkX enc f fn) :
    ReturnsInHanded {} Tryd.checked os f .any (s.preRow enc Tryd.checked.prog fn [] false Rows.stampTextsUptoRow.laid) ((s.at F).post enc Tryd.checked.prog fn false true false false) := by
  refine returnsInHanded_of_row own started noInit hfn witness ?_
  intro W base args ds gs before hval hW _ hkk hsz hL hsh _
  rw [hsv] at hW
  have hW' := hW
  have hlt : ∀ p ∈ before, p.block < W.heap.size := fun p hp => hW'.lt p hp
  obtain ⟨p, q, hA, hV, hpq, hfz, hnd⟩ := hW
  rw [hv] at hV
  obtain ⟨rfl, rfl⟩ := trodVars_none hV
  have hkk := hkk _ hk
  simp only [List.append_nil] at hpq hkk
  subst hpq
  have hvt' : s.bare.plain.varTypes Tryd.checked.prog = [] := hvt
  rw [hvt', List.append_nil, List.append_nil] at hsz
  refine (walk W base args ds before hval hA hlt hfz hkk hsz (sx_of_laid hL hsh)).mono fun e W' ⟨he, hg⟩ => ?_
  rw [hsF]
  exact ⟨_, he, law_post (C := Tryd.checked) laidOut hr hres hb hv hs hW' hg⟩
end Go.Proofs.YtacnfcolkllagaaDoor
