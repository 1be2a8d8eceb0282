import Derived.Test.YtmfbidhnafpkdaaDoorSm
import Derived.Test.YtmfbidhnafpkdaaDoorTie
import Derived.Test.YtmfbidhnafpkdaaDoorCards
import Derived.Deep.DeepHandedRow
import Derived.LaidMore
import Derived.Test.YtmfbidhnafpkdaaDoorBulk
import Derived.Test.YtmfbidhnafpkdaaDoorOwn
/-! A law whose statement is a card: its walk lifted. -/
namespace Go.Proofs.YtmfbidhnafpkdaaDoor
open Go.RowKit Go.ChangeShapes Go.WideShapes Go.ChangeAt
set_option linter.unusedVariables false
set_option linter.unusedSimpArgs false
variable {H : Type} {enc : TypeId × Value → H}
def signsD : List (String × DataW Unit) := [("slackwater/match.signs", Rows.laid_slackwater_match_signs)]
theorem gSigns : Tryd.prog.globalNamed "slackwater/match.signs" = some 0 := by kernel_rfl
theorem tSigns : (Tryd.prog.globals[0]?).map (·.type) = some 58 := by kernel_rfl
theorem door_met (os : Os) (args : Array Value) : laidMetH Tryd.prog signsD ((World.doorLaid Tryd.prog 14 os).forCall (fun _ _ => 0) ⟨#[], args, []⟩).memory :=
  laidMetH_of_parts3 (fuel := 8) (laidMet_of_run' 8 (by kernel_rfl) (by kernel_rfl)) (by kernel_rfl) (by kernel_rfl)
theorem door_plain (os : Os) (args : Array Value) : laidMet Tryd.prog signsD ((World.doorLaid Tryd.prog 14 os).forCall (fun _ _ => 0) ⟨#[], args, []⟩).memory :=
  laidMet_of_run' 8 (by kernel_rfl) (by kernel_rfl)
/-- .. where the arguments are within a bound, and the signs lie where they were laid. -/
def LawWalkD (enc : TypeId × Value → H) (f : FuncId) (fn : Func) : Prop :=
  ∀ (W : World) (base : Nat) (args : Array Value) (ds : List (DataW H)) (ps : List MemPlace),
    (∀ (j : Nat) t v, fn.params[j]? = some t → args[j]? = some v → Value.okWide Tryd.prog W .any base t v) →
    DataW.TrodAll enc Tryd.prog W 0 (fun _ => true) true fn.params.toList args.toList ds ps → (∀ p ∈ ps, p.block < W.heap.size) → W.noneFrozen ps →
    Rows.uptoSmall H ds = true → (DataW.weightsEach Tryd.prog fn.params.toList ds).all (· ≤ reachBytes) = true → Sg W →
    Calls Tryd.prog f args W fun e W' => e = .returned (.bool true) ∧ Below W.heap.size W W'
theorem sg_of_laid {W : World} (h : laidMetH Tryd.prog signsD W) (hs : W.ShapedOpen Tryd.prog) : Sg W := by
  obtain ⟨m, hm⟩ := (Tryd.laysM219).s1_3 W hs
  rw [MakeChecks.laidMetH_plain _ _ _ (by kernel_rfl)] at h
  obtain ⟨ps, ⟨g0, t0, cs0, f0, p0, q0, hg0, ht0, hv0, hd0, _, _⟩, _, _⟩ := h
  obtain rfl := Option.some.inj (gSigns.symm.trans hg0)
  obtain rfl := Option.some.inj (tSigns.symm.trans ht0)
  obtain ⟨xs, m1, rfl, hx1, hlen, hn5, hel⟩ := DataW.trod_array Tryd.underlying58 hd0
  have c9 : Tryd.prog.cellsOf 9 = 1 := by kernel_rfl
  have hc : ∀ k, W.cell? ⟨0, k, none⟩ = cs0[k]? := fun k => World.var?_cell hg0 hv0 k
  refine ⟨?_, ?_, m, hm⟩
  · have hm' : W.cell? ⟨1, 0, none⟩ = some (.int .i64 m) := hm
    cases h1 : W.heap[1]? with
    | none => simp [World.cell?, h1] at hm'
    | some o => exact (Array.getElem?_eq_some_iff.1 h1).1
  · intro k hk
    have hk5 : k < 5 := by omega
    have h1 := hel k hk5
    rw [c9, Nat.mul_one] at h1
    obtain ⟨x, hx⟩ : ∃ x, xs[k]? = some x := ⟨_, List.getElem?_eq_getElem (by omega)⟩
    rw [hx] at h1
    obtain ⟨s, e1, e2, _⟩ := DataW.trod_string Tryd.underlying9 h1
    have hcs : cs0[k]? = some (.string s) := by
      have := congrArg (fun l => l[0]?) e1
      simp only [List.getElem?_take, List.getElem?_drop] at this
      simpa using this
    rw [hc, hcs]
    congr 2
    have hd : (xs.map (·.1))[k]? = some (.lit (.string s.data.toList)) := by rw [List.getElem?_map, hx, e2]; rfl
    have hl : xs.map (·.1) = [.lit (.string []), .lit (.string [61]), .lit (.string [33, 61]), .lit (.string [94, 61]), .lit (.string [42, 61])] := by
      have := congrArg Prod.fst hx1
      simp only [Rows.laid_slackwater_match_signs, DataW.agg.injEq] at this
      exact this.symm
    rw [hl] at hd
    have hsl : s.data.toList = sgB k := by
      have : k = 0 ∨ k = 1 ∨ k = 2 ∨ k = 3 ∨ k = 4 := by omega
      rcases this with e | e | e | e | e <;> subst e <;> (have h := Option.some.inj hd; injection h with h; injection h with h; exact h.symm)
    rw [← Lib.mk_data s, hsl]
    rfl
theorem law_lifted_door {os : Os} {f : FuncId} {fn : Func} {s : OpenSpec} {s0 : ChangeSpec} {tb : TypeId} (hk : s.cond = some Rows.uptoSmall) {F : Stop.Interp} (hsF : s.at F = s0)
    (own : ownKnob Tryd.prog.godebug = none) (started : os.Started) (noInit : Tryd.prog.inits.idxOf? f = none) (hfn : Tryd.prog.funcs[f]? = some fn)
    (hr : (fn.params.toList.all fun t => Tryd.prog.readableRec t && decide (t < Tryd.prog.types.size)) = true)
    (hres : fn.resultTypes = #[tb]) (hb : Tryd.prog.underlying tb = some .bool) (hv : s0.vars = []) (hsv : s.vars = s0.vars) (hvt : s.bare.plain.varTypes Tryd.prog = [])
    (hs : ∀ ds : List (DataW H), ds.length = fn.params.size → s0.fn H ds = { results := [.lit (.bool true)], args := ds })
    (witness : ∃ (w : World) (tape : Tape) (i : Input), w.os = os ∧ (w.forCall tape i).Shaped Tryd.checked.prog ∧ i.vars = [] ∧ Input.okWide Tryd.checked.prog (w.forCall tape i) .any w.heap.size f i ∧
      s.preRow enc Tryd.checked.prog fn [] false signsD (w.forCall tape i).memory i.args ∧ Assume.holds {} Tryd.checked.prog (lone (Frame.enter Tryd.checked.prog f i.args .normal) [] (w.forCall tape i)))
    (walk : LawWalkD enc f fn) :
    ReturnsInHanded {} Tryd.checked os f .any (s.preRow enc Tryd.checked.prog fn [] false signsD) ((s.at F).post enc Tryd.checked.prog fn false true false false) := by
  refine returnsInHanded_of_row own started noInit hfn witness ?_
  intro W base args ds gs before hval hW _ hkk hsz hL hsh _
  rw [hsv] at hW
  have hW' := hW
  have hlt : ∀ p ∈ before, p.block < W.heap.size := fun p hp => hW'.lt p hp
  obtain ⟨p, q, hA, hV, hpq, hfz, hnd⟩ := hW
  rw [hv] at hV
  obtain ⟨rfl, rfl⟩ := trodVars_none hV
  have hkk := hkk _ hk
  simp only [List.append_nil] at hpq hkk
  subst hpq
  have hvt' : s.bare.plain.varTypes Tryd.checked.prog = [] := hvt
  rw [hvt', List.append_nil, List.append_nil] at hsz
  refine (walk W base args ds before hval hA hlt hfz hkk hsz (sg_of_laid hL hsh)).mono fun e W' ⟨he, hg⟩ => ?_
  rw [hsF]
  exact ⟨_, he, law_post (C := Tryd.checked) laidOut hr hres hb hv hs hW' hg⟩
theorem door_witness {os : Os} {f : FuncId} {fn : Func} {s : OpenSpec} (args : Array Value)
    (hv : ((World.doorLaid Tryd.prog 14 os).forCall (fun _ _ => 0) ⟨#[], args, []⟩).variablesB Tryd.prog = true)
    (hr : (((World.doorLaid Tryd.prog 14 os).forCall (fun _ _ => 0) ⟨#[], args, []⟩).heap.toList.drop Tryd.prog.globals.size).take ((begin Tryd.prog (fun _ _ => 0) default).world.heap.size - Tryd.prog.globals.size) =
      (begin Tryd.prog (fun _ _ => 0) default).world.heap.toList.drop Tryd.prog.globals.size)
    (hok : Input.okWideB Tryd.prog ((World.doorLaid Tryd.prog 14 os).forCall (fun _ _ => 0) ⟨#[], args, []⟩) f ⟨#[], args, []⟩ = true)
    (hrow : s.preRow enc Tryd.prog fn [] false signsD ((World.doorLaid Tryd.prog 14 os).forCall (fun _ _ => 0) ⟨#[], args, []⟩).memory args) :
    ∃ (w : World) (tape : Tape) (i : Input), w.os = os ∧ (w.forCall tape i).Shaped Tryd.checked.prog ∧ i.vars = [] ∧ Input.okWide Tryd.checked.prog (w.forCall tape i) .any w.heap.size f i ∧
      s.preRow enc Tryd.checked.prog fn [] false signsD (w.forCall tape i).memory i.args ∧ Assume.holds {} Tryd.checked.prog (lone (Frame.enter Tryd.checked.prog f i.args .normal) [] (w.forCall tape i)) :=
  witness_row_at (C := Tryd.checked) false (World.doorLaid Tryd.prog 14 os) args rfl hv hr hok hrow
end Go.Proofs.YtmfbidhnafpkdaaDoor
