import Derived.Test.YtamnononemallaaDoorGC
import Derived.Test.YtamnononemallaaDoorGA
import Derived.Test.YtamnononemallaaDoorTie
import Derived.Test.YtamnononemallaaDoorCards
import Derived.Deep.DeepHandedRow
import Derived.LaidMore
import Derived.Lay
import Derived.Stop.LaidErr
import Derived.Lib.LaidTab
import Derived.Test.YtamnononemallaaDoorGQ
import Derived.WalkSpells
import Derived.WalkLawsBesides
import Derived.WalkMore
/-! Several texts in one. -/
set_option linter.unusedVariables false
set_option linter.unusedSimpArgs false
/-! What the listed variables give; a law whose statement is a card: its walk lifted. -/
namespace Go.Proofs.YtamnononemallaaDoor
open Go.RowKit Go.ChangeShapes Go.WideShapes Go.ChangeAt
def laidQ : List (String × DataW Unit) := Rows.askBackUptoRow.laid
theorem gPow : Tryd.prog.globalNamed "internal/strconv.uint64pow10" = some 2 := by kernel_rfl
theorem gPowT : (Tryd.prog.globals[2]?).map (·.type) = some 97 := by kernel_rfl
theorem gRng : Tryd.prog.globalNamed "strconv.ErrRange" = some 5 := by kernel_rfl
theorem gRngT : (Tryd.prog.globals[5]?).map (·.type) = some 66 := by kernel_rfl
theorem gSyn : Tryd.prog.globalNamed "strconv.ErrSyntax" = some 4 := by kernel_rfl
theorem gSynT : (Tryd.prog.globals[4]?).map (·.type) = some 66 := by kernel_rfl
theorem gSigns : Tryd.prog.globalNamed "slackwater/match.signs" = some 1 := by kernel_rfl
theorem tSigns : (Tryd.prog.globals[1]?).map (·.type) = some 70 := by kernel_rfl
theorem gWords : Tryd.prog.globalNamed "slackwater/ask.words" = some 0 := by kernel_rfl
theorem tWords : (Tryd.prog.globals[0]?).map (·.type) = some 39 := by kernel_rfl
theorem star : "*" ++ "errors.errorString" = "*errors.errorString" := by decide
theorem rowErr (u : TypeId) (h : Tryd.prog.typeName? 3 u = some "*errors.errorString") : u = 125 :=
  typeName_ptr_named (nm := "errors.errorString") (by rw [star]; kernel_rfl) (by kernel_rfl) (by decide) u (by rw [star]; exact h)
theorem var?_below {P : Program} {B g : Nat} {W W' : World} {n : String} {cs : Array Value} (h : Below B W W') (hg : P.globalNamed n = some g) (hgB : g < B) (hv : W.var? P n = some cs) : W'.var? P n = some cs := by
  unfold World.var? at hv ⊢
  simp only [hg, Option.bind_some] at hv ⊢
  rw [h.block g hgB]
  exact hv
theorem lt_of_var {P : Program} {w : World} {n : String} {g : Nat} {cs : Array Value} (hg : P.globalNamed n = some g) (h : w.var? P n = some cs) : g < w.heap.size := by
  unfold World.var? at h
  simp only [hg, Option.bind_some] at h
  cases hh : w.heap[g]? with
  | none => rw [hh] at h; cases h
  | some o => exact (Array.getElem?_eq_some_iff.1 hh).1
structure Sx (w : World) : Prop where
  sg : Sg w
  tab : Lib.TabIs Tryd.prog w "internal/strconv.uint64pow10" .u64 Lib.pow10Tab
  syn : ∃ tp p, w.var? Tryd.prog "strconv.ErrSyntax" = some #[.iface tp p]
  rng : ∃ tp p, w.var? Tryd.prog "strconv.ErrRange" = some #[.iface tp p]
  wds : ∀ k, k ≤ 5 → w.cell? ⟨0, k, none⟩ = some (.string ⟨(wordB k).toArray⟩)
theorem Sx.below {w w' : World} (h : Sx w) (hb : Below w.heap.size w w') : Sx w' := by
  obtain ⟨hs, h2, ⟨a, b, h3⟩, ⟨c, d, h4⟩, h5⟩ := h
  have h1 := hs.big
  exact ⟨hs.below hb, var?_below hb gPow (by omega) h2, ⟨a, b, var?_below hb gSyn (by omega) h3⟩, ⟨c, d, var?_below hb gRng (by omega) h4⟩, fun k hk => (hb.cell (show 0 < _ by omega)).trans (h5 k hk)⟩
/-- A laid array of texts. -/
theorem strs_laid {W : World} {n : String} {g : Nat} {t : TypeId} {L : List (List UInt8)} {rest : List (String × DataW Unit)} (hg : Tryd.prog.globalNamed n = some g) (ht : (Tryd.prog.globals[g]?).map (·.type) = some t) (hu : Tryd.prog.underlying t = some (.array L.length 9))
    (h : laidMet Tryd.prog ((n, .agg (L.map fun s => .lit (.string s))) :: rest) W) : ∀ (k : Nat) (s : List UInt8), L[k]? = some s → W.cell? ⟨g, k, none⟩ = some (.string ⟨s.toArray⟩) := by
  obtain ⟨ps, ⟨g0, t0, cs0, f0, p0, q0, hg0, ht0, hv0, hd0, _, _⟩, _, _⟩ := h
  obtain rfl := Option.some.inj (hg.symm.trans hg0)
  obtain rfl := Option.some.inj (ht.symm.trans ht0)
  obtain ⟨xs, m1, rfl, hx1, hlen, hn5, hel⟩ := DataW.trod_array hu hd0
  have c9 : Tryd.prog.cellsOf 9 = 1 := by kernel_rfl
  have hc : ∀ k, W.cell? ⟨g, k, none⟩ = cs0[k]? := fun k => World.var?_cell hg0 hv0 k
  intro k s hs
  have hk5 : k < L.length := (List.getElem?_eq_some_iff.1 hs).1
  have h1 := hel k hk5
  rw [c9, Nat.mul_one] at h1
  obtain ⟨x, hx⟩ : ∃ x, xs[k]? = some x := ⟨_, List.getElem?_eq_getElem (by omega)⟩
  rw [hx] at h1
  obtain ⟨s', e1, e2, _⟩ := DataW.trod_string Tryd.underlying9 h1
  have hcs : cs0[k]? = some (.string s') := by
    have := congrArg (fun l => l[0]?) e1
    simp only [List.getElem?_take, List.getElem?_drop] at this
    simpa using this
  have hd : (xs.map (·.1))[k]? = some (.lit (.string s'.data.toList)) := by rw [List.getElem?_map, hx, e2]; rfl
  have hl : xs.map (·.1) = L.map fun s => .lit (.string s) := by
    have := congrArg Prod.fst hx1
    simp only [DataW.agg.injEq] at this
    exact this.symm
  rw [hl, List.getElem?_map, hs] at hd
  simp only [Option.map_some, Option.some.injEq, DataW.lit.injEq, Lit.string.injEq] at hd
  have he : s' = ⟨s.toArray⟩ := by rw [← Lib.mk_data s', ← hd]
  rw [hc, hcs, he]
set_option maxRecDepth 100000 in
theorem sx_of_laid {W : World} (h : laidMetH Tryd.prog laidQ W) (hs : W.ShapedOpen Tryd.prog) : Sx W := by
  obtain ⟨m, hm⟩ := (Tryd.laysM219).s1_3 W hs
  rw [MakeChecks.laidMetH_plain _ _ _ (by kernel_rfl)] at h
  have h2 := h.tail.tail
  have hp := Lib.tabIs_of_head gPow gPowT Tryd.underlying97 Tryd.underlying85 (by kernel_rfl) (by kernel_rfl) (zs := Lib.pow10Tab) h2
  have h3 := h2.tail.tail
  obtain ⟨a, s, hr, _⟩ := laid_sentinel h3 gRng gRngT Tryd.underlying66 rowErr Tryd.underlying125 Tryd.underlying127 rfl rfl Tryd.underlying9 (by kernel_rfl) (by kernel_rfl)
  obtain ⟨a', s', hy, _⟩ := laid_sentinel h3.tail gSyn gSynT Tryd.underlying66 rowErr Tryd.underlying125 Tryd.underlying127 rfl rfl Tryd.underlying9 (by kernel_rfl) (by kernel_rfl)
  have hf := h3.tail.tail
  have hsg := strs_laid (L := [[], [61], [33, 61], [94, 61], [42, 61]]) gSigns tSigns Tryd.underlying70 hf
  have hwd := strs_laid (L := [wordB 0, wordB 1, wordB 2, wordB 3, wordB 4, wordB 5]) gWords tWords Tryd.underlying39 hf.tail
  obtain ⟨ps2, ⟨g2, t2, cs2, f2, p2, q2, hg2, ht2, hv2, _⟩, _⟩ := h2.tail
  obtain rfl : 9 = g2 := Option.some.inj ((show Tryd.prog.globalNamed "unicode/utf8.acceptRanges" = some 9 by kernel_rfl).symm.trans hg2)
  have big : 8 < W.heap.size := by have : 9 < W.heap.size := lt_of_var hg2 hv2; omega
  refine ⟨⟨big, fun k hk => ?_, m, hm⟩, hp, ⟨_, _, hy⟩, ⟨_, _, hr⟩, fun k hk => ?_⟩
  · have : k = 0 ∨ k = 1 ∨ k = 2 ∨ k = 3 ∨ k = 4 := by omega
    rcases this with rfl | rfl | rfl | rfl | rfl <;> exact hsg _ _ rfl
  · have : k = 0 ∨ k = 1 ∨ k = 2 ∨ k = 3 ∨ k = 4 ∨ k = 5 := by omega
    rcases this with rfl | rfl | rfl | rfl | rfl | rfl <;> exact hwd _ _ rfl
variable {H : Type} {enc : TypeId × Value → H}
/-- .. where the arguments are within a bound, and the listed variables lie where they were laid. -/
def LawWalkX (enc : TypeId × Value → H) (f : FuncId) (fn : Func) : Prop :=
  ∀ (W : World) (base : Nat) (args : Array Value) (ds : List (DataW H)) (ps : List MemPlace),
    (∀ (j : Nat) t v, fn.params[j]? = some t → args[j]? = some v → Value.okWide Tryd.prog W .any base t v) →
    DataW.TrodAll enc Tryd.prog W 0 (fun _ => true) true fn.params.toList args.toList ds ps → (∀ p ∈ ps, p.block < W.heap.size) → W.noneFrozen ps →
    Rows.uptoSmall H ds = true → (DataW.weightsEach Tryd.prog fn.params.toList ds).all (· ≤ reachBytes) = true → Sx W →
    Calls Tryd.prog f args W fun e W' => e = .returned (.bool true) ∧ Below W.heap.size W W'
set_option maxRecDepth 100000 in
theorem law_lifted_x {os : Os} {f : FuncId} {fn : Func} {s : OpenSpec} {s0 : ChangeSpec} {tb : TypeId} (hk : s.cond = some Rows.uptoSmall) {F : Stop.Interp} (hsF : s.at F = s0)
    (own : ownKnob Tryd.prog.godebug = none) (started : os.Started) (noInit : Tryd.prog.inits.idxOf? f = none) (hfn : Tryd.prog.funcs[f]? = some fn)
    (hr : (fn.params.toList.all fun t => Tryd.prog.readableRec t && decide (t < Tryd.prog.types.size)) = true)
    (hres : fn.resultTypes = #[tb]) (hb : Tryd.prog.underlying tb = some .bool) (hv : s0.vars = []) (hsv : s.vars = s0.vars) (hvt : s.bare.plain.varTypes Tryd.prog = [])
    (hs : ∀ ds : List (DataW H), ds.length = fn.params.size → s0.fn H ds = { results := [.lit (.bool true)], args := ds })
    (witness : ∃ (w : World) (tape : Tape) (i : Input), w.os = os ∧ (w.forCall tape i).Shaped Tryd.checked.prog ∧ i.vars = [] ∧ Input.okWide Tryd.checked.prog (w.forCall tape i) .any w.heap.size f i ∧
      s.preRow enc Tryd.checked.prog fn [] false laidQ (w.forCall tape i).memory i.args ∧ Assume.holds {} Tryd.checked.prog (lone (Frame.enter Tryd.checked.prog f i.args .normal) [] (w.forCall tape i)))
    (walk : LawWalkX enc f fn) :
    ReturnsInHanded {} Tryd.checked os f .any (s.preRow enc Tryd.checked.prog fn [] false laidQ) ((s.at F).post enc Tryd.checked.prog fn false true false false) := by
  refine returnsInHanded_of_row own started noInit hfn witness ?_
  intro W base args ds gs before hval hW _ hkk hsz hL hsh _
  rw [hsv] at hW
  have hW' := hW
  have hlt : ∀ p ∈ before, p.block < W.heap.size := fun p hp => hW'.lt p hp
  obtain ⟨p, q, hA, hV, hpq, hfz, hnd⟩ := hW
  rw [hv] at hV
  obtain ⟨rfl, rfl⟩ := trodVars_none hV
  have hkk := hkk _ hk
  simp only [List.append_nil] at hpq hkk
  subst hpq
  have hvt' : s.bare.plain.varTypes Tryd.checked.prog = [] := hvt
  rw [hvt', List.append_nil, List.append_nil] at hsz
  refine (walk W base args ds before hval hA hlt hfz hkk hsz (sx_of_laid hL hsh)).mono fun e W' ⟨he, hg⟩ => ?_
  rw [hsF]
  exact ⟨_, he, law_post (C := Tryd.checked) laidOut hr hres hb hv hs hW' hg⟩
end Go.Proofs.YtamnononemallaaDoor

/-! A part of a stamp's text. -/
namespace Go.Proofs.YtamnononemallaaDoor
open Go.RowKit
theorem eqB9 (a b : ByteArray) : (a.toList == b.toList) = decide (a.data.toList = b.data.toList) := by
  rw [ByteArray.toList_eq, ByteArray.toList_eq, Bool.eq_iff_iff]
  simp
end Go.Proofs.YtamnononemallaaDoor

/-! The number that a word is: the program's. -/
namespace Go.Proofs.YtamnononemallaaDoor
open Go.RowKit
theorem grow_below (w : World) (k : Nat) (os : Array Obj) : Below w.heap.size w (Sort.grow (w.drewN k) os) := by
  refine ⟨rfl, rfl, rfl, ?_, fun j hj => ?_⟩
  · simp [Sort.grow]
  · have e : (w.drewN k).heap = w.heap := by first | rfl | simp
    show ((w.drewN k).heap ++ os)[j]? = _
    rw [e, Array.getElem?_append_left hj]
/-- strconv.ParseInt at base 10, 64 bits. -/
theorem pi_any (s : ByteArray) (hs : s.size ≤ 281474976710656) (w : World) (hx : Sx w) :
    Calls Tryd.prog 38 #[.string s, .int .i64 10, .int .i64 64] w fun e w' => (∃ v, e = .returned (.tuple #[.int .i64 (intP s.data.toList).1, v]) ∧ (match Lib.parseIntB 64 s.data.toList with | .ok _ => v = .nilIface | _ => ∃ t p, v = .iface t (.pointer p))) ∧ Below w.heap.size w w' := by
  unfold intP
  cases h : Lib.parseIntB 64 s.data.toList with
  | ok u =>
    refine (Tryd.strconv_ParseInt_10_at64_ok s (by omega) u h w).mono ?_
    rintro e w' ⟨rfl, hw⟩
    refine ⟨⟨_, rfl, rfl⟩, ?_⟩
    rcases hw with rfl | ⟨t, rfl⟩
    · exact Below.refl _ _
    · exact Lib.bytesWorld_below _ _ _
  | range =>
    obtain ⟨tp, p, hv⟩ := hx.rng
    refine (Tryd.strconv_ParseInt_10_at64_range_var s hs h tp p w hv).mono ?_
    rintro e w' ⟨N, rfl, _, _, hb⟩
    exact ⟨⟨_, rfl, _, _, rfl⟩, hb⟩
  | _ =>
    obtain ⟨tp, p, hv⟩ := hx.syn
    refine (Any.strconv_ParseInt_10_at64_syntax_var Tryd.laysC174 s hs h tp p w hv).mono ?_
    rintro e w' ⟨N, rfl, _, _, hb⟩
    exact ⟨⟨_, rfl, _, _, rfl⟩, hb⟩
theorem fi_any (n : Int) (h0 : -9223372036854775808 ≤ n) (h1 : n ≤ 9223372036854775807) (w : World) (hx : Sx w) :
    Calls Tryd.prog 13 #[.int .i64 n, .int .i64 10] w fun e w' => e = .returned (.string ⟨(Lib.itoa n).toArray⟩) ∧ Below w.heap.size w w' := by
  refine (Tryd.strconv_FormatInt_10 n h0 h1 w hx.tab).mono ?_
  rintro e w' ⟨rfl, k, os, rfl⟩
  exact ⟨rfl, grow_below w k os⟩
theorem intP_le (l : List UInt8) : -9223372036854775808 ≤ (intP l).1 ∧ (intP l).1 ≤ 9223372036854775807 := by
  unfold intP
  cases h : Lib.parseIntB 64 l with
  | ok v => exact parseInt_le h
  | range =>
    dsimp only
    unfold Lib.intSat
    split <;> simp
  | _ => show (-9223372036854775808 : Int) ≤ 0 ∧ (0 : Int) ≤ 9223372036854775807; omega
set_option maxRecDepth 100000 in
set_option maxHeartbeats 4000000 in
theorem anum_any (s : ByteArray) (hs : s.size ≤ 281474976710656) (w : World) (hx : Sx w) :
    Calls Tryd.prog 21 #[.string s] w fun e w' => e = .returned (.tuple #[.int .i64 (intP s.data.toList).1, .bool (intP s.data.toList).2]) ∧ Below w.heap.size w w' := by
  have hP := pi_any s hs w hx
  have hle := intP_le s.data.toList
  obtain ⟨u, hu⟩ : ∃ u, (intP s.data.toList).1 = u := ⟨_, rfl⟩
  obtain ⟨b, hb⟩ : ∃ b, (intP s.data.toList).2 = b := ⟨_, rfl⟩
  rw [hu] at hP hle
  rw [hu, hb]
  have hF := fun w (hx : Sx w) => fi_any u hle.1 hle.2 w hx
  cases h : Lib.parseIntB 64 s.data.toList with
  | ok n =>
    have e1 : u = n := by rw [← hu]; unfold intP; rw [h]
    have e2 : b = (decide (Lib.itoa u = s.data.toList) && decide (0 ≤ u)) := by rw [← hb, e1]; unfold intP; rw [h]
    rw [h] at hP
    have hq := eqB9 ⟨(Lib.itoa u).toArray⟩ s
    simp only [List.toList_toArray] at hq
    obtain ⟨tx, htx⟩ : ∃ tx, (⟨(Lib.itoa u).toArray⟩ : ByteArray) = tx := ⟨_, rfl⟩
    simp only [htx] at hF hq
    clear hu hb e1 h hle
    by_cases hi : Lib.itoa u = s.data.toList
    · rw [decide_eq_true hi] at hq e2
      clear hi
      by_cases h0 : 0 ≤ u
      · rw [decide_eq_true h0] at e2
        have d0 : decide (0 ≤ u) = true := decide_eq_true h0
        obtain rfl : b = true := e2
        go_enter Tryd.func21, Tryd.ntmps21
        go_wp2_with (first
          | (go_at_call 38; (with_reducible refine hP.mono ?_); rintro e w1 ⟨⟨v, rfl, hv⟩, hb1⟩; obtain rfl : v = .nilIface := hv; have hF1 := hF w1 (hx.below hb1))
          | (go_at_call 13; (with_reducible refine hF1.mono ?_); rintro e w2 ⟨rfl, hb2⟩))
        refine bodyPost_ret (v := .tuple #[.int .i64 u, .bool true]) (by simp [results, Tryd.results21, go_sem] <;> rfl) rfl ⟨rfl, hb1.trans (hb2.mono hb1.size)⟩
      · rw [decide_eq_false h0] at e2
        have d0 : decide (0 ≤ u) = false := decide_eq_false h0
        obtain rfl : b = false := e2
        go_enter Tryd.func21, Tryd.ntmps21
        go_wp2_with (first
          | (go_at_call 38; (with_reducible refine hP.mono ?_); rintro e w1 ⟨⟨v, rfl, hv⟩, hb1⟩; obtain rfl : v = .nilIface := hv; have hF1 := hF w1 (hx.below hb1))
          | (go_at_call 13; (with_reducible refine hF1.mono ?_); rintro e w2 ⟨rfl, hb2⟩))
        refine bodyPost_ret (v := .tuple #[.int .i64 u, .bool false]) (by simp [results, Tryd.results21, go_sem] <;> rfl) rfl ⟨rfl, hb1.trans (hb2.mono hb1.size)⟩
    · rw [decide_eq_false hi] at hq e2
      obtain rfl : b = false := e2
      clear hi
      go_enter Tryd.func21, Tryd.ntmps21
      go_wp2_with (first
        | (go_at_call 38; (with_reducible refine hP.mono ?_); rintro e w1 ⟨⟨v, rfl, hv⟩, hb1⟩; obtain rfl : v = .nilIface := hv; have hF1 := hF w1 (hx.below hb1))
        | (go_at_call 13; (with_reducible refine hF1.mono ?_); rintro e w2 ⟨rfl, hb2⟩))
      refine bodyPost_ret (v := .tuple #[.int .i64 u, .bool false]) (by simp [results, Tryd.results21, go_sem] <;> rfl) rfl ⟨rfl, hb1.trans (hb2.mono hb1.size)⟩
  | _ =>
    have e2 : b = false := by rw [← hb]; unfold intP; rw [h]
    subst e2
    rw [h] at hP
    clear hu hb h hle hF
    go_enter Tryd.func21, Tryd.ntmps21
    go_wp2_with (first
      | (go_at_call 38; (with_reducible refine hP.mono ?_); rintro e w1 ⟨⟨v, rfl, hv⟩, hb1⟩; obtain ⟨t, p, rfl⟩ := hv))
    refine bodyPost_ret (v := .tuple #[.int .i64 u, .bool false]) (by simp [results, Tryd.results21, go_sem] <;> rfl) rfl ⟨rfl, hb1⟩
end Go.Proofs.YtamnononemallaaDoor

/-! The op whose word a text is: slices.Index over the words. -/
namespace Go.Proofs.YtamnononemallaaDoor
open Go.RowKit
def opI (w : List UInt8) : Int := match opW w with
  | some k => k
  | none => -1
set_option maxRecDepth 100000 in
set_option maxHeartbeats 4000000 in
theorem index_any (s : ByteArray) (w : World) (hx : Sx w) :
    Calls Tryd.prog 17 #[.slice (some ⟨0, 0, none⟩) 6 6, .string s] w fun e w' => e = .returned (.int .i64 (opI s.data.toList)) ∧ w' = w := by
  obtain ⟨R, hR⟩ : ∃ R, opI s.data.toList = R := ⟨_, rfl⟩
  have hW := hx.wds
  rw [hR]
  go_enter Tryd.func17, Tryd.ntmps17
  go_wp2
  go_loopw [8] (fun s8 wr => ∃ k : Nat, k ≤ 6 ∧ s8 = .int .i64 (k : Int) ∧ (∀ j, j < k → s.data.toList ≠ wordB j) ∧ wr = w) (fun s8 _ => (6 - intOf s8).toNat)
  case atStart => exact ⟨0, by omega, rfl, fun j hj => absurd hj (by omega), rfl⟩
  case round =>
    obtain ⟨k, hk, rfl, hno, rfl⟩ := hrel
    by_cases hlt : k < 6
    · have hki : (k : Int) < 6 := by omega
      have hc := hW k (by omega)
      have hq := eqB9 s ⟨(wordB k).toArray⟩
      simp only [List.toList_toArray] at hq
      by_cases he : s.data.toList = wordB k
      · rw [decide_eq_true he] at hq
        have hO := hide (show (k : Int) = R from by
          rw [← hR, opI, he, opW_word (by omega)])
        generalize (⟨(wordB k).toArray⟩ : ByteArray) = wk at *
        clear hR hno he
        go_wp2
        refine bodyPost_ret (v := .int .i64 (k : Int)) (by simp [results, Tryd.results17, go_sem] <;> rfl) rfl ⟨by rw [hO.out], rfl⟩
      · rw [decide_eq_false he] at hq
        have hO := hide (show ∀ j, j < k + 1 → s.data.toList ≠ wordB j from fun j hj => by
          rcases Nat.lt_or_ge j k with h | h
          · exact hno j h
          · rw [show j = k by omega]; exact he)
        generalize (⟨(wordB k).toArray⟩ : ByteArray) = wk at *
        clear hno he
        go_wp2
        go_roundw
        case rel => exact ⟨k + 1, by omega, by go_num, hO.out, by trivial⟩
        case measure => first | (simp [intOf]; done) | (simp [intOf]; omega)
    · obtain rfl : k = 6 := by omega
      have hO := hide (show (-1 : Int) = R from by
        rw [← hR, opI, opW_none (fun j hj => hno j (by omega))])
      clear hR hno
      go_wp2
      refine bodyPost_ret (v := .int .i64 (-1)) (by simp [results, Tryd.results17, go_sem] <;> rfl) rfl ⟨by rw [hO.out], rfl⟩
end Go.Proofs.YtamnononemallaaDoor

/-! Whether a query may be: the program's, and the document's. -/
namespace Go.Proofs.YtamnononemallaaDoor
open Go.RowKit
structure Qy.ok (q : Qy) : Prop where
  r : ∀ x ∈ q.r, x.ok
  op : -9223372036854775808 ≤ q.op ∧ q.op ≤ 9223372036854775807
  f : -9223372036854775808 ≤ q.f ∧ q.f ≤ 9223372036854775807
  t : -9223372036854775808 ≤ q.t ∧ q.t ≤ 9223372036854775807
  s : -9223372036854775808 ≤ q.s ∧ q.s ≤ 9223372036854775807
/-- The ways of 'Right': each with the answer. -/
def RightWays (q : Qy) : Prop :=
  (decide (q.op < 0) = true ∧ rightQ q = false) ∨
  (decide (q.op < 0) = false ∧ decide (5 < q.op) = true ∧ rightQ q = false) ∨
  (decide (q.op < 0) = false ∧ decide (5 < q.op) = false ∧ rightR q.r = false ∧ rightQ q = false) ∨
  (decide (q.op < 0) = false ∧ decide (5 < q.op) = false ∧ rightR q.r = true ∧ decide (q.f < 0) = true ∧ rightQ q = false) ∨
  (decide (q.op < 0) = false ∧ decide (5 < q.op) = false ∧ rightR q.r = true ∧ decide (q.f < 0) = false ∧ decide (q.t < q.f) = true ∧ rightQ q = false) ∨
  (decide (q.op < 0) = false ∧ decide (5 < q.op) = false ∧ rightR q.r = true ∧ decide (q.f < 0) = false ∧ decide (q.t < q.f) = false ∧ decide (4611686018427387904 < q.t) = true ∧ rightQ q = false) ∨
  (decide (q.op < 0) = false ∧ decide (5 < q.op) = false ∧ rightR q.r = true ∧ decide (q.f < 0) = false ∧ decide (q.t < q.f) = false ∧ decide (4611686018427387904 < q.t) = false ∧
    (((q.op == 0) = true ∧ ∃ b, (q.s == 0) = b ∧ rightQ q = b) ∨ ((q.op == 0) = false ∧ decide (1 ≤ q.s) = false ∧ decide (q.s < 1) = true ∧ rightQ q = false) ∨
      ((q.op == 0) = false ∧ decide (1 ≤ q.s) = true ∧ decide (q.s < 1) = false ∧ decide (q.s ≤ 4611686018427387904) = false ∧ decide (4611686018427387904 < q.s) = true ∧ rightQ q = false) ∨
      ((q.op == 0) = false ∧ decide (1 ≤ q.s) = true ∧ decide (q.s < 1) = false ∧ decide (q.s ≤ 4611686018427387904) = true ∧ decide (4611686018427387904 < q.s) = false ∧ (q.t == q.f) = true ∧ rightQ q = true) ∨
      ((q.op == 0) = false ∧ decide (1 ≤ q.s) = true ∧ decide (q.s < 1) = false ∧ decide (q.s ≤ 4611686018427387904) = true ∧ decide (4611686018427387904 < q.s) = false ∧ (q.t == q.f) = false ∧ ∃ b, decide ((q.t - q.f - 1) / q.s < 1024) = b ∧ rightQ q = b)))
theorem right_ways (q : Qy) : RightWays q := by
  obtain ⟨op, r, f, t, s, n⟩ := q
  unfold RightWays rightQ
  dsimp only
  by_cases h1 : op < 0
  · exact .inl ⟨decide_eq_true h1, by rw [decide_eq_false (show ¬ 0 ≤ op by omega)]; rfl⟩
  · have a1 : decide (op < 0) = false := decide_eq_false h1
    have c1 : decide (0 ≤ op) = true := decide_eq_true (by omega)
    rw [c1]
    refine .inr ?_
    by_cases h2 : 5 < op
    · exact .inl ⟨a1, decide_eq_true h2, by rw [decide_eq_false (show ¬ op ≤ 5 by omega)]; rfl⟩
    · have a2 : decide (5 < op) = false := decide_eq_false h2
      have c2 : decide (op ≤ 5) = true := decide_eq_true (by omega)
      rw [c2]
      refine .inr ?_
      cases h3 : rightR r with
      | false => exact .inl ⟨a1, a2, rfl, rfl⟩
      | true =>
        refine .inr ?_
        by_cases h4 : f < 0
        · exact .inl ⟨a1, a2, rfl, decide_eq_true h4, by rw [decide_eq_false (show ¬ 0 ≤ f by omega)]; rfl⟩
        · have a4 : decide (f < 0) = false := decide_eq_false h4
          have c4 : decide (0 ≤ f) = true := decide_eq_true (by omega)
          rw [c4]
          refine .inr ?_
          by_cases h5 : t < f
          · exact .inl ⟨a1, a2, rfl, a4, decide_eq_true h5, by rw [decide_eq_false (show ¬ f ≤ t by omega)]; rfl⟩
          · have a5 : decide (t < f) = false := decide_eq_false h5
            have c5 : decide (f ≤ t) = true := decide_eq_true (by omega)
            rw [c5]
            refine .inr ?_
            by_cases h6 : 4611686018427387904 < t
            · exact .inl ⟨a1, a2, rfl, a4, a5, decide_eq_true h6, by rw [decide_eq_false (show ¬ t ≤ 4611686018427387904 by omega)]; rfl⟩
            · have a6 : decide (4611686018427387904 < t) = false := decide_eq_false h6
              have c6 : decide (t ≤ 4611686018427387904) = true := decide_eq_true (by omega)
              rw [c6]
              refine .inr ⟨a1, a2, rfl, a4, a5, a6, ?_⟩
              by_cases h7 : op = 0
              · refine .inl ⟨by simpa using h7, decide (s = 0), by rw [Bool.eq_iff_iff]; simp, ?_⟩
                rw [if_pos h7]; rfl
              · have a7 : (op == 0) = false := by simpa using h7
                rw [if_neg h7]
                refine .inr ?_
                by_cases h8 : 1 ≤ s
                · have a8 : decide (1 ≤ s) = true := decide_eq_true h8
                  have b8 : decide (s < 1) = false := decide_eq_false (by omega)
                  rw [a8]
                  refine .inr ?_
                  by_cases h9 : s ≤ 4611686018427387904
                  · have a9 : decide (s ≤ 4611686018427387904) = true := decide_eq_true h9
                    have b9 : decide (4611686018427387904 < s) = false := decide_eq_false (by omega)
                    rw [a9]
                    refine .inr ?_
                    by_cases h10 : t = f
                    · exact .inl ⟨a7, rfl, b8, rfl, b9, by simpa using h10, by rw [decide_eq_true h10]; rfl⟩
                    · refine .inr ⟨a7, rfl, b8, rfl, b9, by simpa using h10, _, rfl, ?_⟩
                      rw [decide_eq_false h10]; rfl
                  · exact .inl ⟨a7, rfl, b8, decide_eq_false h9, decide_eq_true (by omega), by rw [decide_eq_false h9]; rfl⟩
                · exact .inl ⟨a7, decide_eq_false h8, decide_eq_true (by omega), by rw [decide_eq_false h8]; rfl⟩
set_option maxRecDepth 100000 in
set_option maxHeartbeats 16000000 in
theorem aright_any (q : Qy) (rv : Value) (w : World) (hr : Rz w rv q.r) (hok : q.ok) :
    Calls Tryd.prog 6 #[.agg #[.int .i64 q.op, rv, .int .i64 q.f, .int .i64 q.t, .int .i64 q.s, .bool q.n]] w fun e w' => e = .returned (.bool (rightQ q)) ∧ Below w.heap.size w w' := by
  have hM := fun W h => mright_any rv q.r W h hok.r
  obtain ⟨A, c, rfl⟩ := hr.shape
  have hok' := hide hok
  rcases right_ways q with ⟨d1, hF⟩ | ⟨d1, d2, hF⟩ | ⟨d1, d2, h3, hF⟩ | ⟨d1, d2, h3, d4, hF⟩ | ⟨d1, d2, h3, d4, d5, hF⟩ | ⟨d1, d2, h3, d4, d5, d6, hF⟩ | ⟨d1, d2, h3, d4, d5, d6, hT⟩
  · replace hF := hide hF
    clear hok
    go_enter Tryd.func6, Tryd.ntmps6; go_wp2_with (go_at_call 15; with_reducible refine (hM _ (hr.alloc _)).mono ?_; rintro e w' ⟨rfl, hb⟩; obtain ⟨X, rfl⟩ := World.ext_of_below hb; clear hb); go_ret; exact ⟨by rw [hF.out]; rfl, by (repeat' (first | with_reducible (first | exact Below.refl _ _ | refine Below.ext ?_ ?_ _ | refine Below.alloc ?_ ?_ _ | refine Below.setCell ?_ ?_ _ | refine Below.drew ?_ | assumption) | (simp [World.size_ext]; done) | (simp [World.size_ext]; omega)))⟩
  · replace hF := hide hF
    clear hok
    go_enter Tryd.func6, Tryd.ntmps6; go_wp2_with (go_at_call 15; with_reducible refine (hM _ (hr.alloc _)).mono ?_; rintro e w' ⟨rfl, hb⟩; obtain ⟨X, rfl⟩ := World.ext_of_below hb; clear hb); go_ret; exact ⟨by rw [hF.out]; rfl, by (repeat' (first | with_reducible (first | exact Below.refl _ _ | refine Below.ext ?_ ?_ _ | refine Below.alloc ?_ ?_ _ | refine Below.setCell ?_ ?_ _ | refine Below.drew ?_ | assumption) | (simp [World.size_ext]; done) | (simp [World.size_ext]; omega)))⟩
  · replace hF := hide hF
    rw [h3] at hM
    clear hok
    go_enter Tryd.func6, Tryd.ntmps6; go_wp2_with (go_at_call 15; with_reducible refine (hM _ (hr.alloc _)).mono ?_; rintro e w' ⟨rfl, hb⟩; obtain ⟨X, rfl⟩ := World.ext_of_below hb; clear hb); go_ret; exact ⟨by rw [hF.out]; rfl, by (repeat' (first | with_reducible (first | exact Below.refl _ _ | refine Below.ext ?_ ?_ _ | refine Below.alloc ?_ ?_ _ | refine Below.setCell ?_ ?_ _ | refine Below.drew ?_ | assumption) | (simp [World.size_ext]; done) | (simp [World.size_ext]; omega)))⟩
  · replace hF := hide hF
    rw [h3] at hM
    clear hok
    go_enter Tryd.func6, Tryd.ntmps6; go_wp2_with (go_at_call 15; with_reducible refine (hM _ (hr.alloc _)).mono ?_; rintro e w' ⟨rfl, hb⟩; obtain ⟨X, rfl⟩ := World.ext_of_below hb; clear hb); go_ret; exact ⟨by rw [hF.out]; rfl, by (repeat' (first | with_reducible (first | exact Below.refl _ _ | refine Below.ext ?_ ?_ _ | refine Below.alloc ?_ ?_ _ | refine Below.setCell ?_ ?_ _ | refine Below.drew ?_ | assumption) | (simp [World.size_ext]; done) | (simp [World.size_ext]; omega)))⟩
  · replace hF := hide hF
    rw [h3] at hM
    clear hok
    go_enter Tryd.func6, Tryd.ntmps6; go_wp2_with (go_at_call 15; with_reducible refine (hM _ (hr.alloc _)).mono ?_; rintro e w' ⟨rfl, hb⟩; obtain ⟨X, rfl⟩ := World.ext_of_below hb; clear hb); go_ret; exact ⟨by rw [hF.out]; rfl, by (repeat' (first | with_reducible (first | exact Below.refl _ _ | refine Below.ext ?_ ?_ _ | refine Below.alloc ?_ ?_ _ | refine Below.setCell ?_ ?_ _ | refine Below.drew ?_ | assumption) | (simp [World.size_ext]; done) | (simp [World.size_ext]; omega)))⟩
  · replace hF := hide hF
    rw [h3] at hM
    clear hok
    go_enter Tryd.func6, Tryd.ntmps6; go_wp2_with (go_at_call 15; with_reducible refine (hM _ (hr.alloc _)).mono ?_; rintro e w' ⟨rfl, hb⟩; obtain ⟨X, rfl⟩ := World.ext_of_below hb; clear hb); go_ret; exact ⟨by rw [hF.out]; rfl, by (repeat' (first | with_reducible (first | exact Below.refl _ _ | refine Below.ext ?_ ?_ _ | refine Below.alloc ?_ ?_ _ | refine Below.setCell ?_ ?_ _ | refine Below.drew ?_ | assumption) | (simp [World.size_ext]; done) | (simp [World.size_ext]; omega)))⟩
  · rw [h3] at hM
    rcases hT with ⟨d7, b, d8, hF⟩ | ⟨d7, d9, _, hF⟩ | ⟨d7, d9, _, d10, _, hF⟩ | ⟨d7, d9, _, d10, _, d11, hF⟩ | ⟨d7, d9, _, d10, _, d11, b, d12, hF⟩
    · replace hF := hide hF
      clear hok
      go_enter Tryd.func6, Tryd.ntmps6; go_wp2_with (go_at_call 15; with_reducible refine (hM _ (hr.alloc _)).mono ?_; rintro e w' ⟨rfl, hb⟩; obtain ⟨X, rfl⟩ := World.ext_of_below hb; clear hb); go_ret; exact ⟨by rw [hF.out]; rfl, by (repeat' (first | with_reducible (first | exact Below.refl _ _ | refine Below.ext ?_ ?_ _ | refine Below.alloc ?_ ?_ _ | refine Below.setCell ?_ ?_ _ | refine Below.drew ?_ | assumption) | (simp [World.size_ext]; done) | (simp [World.size_ext]; omega)))⟩
    · replace hF := hide hF
      clear hok
      go_enter Tryd.func6, Tryd.ntmps6; go_wp2_with (go_at_call 15; with_reducible refine (hM _ (hr.alloc _)).mono ?_; rintro e w' ⟨rfl, hb⟩; obtain ⟨X, rfl⟩ := World.ext_of_below hb; clear hb); go_ret; exact ⟨by rw [hF.out]; rfl, by (repeat' (first | with_reducible (first | exact Below.refl _ _ | refine Below.ext ?_ ?_ _ | refine Below.alloc ?_ ?_ _ | refine Below.setCell ?_ ?_ _ | refine Below.drew ?_ | assumption) | (simp [World.size_ext]; done) | (simp [World.size_ext]; omega)))⟩
    · replace hF := hide hF
      clear hok
      go_enter Tryd.func6, Tryd.ntmps6; go_wp2_with (go_at_call 15; with_reducible refine (hM _ (hr.alloc _)).mono ?_; rintro e w' ⟨rfl, hb⟩; obtain ⟨X, rfl⟩ := World.ext_of_below hb; clear hb); go_ret; exact ⟨by rw [hF.out]; rfl, by (repeat' (first | with_reducible (first | exact Below.refl _ _ | refine Below.ext ?_ ?_ _ | refine Below.alloc ?_ ?_ _ | refine Below.setCell ?_ ?_ _ | refine Below.drew ?_ | assumption) | (simp [World.size_ext]; done) | (simp [World.size_ext]; omega)))⟩
    · replace hF := hide hF
      clear hok
      go_enter Tryd.func6, Tryd.ntmps6; go_wp2_with (go_at_call 15; with_reducible refine (hM _ (hr.alloc _)).mono ?_; rintro e w' ⟨rfl, hb⟩; obtain ⟨X, rfl⟩ := World.ext_of_below hb; clear hb); go_ret; exact ⟨by rw [hF.out]; rfl, by (repeat' (first | with_reducible (first | exact Below.refl _ _ | refine Below.ext ?_ ?_ _ | refine Below.alloc ?_ ?_ _ | refine Below.setCell ?_ ?_ _ | refine Below.drew ?_ | assumption) | (simp [World.size_ext]; done) | (simp [World.size_ext]; omega)))⟩
    · have h4 := of_decide_eq_false d4
      have h5 := of_decide_eq_false d5
      have h6 := of_decide_eq_false d6
      have h9 := of_decide_eq_true d9
      have h10 : q.t ≠ q.f := by simpa using d11
      have m2 : wrap64 (q.t - q.f) = q.t - q.f := by unfold wrap64; omega
      have m3 : wrap64 (q.t - q.f - 1) = q.t - q.f - 1 := by unfold wrap64; omega
      have m4 : (q.t - q.f - 1).tdiv q.s = (q.t - q.f - 1) / q.s := Int.tdiv_eq_ediv_of_nonneg (by omega)
      have q0 : 0 ≤ (q.t - q.f - 1) / q.s := Int.ediv_nonneg (by omega) (by omega)
      have q1 : (q.t - q.f - 1) / q.s ≤ q.t - q.f - 1 := Int.ediv_le_self _ (by omega)
      have m6 : wrap64 ((q.t - q.f - 1) / q.s) = (q.t - q.f - 1) / q.s := by unfold wrap64; omega
      have m7 : ¬ q.s = 0 := by omega
      replace hF := hide hF
      clear hok q0 q1 h10
      go_enter Tryd.func6, Tryd.ntmps6; go_wp2_with (go_at_call 15; with_reducible refine (hM _ (hr.alloc _)).mono ?_; rintro e w' ⟨rfl, hb⟩; obtain ⟨X, rfl⟩ := World.ext_of_below hb; clear hb); go_ret; exact ⟨by rw [hF.out]; rfl, by (repeat' (first | with_reducible (first | exact Below.refl _ _ | refine Below.ext ?_ ?_ _ | refine Below.alloc ?_ ?_ _ | refine Below.setCell ?_ ?_ _ | refine Below.drew ?_ | assumption) | (simp [World.size_ext]; done) | (simp [World.size_ext]; omega)))⟩
end Go.Proofs.YtamnononemallaaDoor
