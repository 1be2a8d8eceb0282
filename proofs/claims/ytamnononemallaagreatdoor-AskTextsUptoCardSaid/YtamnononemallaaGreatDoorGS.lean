import Derived.Test.YtamnononemallaaGreatDoorGC
import Derived.Test.YtamnononemallaaGreatDoorGA
import Derived.Test.YtamnononemallaaGreatDoorTie
import Derived.Test.YtamnononemallaaGreatDoorCards
import Derived.Deep.DeepHandedRow
import Derived.LaidMore
import Derived.Lay
import Derived.Stop.LaidErr
import Derived.Lib.LaidTab
import Derived.Test.YtamnononemallaaGreatDoorGQ
import Derived.WalkSpells
import Derived.WalkLawsBesides
import Derived.WalkMore
import Derived.Lib.Bytes
import Derived.Lib.ConvBytes
import Derived.Lib.ItoaLen
/-! Several texts in one. -/
set_option linter.unusedVariables false
set_option linter.unusedSimpArgs false
/-! What the listed variables give; a law whose statement is a card: its walk lifted. -/
namespace Go.Proofs.YtamnononemallaaGreatDoor
open Go.RowKit Go.ChangeShapes Go.WideShapes Go.ChangeAt
def laidQ : List (String × DataW Unit) := Rows.askTextsUptoRow.laid
theorem gPow : Tryz.prog.globalNamed "internal/strconv.uint64pow10" = some 3 := by kernel_rfl
theorem gPowT : (Tryz.prog.globals[3]?).map (·.type) = some 200 := by kernel_rfl
theorem gRng : Tryz.prog.globalNamed "strconv.ErrRange" = some 5 := by kernel_rfl
theorem gRngT : (Tryz.prog.globals[5]?).map (·.type) = some 138 := by kernel_rfl
theorem gSyn : Tryz.prog.globalNamed "strconv.ErrSyntax" = some 4 := by kernel_rfl
theorem gSynT : (Tryz.prog.globals[4]?).map (·.type) = some 138 := by kernel_rfl
theorem gSigns : Tryz.prog.globalNamed "slackwater/match.signs" = some 1 := by kernel_rfl
theorem tSigns : (Tryz.prog.globals[1]?).map (·.type) = some 132 := by kernel_rfl
theorem gWords : Tryz.prog.globalNamed "slackwater/ask.words" = some 0 := by kernel_rfl
theorem tWords : (Tryz.prog.globals[0]?).map (·.type) = some 81 := by kernel_rfl
theorem star : "*" ++ "errors.errorString" = "*errors.errorString" := by decide
theorem rowErr (u : TypeId) (h : Tryz.prog.typeName? 3 u = some "*errors.errorString") : u = 221 :=
  typeName_ptr_named (nm := "errors.errorString") (by rw [star]; kernel_rfl) (by kernel_rfl) (by decide) u (by rw [star]; exact h)
theorem var?_below {P : Program} {B g : Nat} {W W' : World} {n : String} {cs : Array Value} (h : Below B W W') (hg : P.globalNamed n = some g) (hgB : g < B) (hv : W.var? P n = some cs) : W'.var? P n = some cs := by
  unfold World.var? at hv ⊢
  simp only [hg, Option.bind_some] at hv ⊢
  rw [h.block g hgB]
  exact hv
theorem lt_of_var {P : Program} {w : World} {n : String} {g : Nat} {cs : Array Value} (hg : P.globalNamed n = some g) (h : w.var? P n = some cs) : g < w.heap.size := by
  unfold World.var? at h
  simp only [hg, Option.bind_some] at h
  cases hh : w.heap[g]? with
  | none => rw [hh] at h; cases h
  | some o => exact (Array.getElem?_eq_some_iff.1 hh).1
structure Sx (w : World) : Prop where
  sg : Sg w
  tab : Lib.TabIs Tryz.prog w "internal/strconv.uint64pow10" .u64 Lib.pow10Tab
  syn : ∃ tp p, w.var? Tryz.prog "strconv.ErrSyntax" = some #[.iface tp p]
  rng : ∃ tp p, w.var? Tryz.prog "strconv.ErrRange" = some #[.iface tp p]
  wds : ∀ k, k ≤ 5 → w.cell? ⟨0, k, none⟩ = some (.string ⟨(wordB k).toArray⟩)
theorem Sx.below {w w' : World} (h : Sx w) (hb : Below w.heap.size w w') : Sx w' := by
  obtain ⟨hs, h2, ⟨a, b, h3⟩, ⟨c, d, h4⟩, h5⟩ := h
  have h1 := hs.big
  exact ⟨hs.below hb, var?_below hb gPow (by omega) h2, ⟨a, b, var?_below hb gSyn (by omega) h3⟩, ⟨c, d, var?_below hb gRng (by omega) h4⟩, fun k hk => (hb.cell (show 0 < _ by omega)).trans (h5 k hk)⟩
/-- A laid array of texts. -/
theorem strs_laid {W : World} {n : String} {g : Nat} {t : TypeId} {L : List (List UInt8)} {rest : List (String × DataW Unit)} (hg : Tryz.prog.globalNamed n = some g) (ht : (Tryz.prog.globals[g]?).map (·.type) = some t) (hu : Tryz.prog.underlying t = some (.array L.length 9))
    (h : laidMet Tryz.prog ((n, .agg (L.map fun s => .lit (.string s))) :: rest) W) : ∀ (k : Nat) (s : List UInt8), L[k]? = some s → W.cell? ⟨g, k, none⟩ = some (.string ⟨s.toArray⟩) := by
  obtain ⟨ps, ⟨g0, t0, cs0, f0, p0, q0, hg0, ht0, hv0, hd0, _, _⟩, _, _⟩ := h
  obtain rfl := Option.some.inj (hg.symm.trans hg0)
  obtain rfl := Option.some.inj (ht.symm.trans ht0)
  obtain ⟨xs, m1, rfl, hx1, hlen, hn5, hel⟩ := DataW.trod_array hu hd0
  have c9 : Tryz.prog.cellsOf 9 = 1 := by kernel_rfl
  have hc : ∀ k, W.cell? ⟨g, k, none⟩ = cs0[k]? := fun k => World.var?_cell hg0 hv0 k
  intro k s hs
  have hk5 : k < L.length := (List.getElem?_eq_some_iff.1 hs).1
  have h1 := hel k hk5
  rw [c9, Nat.mul_one] at h1
  obtain ⟨x, hx⟩ : ∃ x, xs[k]? = some x := ⟨_, List.getElem?_eq_getElem (by omega)⟩
  rw [hx] at h1
  obtain ⟨s', e1, e2, _⟩ := DataW.trod_string Tryz.underlying9 h1
  have hcs : cs0[k]? = some (.string s') := by
    have := congrArg (fun l => l[0]?) e1
    simp only [List.getElem?_take, List.getElem?_drop] at this
    simpa using this
  have hd : (xs.map (·.1))[k]? = some (.lit (.string s'.data.toList)) := by rw [List.getElem?_map, hx, e2]; rfl
  have hl : xs.map (·.1) = L.map fun s => .lit (.string s) := by
    have := congrArg Prod.fst hx1
    simp only [DataW.agg.injEq] at this
    exact this.symm
  rw [hl, List.getElem?_map, hs] at hd
  simp only [Option.map_some, Option.some.injEq, DataW.lit.injEq, Lit.string.injEq] at hd
  have he : s' = ⟨s.toArray⟩ := by rw [← Lib.mk_data s', ← hd]
  rw [hc, hcs, he]
set_option maxRecDepth 100000 in
theorem sx_of_laid {W : World} (h : laidMetH Tryz.prog laidQ W) (hs : W.ShapedOpen Tryz.prog) : Sx W := by
  obtain ⟨m, hm⟩ := (Tryz.laysM219).s1_3 W hs
  rw [MakeChecks.laidMetH_plain _ _ _ (by kernel_rfl)] at h
  have h2 := h.tail.tail
  have hp := Lib.tabIs_of_head gPow gPowT Tryz.underlying200 Tryz.underlying144 (by kernel_rfl) (by kernel_rfl) (zs := Lib.pow10Tab) h2
  have h3 := h2.tail.tail
  obtain ⟨a, s, hr, _⟩ := laid_sentinel h3 gRng gRngT Tryz.underlying138 rowErr Tryz.underlying221 Tryz.underlying223 rfl rfl Tryz.underlying9 (by kernel_rfl) (by kernel_rfl)
  obtain ⟨a', s', hy, _⟩ := laid_sentinel h3.tail gSyn gSynT Tryz.underlying138 rowErr Tryz.underlying221 Tryz.underlying223 rfl rfl Tryz.underlying9 (by kernel_rfl) (by kernel_rfl)
  have hf := h3.tail.tail
  have hsg := strs_laid (L := [[], [61], [33, 61], [94, 61], [42, 61]]) gSigns tSigns Tryz.underlying132 hf
  have hwd := strs_laid (L := [wordB 0, wordB 1, wordB 2, wordB 3, wordB 4, wordB 5]) gWords tWords Tryz.underlying81 hf.tail
  obtain ⟨ps2, ⟨g2, t2, cs2, f2, p2, q2, hg2, ht2, hv2, _⟩, _⟩ := h.tail
  obtain rfl : 9 = g2 := Option.some.inj ((show Tryz.prog.globalNamed "math/bits.deBruijn64tab" = some 9 by kernel_rfl).symm.trans hg2)
  have big : 8 < W.heap.size := by have : 9 < W.heap.size := lt_of_var hg2 hv2; omega
  refine ⟨⟨big, fun k hk => ?_, m, hm⟩, hp, ⟨_, _, hy⟩, ⟨_, _, hr⟩, fun k hk => ?_⟩
  · have : k = 0 ∨ k = 1 ∨ k = 2 ∨ k = 3 ∨ k = 4 := by omega
    rcases this with rfl | rfl | rfl | rfl | rfl <;> exact hsg _ _ rfl
  · have : k = 0 ∨ k = 1 ∨ k = 2 ∨ k = 3 ∨ k = 4 ∨ k = 5 := by omega
    rcases this with rfl | rfl | rfl | rfl | rfl | rfl <;> exact hwd _ _ rfl
variable {H : Type} {enc : TypeId × Value → H}
/-- .. where the arguments are within a bound, and the listed variables lie where they were laid. -/
def LawWalkX (enc : TypeId × Value → H) (f : FuncId) (fn : Func) : Prop :=
  ∀ (W : World) (base : Nat) (args : Array Value) (ds : List (DataW H)) (ps : List MemPlace),
    (∀ (j : Nat) t v, fn.params[j]? = some t → args[j]? = some v → Value.okWide Tryz.prog W .any base t v) →
    DataW.TrodAll enc Tryz.prog W 0 (fun _ => true) true fn.params.toList args.toList ds ps → (∀ p ∈ ps, p.block < W.heap.size) → W.noneFrozen ps →
    Rows.uptoSmall H ds = true → (DataW.weightsEach Tryz.prog fn.params.toList ds).all (· ≤ reachBytes) = true → Sx W →
    Calls Tryz.prog f args W fun e W' => e = .returned (.bool true) ∧ Below W.heap.size W W'
set_option maxRecDepth 100000 in
theorem law_lifted_x {os : Os} {f : FuncId} {fn : Func} {s : OpenSpec} {s0 : ChangeSpec} {tb : TypeId} (hk : s.cond = some Rows.uptoSmall) {F : Stop.Interp} (hsF : s.at F = s0)
    (own : ownKnob Tryz.prog.godebug = none) (started : os.Started) (noInit : Tryz.prog.inits.idxOf? f = none) (hfn : Tryz.prog.funcs[f]? = some fn)
    (hr : (fn.params.toList.all fun t => Tryz.prog.readableRec t && decide (t < Tryz.prog.types.size)) = true)
    (hres : fn.resultTypes = #[tb]) (hb : Tryz.prog.underlying tb = some .bool) (hv : s0.vars = []) (hsv : s.vars = s0.vars) (hvt : s.bare.plain.varTypes Tryz.prog = [])
    (hs : ∀ ds : List (DataW H), ds.length = fn.params.size → s0.fn H ds = { results := [.lit (.bool true)], args := ds })
    (witness : ∃ (w : World) (tape : Tape) (i : Input), w.os = os ∧ (w.forCall tape i).Shaped Tryz.checked.prog ∧ i.vars = [] ∧ Input.okWide Tryz.checked.prog (w.forCall tape i) .any w.heap.size f i ∧
      s.preRow enc Tryz.checked.prog fn [] false laidQ (w.forCall tape i).memory i.args ∧ Assume.holds {} Tryz.checked.prog (lone (Frame.enter Tryz.checked.prog f i.args .normal) [] (w.forCall tape i)))
    (walk : LawWalkX enc f fn) :
    ReturnsInHanded {} Tryz.checked os f .any (s.preRow enc Tryz.checked.prog fn [] false laidQ) ((s.at F).post enc Tryz.checked.prog fn false true false false) := by
  refine returnsInHanded_of_row own started noInit hfn witness ?_
  intro W base args ds gs before hval hW _ hkk hsz hL hsh _
  rw [hsv] at hW
  have hW' := hW
  have hlt : ∀ p ∈ before, p.block < W.heap.size := fun p hp => hW'.lt p hp
  obtain ⟨p, q, hA, hV, hpq, hfz, hnd⟩ := hW
  rw [hv] at hV
  obtain ⟨rfl, rfl⟩ := trodVars_none hV
  have hkk := hkk _ hk
  simp only [List.append_nil] at hpq hkk
  subst hpq
  have hvt' : s.bare.plain.varTypes Tryz.checked.prog = [] := hvt
  rw [hvt', List.append_nil, List.append_nil] at hsz
  refine (walk W base args ds before hval hA hlt hfz hkk hsz (sx_of_laid hL hsh)).mono fun e W' ⟨he, hg⟩ => ?_
  rw [hsF]
  exact ⟨_, he, law_post (C := Tryz.checked) laidOut hr hres hb hv hs hW' hg⟩
end Go.Proofs.YtamnononemallaaGreatDoor

/-! A part of a stamp's text. -/
namespace Go.Proofs.YtamnononemallaaGreatDoor
open Go.RowKit
theorem eqB9 (a b : ByteArray) : (a.toList == b.toList) = decide (a.data.toList = b.data.toList) := by
  rw [ByteArray.toList_eq, ByteArray.toList_eq, Bool.eq_iff_iff]
  simp
end Go.Proofs.YtamnononemallaaGreatDoor

/-! The document's numerals. -/
namespace Go.Proofs.YtamnononemallaaGreatDoor
open Go.RowKit
theorem decL_step {n : Nat} (h : 9 < n) : Lib.decDigits n = Lib.decDigits (n / 10) ++ [UInt8.ofNat (48 + n % 10)] := by
  conv => lhs; rw [Lib.decDigits, dif_neg (by omega)]
theorem nd20 {u : Nat} (h : u < 18446744073709551616) : (Lib.decDigits u).length ≤ 20 := by
  rw [Lib.decDigits_length]
  exact Lib.nDigits_le20 u h
theorem cv1 (W : World) (y : UInt8) (k : Int) (hk : (y.toNat : Int) = k) : (convert 151 9 (.slice (some ⟨W.heap.size, 0, none⟩) 1 1)).run Tryz.prog (W.alloc (.cells #[.int .u8 k] 5)) = .ok (.string ⟨#[y]⟩) (W.alloc (.cells #[.int .u8 k] 5)) := by
  subst hk
  exact run_convert_bytes_back (P := Tryz.prog) (W.alloc (.cells #[.int .u8 (y.toNat : Int)] 5)) 151 9 5 ⟨W.heap.size, 0, none⟩ 1 [y] Tryz.underlying151 Tryz.underlying5 Tryz.underlying9 (fun j hj => by
    have : j = 0 := by simpa using hj
    subst this
    simp [Addr.add])
set_option maxRecDepth 100000 in
set_option maxHeartbeats 4000000 in
theorem dec_any (u : Nat) (hu : u < 18446744073709551616) (w : World) :
    Calls Tryz.prog 81 #[.int .u64 (u : Int)] w fun e w' => e = .returned (.string ⟨(Lib.decDigits u).toArray⟩) ∧ Below w.heap.size w w' := by
  obtain ⟨q, hq⟩ : ∃ q, w.heap.size = q := ⟨_, rfl⟩
  have hB : Below q w w := by rw [← hq]; exact Below.refl _ _
  have hl := nd20 hu
  rw [hq]
  go_enter Tryz.func81, Tryz.ntmps81
  go_wp2
  go_loopw [0, 3] (fun s0 s3 wr => ∃ (n : Nat) (s : ByteArray), n < 18446744073709551616 ∧ s0 = .int .u64 (n : Int) ∧ s3 = .string s ∧ Lib.decDigits u = Lib.decDigits n ++ s.data.toList ∧ Below q w wr) (fun s0 _ _ => (intOf s0).toNat)
  case atStart => exact ⟨u, _, hu, rfl, rfl, by simp, hB⟩
  case round =>
    clear hB
    obtain ⟨n, s, hn, rfl, rfl, hD, hb⟩ := hrel
    have hqw : q ≤ wr.heap.size := by rw [← hq]; exact hb.size
    have hsz : s.size ≤ 20 := by
      have := congrArg List.length hD
      rw [List.length_append, ← Lib.size_eq] at this
      omega
    by_cases h9 : 9 < n
    · have i1 : (9 : Int) < n := by omega
      have hst := decL_step h9
      have hm : n % 10 < 10 := Nat.mod_lt _ (by omega)
      have hv := ofNat_val hm
      obtain ⟨y, hy⟩ : ∃ y, UInt8.ofNat (48 + n % 10) = y := ⟨_, rfl⟩
      rw [hy] at hst hv
      have hcv := cv1 wr y (48 + (n : Int) % 10) (by omega)
      have g1 : ¬ (9223372036854775807 < 1 + s.size) := by omega
      have hD' := hide (show Lib.decDigits u = Lib.decDigits (n / 10) ++ ((⟨#[y]⟩ : ByteArray) ++ s).data.toList from by rw [hD, hst, ba_app]; simp)
      clear hl hD hst hy hv
      go_wp2
      go_roundw
      case rel => exact ⟨n / 10, _, by omega, by go_num, rfl, hD'.out, hb.trans ((by (repeat' (first | with_reducible (first | exact Below.refl _ _ | refine Below.ext ?_ ?_ _ | refine Below.alloc ?_ ?_ _ | refine Below.setCell ?_ ?_ _ | refine Below.drew ?_ | assumption) | (simp [World.size_ext]; done) | (simp [World.size_ext]; omega))) : Below wr.heap.size wr _).mono hqw)⟩
      case measure => first | (simp [intOf]; done) | (simp [intOf]; omega)
    · have i1 : ¬ (9 : Int) < n := by omega
      have hm : n < 10 := by omega
      have hv := ofNat_val hm
      obtain ⟨y, hy⟩ : ∃ y, UInt8.ofNat (48 + n) = y := ⟨_, rfl⟩
      have hst : Lib.decDigits n = [y] := by rw [Lib.decDigits, dif_pos hm, hy]
      rw [hy] at hv
      have hcv := cv1 wr y (48 + (n : Int)) (by omega)
      have g1 : ¬ (9223372036854775807 < 1 + s.size) := by omega
      have hD' := hide (show (⟨#[y]⟩ : ByteArray) ++ s = ⟨(Lib.decDigits u).toArray⟩ from by rw [hD, hst, ba_app])
      clear hl hD hst hy hv
      go_wp2
      go_ret
      exact ⟨by rw [← hD'.out]; rfl, hb.trans ((by (repeat' (first | with_reducible (first | exact Below.refl _ _ | refine Below.ext ?_ ?_ _ | refine Below.alloc ?_ ?_ _ | refine Below.setCell ?_ ?_ _ | refine Below.drew ?_ | assumption) | (simp [World.size_ext]; done) | (simp [World.size_ext]; omega))) : Below wr.heap.size wr _).mono hqw)⟩
theorem whole_any (n : Int) (h0 : -9223372036854775808 ≤ n) (h1 : n ≤ 9223372036854775807) (w : World) :
    Calls Tryz.prog 42 #[.int .i64 n] w fun e w' => e = .returned (.string ⟨(Lib.itoa n).toArray⟩) ∧ Below w.heap.size w w' := by
  by_cases hn : n < 0
  · obtain ⟨u, rfl⟩ : ∃ u : Nat, n = -(u : Int) := ⟨n.natAbs, by omega⟩
    have hC := dec_any u (by omega) w
    have hwr : IntKind.u64.wrap (-IntKind.u64.wrap (-(u : Int))) = (u : Int) := by rw [IntKind.wrap_u64, IntKind.wrap_u64]; omega
    have hl := nd20 (u := u) (by omega)
    have he := hide (show (⟨#[45]⟩ : ByteArray) ++ ⟨(Lib.decDigits u).toArray⟩ = ⟨(Lib.itoa (-(u : Int))).toArray⟩ from by rw [Lib.itoa_neg u (by omega), ba_app]; simp)
    obtain ⟨tx, htx⟩ : ∃ tx, (⟨(Lib.decDigits u).toArray⟩ : ByteArray) = tx := ⟨_, rfl⟩
    have hts : tx.size ≤ 20 := by rw [← htx, Lib.size_eq]; simpa using hl
    rw [htx] at hC he
    have g1 : ¬ (9223372036854775807 < 1 + tx.size) := by omega
    clear htx hl
    go_enter Tryz.func42, Tryz.ntmps42
    go_wp2_with (go_at_call 81; (with_reducible refine hC.mono ?_); rintro e w1 ⟨rfl, hb1⟩)
    go_ret
    exact ⟨by rw [← he.out]; rfl, hb1⟩
  · obtain ⟨u, rfl⟩ : ∃ u : Nat, n = u := ⟨n.toNat, by omega⟩
    have hC := dec_any u (by omega) w
    have hwr : IntKind.u64.wrap (u : Int) = (u : Int) := by rw [IntKind.wrap_u64]; omega
    rw [Lib.itoa_nonneg]
    go_enter Tryz.func42, Tryz.ntmps42
    go_wp2_with (go_at_call 81; (with_reducible refine hC.mono ?_); rintro e w1 ⟨rfl, hb1⟩)
    go_ret
    exact ⟨rfl, hb1⟩
end Go.Proofs.YtamnononemallaaGreatDoor

/-! The document's Number. -/
namespace Go.Proofs.YtamnononemallaaGreatDoor
open Go.RowKit
structure NumA where
  x : Nat
  b : Bool
def NumOk (l : List UInt8) (m : Nat) (r : NumA) : Prop := numR l m = if r.b = true then some r.x else none
theorem drop9 {s : ByteArray} {i : Nat} (h : i < s.size) : s.data.toList.drop i = s[i] :: s.data.toList.drop (i + 1) := by
  have h' : i < s.data.toList.length := by rw [Array.length_toList]; exact h
  rw [List.drop_eq_getElem_cons h']
  rfl
theorem take9 {s : ByteArray} {i : Nat} (h : i < s.size) : s.data.toList.take (i + 1) = s.data.toList.take i ++ [s[i]] := by
  have h' : i < s.data.toList.length := by rw [Array.length_toList]; exact h
  rw [List.take_add_one, List.getElem?_eq_getElem h', Option.toList_some]
  rfl
set_option maxRecDepth 100000 in
set_option maxHeartbeats 8000000 in
theorem number_any (s : ByteArray) (m : Nat) (hm : m ≤ 9223372036854775807) (w : World) :
    Calls Tryz.prog 68 #[.string s, .int .u64 (m : Int)] w fun e w' => (∃ r : NumA, e = .returned (.tuple #[.int .u64 (r.x : Int), .bool r.b]) ∧ NumOk s.data.toList m r) ∧ w' = w := by
  have hsz := Lib.size_eq s
  by_cases h0 : s.size < 1
  · have d0 : (s.size : Int) < 1 := by omega
    have hR := hide (show numR s.data.toList m = none from by unfold numR; rw [if_pos (.inl (by omega))])
    clear hsz h0
    go_enter Tryz.func68, Tryz.ntmps68
    go_wp2
    refine bodyPost_ret (v := .tuple #[.int .u64 0, .bool false]) (by simp [results, Tryz.results68, go_sem] <;> rfl) rfl ⟨⟨⟨0, false⟩, rfl, ?_⟩, rfl⟩
    unfold NumOk
    rw [hR.out]; rfl
  have d0 : ¬ (s.size : Int) < 1 := by omega
  by_cases h19 : 19 < s.size
  · have d1 : (19 : Int) < s.size := by omega
    have hR := hide (show numR s.data.toList m = none from by unfold numR; rw [if_pos (.inr (.inl (by omega)))])
    clear hsz h0
    go_enter Tryz.func68, Tryz.ntmps68
    go_wp2
    refine bodyPost_ret (v := .tuple #[.int .u64 0, .bool false]) (by simp [results, Tryz.results68, go_sem] <;> rfl) rfl ⟨⟨⟨0, false⟩, rfl, ?_⟩, rfl⟩
    unfold NumOk
    rw [hR.out]; rfl
  have d1 : ¬ (19 : Int) < s.size := by omega
  have hp : 0 < s.size := by omega
  have hpi : (0 : Int) < s.size := by omega
  have hhd : s.data.toList.head? = some s[0] := by
    have := drop9 hp
    rw [List.drop_zero] at this
    rw [this]; rfl
  by_cases hz : s[0].toNat = 48 ∧ 1 < s.size
  · have d2 : ((s[0].toNat : Int) == 48) = true := by simp; omega
    have d3 : (1 : Int) < s.size := by omega
    have hR := hide (show numR s.data.toList m = none from by
      unfold numR
      rw [if_pos (.inr (.inr ⟨by rw [hhd]; congr 1; exact UInt8.toNat_inj.1 hz.1, by omega⟩))])
    clear hsz h0 hhd hz
    go_enter Tryz.func68, Tryz.ntmps68
    go_wp2
    refine bodyPost_ret (v := .tuple #[.int .u64 0, .bool false]) (by simp [results, Tryz.results68, go_sem] <;> rfl) rfl ⟨⟨⟨0, false⟩, rfl, ?_⟩, rfl⟩
    unfold NumOk
    rw [hR.out]; rfl
  have hN : numR s.data.toList m = if s.data.toList.all isD = true then (if valL s.data.toList 0 ≤ m then some (valL s.data.toList 0) else none) else none := by
    unfold numR
    rw [if_neg (by
      rintro (h | h | h)
      · omega
      · omega
      · refine hz ⟨?_, by omega⟩
        have := h.1
        rw [hhd] at this
        simp only [Option.some.injEq] at this
        rw [this]; rfl)]
  have hd : ((s[0].toNat : Int) == 48) = false ∨ ((s[0].toNat : Int) == 48) = true ∧ ¬ (1 : Int) < s.size := by
    by_cases h : s[0].toNat = 48
    · exact .inr ⟨by simp; omega, fun h1 => hz ⟨h, by omega⟩⟩
    · exact .inl (by simp; omega)
  have hH := hide (⟨hN, hsz⟩ : _ ∧ _)
  clear hN hsz hz hhd
  rcases hd with d2 | ⟨d2, d3⟩
  all_goals
    go_enter Tryz.func68, Tryz.ntmps68
    go_wp2
    clear d2
    go_loopw [6, 7] (fun s6 s7 wr => ∃ i : Nat, i ≤ s.size ∧ s7 = .int .i64 (i : Int) ∧ s6 = .int .u64 (valL (s.data.toList.take i) 0 : Nat) ∧ (s.data.toList.take i).all isD = true ∧ wr = w) (fun _ s7 _ => ((s.size : Int) - intOf s7).toNat)
    case atStart => exact ⟨0, by omega, rfl, rfl, rfl, rfl⟩
    case round =>
      obtain ⟨i, hi, rfl, rfl, hall, rfl⟩ := hrel
      by_cases hlt : i < s.size
      · have hii : (i : Int) < s.size := by omega
        have htk := take9 hlt
        obtain ⟨x, hx⟩ : ∃ x : UInt8, s[i] = x := ⟨_, rfl⟩
        rw [hx] at htk
        by_cases hdx : isD x = true
        · have hdd := isD_le hdx
          have e1 : decide ((x.toNat : Int) < 48) = false := decide_eq_false (by omega)
          have e2 : decide ((57 : Int) < (x.toNat : Int)) = false := decide_eq_false (by omega)
          have hv := valL_snoc (s.data.toList.take i) x 0
          have hlt2 := valL_lt _ 0 hall
          rw [← htk] at hv
          obtain ⟨v, hvv⟩ : ∃ v, valL (s.data.toList.take i) 0 = v := ⟨_, rfl⟩
          rw [hvv] at hv hlt2 ⊢
          have hb18 : v < 1000000000000000000 := by
            have h1 : (s.data.toList.take i).length ≤ 18 := by rw [List.length_take]; omega
            have h2 : (10 : Nat) ^ (s.data.toList.take i).length ≤ 10 ^ 18 := Nat.pow_le_pow_right (by decide) h1
            have e18 : (10 : Nat) ^ 18 = 1000000000000000000 := by decide
            rw [e18] at h2
            rw [Nat.zero_add, Nat.one_mul] at hlt2
            exact Nat.lt_of_lt_of_le hlt2 h2
          have hw1 : IntKind.u64.wrap ((v : Int) * 10) = (v : Int) * 10 := by rw [IntKind.wrap_u64]; omega
          have hw2 : IntKind.u8.wrap ((x.toNat : Int) - 48) = (x.toNat : Int) - 48 := by rw [IntKind.wrap_u8]; omega
          have hw3 : IntKind.u64.wrap ((v : Int) * 10 + ((x.toNat : Int) - 48)) = (v : Int) * 10 + ((x.toNat : Int) - 48) := by rw [IntKind.wrap_u64]; omega
          have hw4 : IntKind.u64.wrap ((x.toNat : Int) - 48) = (x.toNat : Int) - 48 := by rw [IntKind.wrap_u64]; omega
          have HN := hide (⟨hv, (show (s.data.toList.take (i + 1)).all isD = true from by rw [htk, List.all_append, hall]; simp [hdx]), hdd⟩ : _ ∧ _ ∧ _)
          clear htk hv hlt2 hvv hall hdd
          go_wp2
          go_roundw
          case rel =>
            obtain ⟨hv, hall', hdd⟩ := HN.out
            refine ⟨i + 1, by omega, by go_num, ?_, hall', by trivial⟩
            rw [hv]
            congr 1
            omega
          case measure => first | (simp [intOf]; done) | (simp [intOf]; omega)
        · have hR := hide (show numR s.data.toList m = none from by
            rw [hH.out.1, if_neg (fun h => hdx (by
              rw [List.all_eq_true] at h
              exact h x (by
                have : x ∈ s.data.toList.take (i + 1) := by rw [htk]; simp
                exact List.mem_of_mem_take this)))])
          have hor : x.toNat < 48 ∨ 48 ≤ x.toNat ∧ 57 < x.toNat := by
            rcases Nat.lt_or_ge x.toNat 48 with h | h
            · exact .inl h
            · refine .inr ⟨h, ?_⟩
              rcases Nat.lt_or_ge 57 x.toNat with h2 | h2
              · exact h2
              · exact absurd (by simp [isD, h, h2]) hdx
          rcases hor with h1 | ⟨h1, h2⟩
          · have e1 : decide ((x.toNat : Int) < 48) = true := decide_eq_true (by omega)
            clear htk hall hdx h1
            go_wp2
            refine bodyPost_ret (v := .tuple #[.int .u64 0, .bool false]) (by simp [results, Tryz.results68, go_sem] <;> rfl) rfl ⟨⟨⟨0, false⟩, rfl, ?_⟩, rfl⟩
            unfold NumOk
            rw [hR.out]; rfl
          · have e1 : decide ((x.toNat : Int) < 48) = false := decide_eq_false (by omega)
            have e2 : decide ((57 : Int) < (x.toNat : Int)) = true := decide_eq_true (by omega)
            clear htk hall hdx h1 h2
            go_wp2
            refine bodyPost_ret (v := .tuple #[.int .u64 0, .bool false]) (by simp [results, Tryz.results68, go_sem] <;> rfl) rfl ⟨⟨⟨0, false⟩, rfl, ?_⟩, rfl⟩
            unfold NumOk
            rw [hR.out]; rfl
      · obtain rfl : i = s.size := by omega
        rw [List.take_of_length_le (by have := hH.out.2; omega)] at hall ⊢
        have hR := hide (show numR s.data.toList m = if valL s.data.toList 0 ≤ m then some (valL s.data.toList 0) else none from by rw [hH.out.1, if_pos hall])
        obtain ⟨v, hvv⟩ : ∃ v, valL s.data.toList 0 = v := ⟨_, rfl⟩
        rw [hvv] at hR ⊢
        clear hall hH hvv
        by_cases hle : v ≤ m
        · have e1 : (v : Int) ≤ m := by omega
          go_wp2
          refine bodyPost_ret (v := .tuple #[.int .u64 (v : Int), .bool true]) (by simp [results, Tryz.results68, go_sem] <;> rfl) rfl ⟨⟨⟨v, true⟩, rfl, ?_⟩, rfl⟩
          unfold NumOk
          rw [hR.out, if_pos hle]; rfl
        · have e1 : ¬ (v : Int) ≤ m := by omega
          go_wp2
          refine bodyPost_ret (v := .tuple #[.int .u64 (v : Int), .bool false]) (by simp [results, Tryz.results68, go_sem] <;> rfl) rfl ⟨⟨⟨v, false⟩, rfl, ?_⟩, rfl⟩
          unfold NumOk
          rw [hR.out, if_neg hle]; rfl
end Go.Proofs.YtamnononemallaaGreatDoor

/-! The number that a word is: the program's. -/
namespace Go.Proofs.YtamnononemallaaGreatDoor
open Go.RowKit
theorem grow_below (w : World) (k : Nat) (os : Array Obj) : Below w.heap.size w (Sort.grow (w.drewN k) os) := by
  refine ⟨rfl, rfl, rfl, ?_, fun j hj => ?_⟩
  · simp [Sort.grow]
  · have e : (w.drewN k).heap = w.heap := by first | rfl | simp
    show ((w.drewN k).heap ++ os)[j]? = _
    rw [e, Array.getElem?_append_left hj]
/-- strconv.ParseInt at base 10, 64 bits. -/
theorem pi_any (s : ByteArray) (hs : s.size ≤ 281474976710656) (w : World) (hx : Sx w) :
    Calls Tryz.prog 63 #[.string s, .int .i64 10, .int .i64 64] w fun e w' => (∃ v, e = .returned (.tuple #[.int .i64 (intP s.data.toList).1, v]) ∧ (match Lib.parseIntB 64 s.data.toList with | .ok _ => v = .nilIface | _ => ∃ t p, v = .iface t (.pointer p))) ∧ Below w.heap.size w w' := by
  unfold intP
  cases h : Lib.parseIntB 64 s.data.toList with
  | ok u =>
    refine (Tryz.strconv_ParseInt_10_at64_ok s (by omega) u h w).mono ?_
    rintro e w' ⟨rfl, hw⟩
    refine ⟨⟨_, rfl, rfl⟩, ?_⟩
    rcases hw with rfl | ⟨t, rfl⟩
    · exact Below.refl _ _
    · exact Lib.bytesWorld_below _ _ _
  | range =>
    obtain ⟨tp, p, hv⟩ := hx.rng
    refine (Tryz.strconv_ParseInt_10_at64_range_var s hs h tp p w hv).mono ?_
    rintro e w' ⟨N, rfl, _, _, hb⟩
    exact ⟨⟨_, rfl, _, _, rfl⟩, hb⟩
  | _ =>
    obtain ⟨tp, p, hv⟩ := hx.syn
    refine (Any.strconv_ParseInt_10_at64_syntax_var Tryz.laysC174 s hs h tp p w hv).mono ?_
    rintro e w' ⟨N, rfl, _, _, hb⟩
    exact ⟨⟨_, rfl, _, _, rfl⟩, hb⟩
theorem fi_any (n : Int) (h0 : -9223372036854775808 ≤ n) (h1 : n ≤ 9223372036854775807) (w : World) (hx : Sx w) :
    Calls Tryz.prog 39 #[.int .i64 n, .int .i64 10] w fun e w' => e = .returned (.string ⟨(Lib.itoa n).toArray⟩) ∧ Below w.heap.size w w' := by
  refine (Tryz.strconv_FormatInt_10 n h0 h1 w hx.tab).mono ?_
  rintro e w' ⟨rfl, k, os, rfl⟩
  exact ⟨rfl, grow_below w k os⟩
theorem intP_le (l : List UInt8) : -9223372036854775808 ≤ (intP l).1 ∧ (intP l).1 ≤ 9223372036854775807 := by
  unfold intP
  cases h : Lib.parseIntB 64 l with
  | ok v => exact parseInt_le h
  | range =>
    dsimp only
    unfold Lib.intSat
    split <;> simp
  | _ => show (-9223372036854775808 : Int) ≤ 0 ∧ (0 : Int) ≤ 9223372036854775807; omega
set_option maxRecDepth 100000 in
set_option maxHeartbeats 4000000 in
theorem anum_any (s : ByteArray) (hs : s.size ≤ 281474976710656) (w : World) (hx : Sx w) :
    Calls Tryz.prog 30 #[.string s] w fun e w' => e = .returned (.tuple #[.int .i64 (intP s.data.toList).1, .bool (intP s.data.toList).2]) ∧ Below w.heap.size w w' := by
  have hP := pi_any s hs w hx
  have hle := intP_le s.data.toList
  obtain ⟨u, hu⟩ : ∃ u, (intP s.data.toList).1 = u := ⟨_, rfl⟩
  obtain ⟨b, hb⟩ : ∃ b, (intP s.data.toList).2 = b := ⟨_, rfl⟩
  rw [hu] at hP hle
  rw [hu, hb]
  have hF := fun w (hx : Sx w) => fi_any u hle.1 hle.2 w hx
  cases h : Lib.parseIntB 64 s.data.toList with
  | ok n =>
    have e1 : u = n := by rw [← hu]; unfold intP; rw [h]
    have e2 : b = (decide (Lib.itoa u = s.data.toList) && decide (0 ≤ u)) := by rw [← hb, e1]; unfold intP; rw [h]
    rw [h] at hP
    have hq := eqB9 ⟨(Lib.itoa u).toArray⟩ s
    simp only [List.toList_toArray] at hq
    obtain ⟨tx, htx⟩ : ∃ tx, (⟨(Lib.itoa u).toArray⟩ : ByteArray) = tx := ⟨_, rfl⟩
    simp only [htx] at hF hq
    clear hu hb e1 h hle
    by_cases hi : Lib.itoa u = s.data.toList
    · rw [decide_eq_true hi] at hq e2
      clear hi
      by_cases h0 : 0 ≤ u
      · rw [decide_eq_true h0] at e2
        have d0 : decide (0 ≤ u) = true := decide_eq_true h0
        obtain rfl : b = true := e2
        go_enter Tryz.func30, Tryz.ntmps30
        go_wp2_with (first
          | (go_at_call 63; (with_reducible refine hP.mono ?_); rintro e w1 ⟨⟨v, rfl, hv⟩, hb1⟩; obtain rfl : v = .nilIface := hv; have hF1 := hF w1 (hx.below hb1))
          | (go_at_call 39; (with_reducible refine hF1.mono ?_); rintro e w2 ⟨rfl, hb2⟩))
        refine bodyPost_ret (v := .tuple #[.int .i64 u, .bool true]) (by simp [results, Tryz.results30, go_sem] <;> rfl) rfl ⟨rfl, hb1.trans (hb2.mono hb1.size)⟩
      · rw [decide_eq_false h0] at e2
        have d0 : decide (0 ≤ u) = false := decide_eq_false h0
        obtain rfl : b = false := e2
        go_enter Tryz.func30, Tryz.ntmps30
        go_wp2_with (first
          | (go_at_call 63; (with_reducible refine hP.mono ?_); rintro e w1 ⟨⟨v, rfl, hv⟩, hb1⟩; obtain rfl : v = .nilIface := hv; have hF1 := hF w1 (hx.below hb1))
          | (go_at_call 39; (with_reducible refine hF1.mono ?_); rintro e w2 ⟨rfl, hb2⟩))
        refine bodyPost_ret (v := .tuple #[.int .i64 u, .bool false]) (by simp [results, Tryz.results30, go_sem] <;> rfl) rfl ⟨rfl, hb1.trans (hb2.mono hb1.size)⟩
    · rw [decide_eq_false hi] at hq e2
      obtain rfl : b = false := e2
      clear hi
      go_enter Tryz.func30, Tryz.ntmps30
      go_wp2_with (first
        | (go_at_call 63; (with_reducible refine hP.mono ?_); rintro e w1 ⟨⟨v, rfl, hv⟩, hb1⟩; obtain rfl : v = .nilIface := hv; have hF1 := hF w1 (hx.below hb1))
        | (go_at_call 39; (with_reducible refine hF1.mono ?_); rintro e w2 ⟨rfl, hb2⟩))
      refine bodyPost_ret (v := .tuple #[.int .i64 u, .bool false]) (by simp [results, Tryz.results30, go_sem] <;> rfl) rfl ⟨rfl, hb1.trans (hb2.mono hb1.size)⟩
  | _ =>
    have e2 : b = false := by rw [← hb]; unfold intP; rw [h]
    subst e2
    rw [h] at hP
    clear hu hb h hle hF
    go_enter Tryz.func30, Tryz.ntmps30
    go_wp2_with (first
      | (go_at_call 63; (with_reducible refine hP.mono ?_); rintro e w1 ⟨⟨v, rfl, hv⟩, hb1⟩; obtain ⟨t, p, rfl⟩ := hv))
    refine bodyPost_ret (v := .tuple #[.int .i64 u, .bool false]) (by simp [results, Tryz.results30, go_sem] <;> rfl) rfl ⟨rfl, hb1⟩
end Go.Proofs.YtamnononemallaaGreatDoor

/-! The op whose word a text is: slices.Index over the words. -/
namespace Go.Proofs.YtamnononemallaaGreatDoor
open Go.RowKit
def opI (w : List UInt8) : Int := match opW w with
  | some k => k
  | none => -1
set_option maxRecDepth 100000 in
set_option maxHeartbeats 4000000 in
theorem index_any (s : ByteArray) (w : World) (hx : Sx w) :
    Calls Tryz.prog 26 #[.slice (some ⟨0, 0, none⟩) 6 6, .string s] w fun e w' => e = .returned (.int .i64 (opI s.data.toList)) ∧ w' = w := by
  obtain ⟨R, hR⟩ : ∃ R, opI s.data.toList = R := ⟨_, rfl⟩
  have hW := hx.wds
  rw [hR]
  go_enter Tryz.func26, Tryz.ntmps26
  go_wp2
  go_loopw [8] (fun s8 wr => ∃ k : Nat, k ≤ 6 ∧ s8 = .int .i64 (k : Int) ∧ (∀ j, j < k → s.data.toList ≠ wordB j) ∧ wr = w) (fun s8 _ => (6 - intOf s8).toNat)
  case atStart => exact ⟨0, by omega, rfl, fun j hj => absurd hj (by omega), rfl⟩
  case round =>
    obtain ⟨k, hk, rfl, hno, rfl⟩ := hrel
    by_cases hlt : k < 6
    · have hki : (k : Int) < 6 := by omega
      have hc := hW k (by omega)
      have hq := eqB9 s ⟨(wordB k).toArray⟩
      simp only [List.toList_toArray] at hq
      by_cases he : s.data.toList = wordB k
      · rw [decide_eq_true he] at hq
        have hO := hide (show (k : Int) = R from by
          rw [← hR, opI, he, opW_word (by omega)])
        generalize (⟨(wordB k).toArray⟩ : ByteArray) = wk at *
        clear hR hno he
        go_wp2
        refine bodyPost_ret (v := .int .i64 (k : Int)) (by simp [results, Tryz.results26, go_sem] <;> rfl) rfl ⟨by rw [hO.out], rfl⟩
      · rw [decide_eq_false he] at hq
        have hO := hide (show ∀ j, j < k + 1 → s.data.toList ≠ wordB j from fun j hj => by
          rcases Nat.lt_or_ge j k with h | h
          · exact hno j h
          · rw [show j = k by omega]; exact he)
        generalize (⟨(wordB k).toArray⟩ : ByteArray) = wk at *
        clear hno he
        go_wp2
        go_roundw
        case rel => exact ⟨k + 1, by omega, by go_num, hO.out, by trivial⟩
        case measure => first | (simp [intOf]; done) | (simp [intOf]; omega)
    · obtain rfl : k = 6 := by omega
      have hO := hide (show (-1 : Int) = R from by
        rw [← hR, opI, opW_none (fun j hj => hno j (by omega))])
      clear hR hno
      go_wp2
      refine bodyPost_ret (v := .int .i64 (-1)) (by simp [results, Tryz.results26, go_sem] <;> rfl) rfl ⟨by rw [hO.out], rfl⟩
end Go.Proofs.YtamnononemallaaGreatDoor

/-! Whether a query may be: the program's, and the document's. -/
namespace Go.Proofs.YtamnononemallaaGreatDoor
open Go.RowKit
structure Qy.ok (q : Qy) : Prop where
  r : ∀ x ∈ q.r, x.ok
  op : -9223372036854775808 ≤ q.op ∧ q.op ≤ 9223372036854775807
  f : -9223372036854775808 ≤ q.f ∧ q.f ≤ 9223372036854775807
  t : -9223372036854775808 ≤ q.t ∧ q.t ≤ 9223372036854775807
  s : -9223372036854775808 ≤ q.s ∧ q.s ≤ 9223372036854775807
/-- The ways of 'Right': each with the answer. -/
def RightWays (q : Qy) : Prop :=
  (decide (q.op < 0) = true ∧ rightQ q = false) ∨
  (decide (q.op < 0) = false ∧ decide (5 < q.op) = true ∧ rightQ q = false) ∨
  (decide (q.op < 0) = false ∧ decide (5 < q.op) = false ∧ rightR q.r = false ∧ rightQ q = false) ∨
  (decide (q.op < 0) = false ∧ decide (5 < q.op) = false ∧ rightR q.r = true ∧ decide (q.f < 0) = true ∧ rightQ q = false) ∨
  (decide (q.op < 0) = false ∧ decide (5 < q.op) = false ∧ rightR q.r = true ∧ decide (q.f < 0) = false ∧ decide (q.t < q.f) = true ∧ rightQ q = false) ∨
  (decide (q.op < 0) = false ∧ decide (5 < q.op) = false ∧ rightR q.r = true ∧ decide (q.f < 0) = false ∧ decide (q.t < q.f) = false ∧ decide (4611686018427387904 < q.t) = true ∧ rightQ q = false) ∨
  (decide (q.op < 0) = false ∧ decide (5 < q.op) = false ∧ rightR q.r = true ∧ decide (q.f < 0) = false ∧ decide (q.t < q.f) = false ∧ decide (4611686018427387904 < q.t) = false ∧
    (((q.op == 0) = true ∧ ∃ b, (q.s == 0) = b ∧ rightQ q = b) ∨ ((q.op == 0) = false ∧ decide (1 ≤ q.s) = false ∧ decide (q.s < 1) = true ∧ rightQ q = false) ∨
      ((q.op == 0) = false ∧ decide (1 ≤ q.s) = true ∧ decide (q.s < 1) = false ∧ decide (q.s ≤ 4611686018427387904) = false ∧ decide (4611686018427387904 < q.s) = true ∧ rightQ q = false) ∨
      ((q.op == 0) = false ∧ decide (1 ≤ q.s) = true ∧ decide (q.s < 1) = false ∧ decide (q.s ≤ 4611686018427387904) = true ∧ decide (4611686018427387904 < q.s) = false ∧ (q.t == q.f) = true ∧ rightQ q = true) ∨
      ((q.op == 0) = false ∧ decide (1 ≤ q.s) = true ∧ decide (q.s < 1) = false ∧ decide (q.s ≤ 4611686018427387904) = true ∧ decide (4611686018427387904 < q.s) = false ∧ (q.t == q.f) = false ∧ ∃ b, decide ((q.t - q.f - 1) / q.s < 1024) = b ∧ rightQ q = b)))
theorem right_ways (q : Qy) : RightWays q := by
  obtain ⟨op, r, f, t, s, n⟩ := q
  unfold RightWays rightQ
  dsimp only
  by_cases h1 : op < 0
  · exact .inl ⟨decide_eq_true h1, by rw [decide_eq_false (show ¬ 0 ≤ op by omega)]; rfl⟩
  · have a1 : decide (op < 0) = false := decide_eq_false h1
    have c1 : decide (0 ≤ op) = true := decide_eq_true (by omega)
    rw [c1]
    refine .inr ?_
    by_cases h2 : 5 < op
    · exact .inl ⟨a1, decide_eq_true h2, by rw [decide_eq_false (show ¬ op ≤ 5 by omega)]; rfl⟩
    · have a2 : decide (5 < op) = false := decide_eq_false h2
      have c2 : decide (op ≤ 5) = true := decide_eq_true (by omega)
      rw [c2]
      refine .inr ?_
      cases h3 : rightR r with
      | false => exact .inl ⟨a1, a2, rfl, rfl⟩
      | true =>
        refine .inr ?_
        by_cases h4 : f < 0
        · exact .inl ⟨a1, a2, rfl, decide_eq_true h4, by rw [decide_eq_false (show ¬ 0 ≤ f by omega)]; rfl⟩
        · have a4 : decide (f < 0) = false := decide_eq_false h4
          have c4 : decide (0 ≤ f) = true := decide_eq_true (by omega)
          rw [c4]
          refine .inr ?_
          by_cases h5 : t < f
          · exact .inl ⟨a1, a2, rfl, a4, decide_eq_true h5, by rw [decide_eq_false (show ¬ f ≤ t by omega)]; rfl⟩
          · have a5 : decide (t < f) = false := decide_eq_false h5
            have c5 : decide (f ≤ t) = true := decide_eq_true (by omega)
            rw [c5]
            refine .inr ?_
            by_cases h6 : 4611686018427387904 < t
            · exact .inl ⟨a1, a2, rfl, a4, a5, decide_eq_true h6, by rw [decide_eq_false (show ¬ t ≤ 4611686018427387904 by omega)]; rfl⟩
            · have a6 : decide (4611686018427387904 < t) = false := decide_eq_false h6
              have c6 : decide (t ≤ 4611686018427387904) = true := decide_eq_true (by omega)
              rw [c6]
              refine .inr ⟨a1, a2, rfl, a4, a5, a6, ?_⟩
              by_cases h7 : op = 0
              · refine .inl ⟨by simpa using h7, decide (s = 0), by rw [Bool.eq_iff_iff]; simp, ?_⟩
                rw [if_pos h7]; rfl
              · have a7 : (op == 0) = false := by simpa using h7
                rw [if_neg h7]
                refine .inr ?_
                by_cases h8 : 1 ≤ s
                · have a8 : decide (1 ≤ s) = true := decide_eq_true h8
                  have b8 : decide (s < 1) = false := decide_eq_false (by omega)
                  rw [a8]
                  refine .inr ?_
                  by_cases h9 : s ≤ 4611686018427387904
                  · have a9 : decide (s ≤ 4611686018427387904) = true := decide_eq_true h9
                    have b9 : decide (4611686018427387904 < s) = false := decide_eq_false (by omega)
                    rw [a9]
                    refine .inr ?_
                    by_cases h10 : t = f
                    · exact .inl ⟨a7, rfl, b8, rfl, b9, by simpa using h10, by rw [decide_eq_true h10]; rfl⟩
                    · refine .inr ⟨a7, rfl, b8, rfl, b9, by simpa using h10, _, rfl, ?_⟩
                      rw [decide_eq_false h10]; rfl
                  · exact .inl ⟨a7, rfl, b8, decide_eq_false h9, decide_eq_true (by omega), by rw [decide_eq_false h9]; rfl⟩
                · exact .inl ⟨a7, decide_eq_false h8, decide_eq_true (by omega), by rw [decide_eq_false h8]; rfl⟩
set_option maxRecDepth 100000 in
set_option maxHeartbeats 16000000 in
theorem aright_any (q : Qy) (rv : Value) (w : World) (hr : Rz w rv q.r) (hok : q.ok) :
    Calls Tryz.prog 9 #[.agg #[.int .i64 q.op, rv, .int .i64 q.f, .int .i64 q.t, .int .i64 q.s, .bool q.n]] w fun e w' => e = .returned (.bool (rightQ q)) ∧ Below w.heap.size w w' := by
  have hM := fun W h => mright_any rv q.r W h hok.r
  obtain ⟨A, c, rfl⟩ := hr.shape
  have hok' := hide hok
  rcases right_ways q with ⟨d1, hF⟩ | ⟨d1, d2, hF⟩ | ⟨d1, d2, h3, hF⟩ | ⟨d1, d2, h3, d4, hF⟩ | ⟨d1, d2, h3, d4, d5, hF⟩ | ⟨d1, d2, h3, d4, d5, d6, hF⟩ | ⟨d1, d2, h3, d4, d5, d6, hT⟩
  · replace hF := hide hF
    clear hok
    go_enter Tryz.func9, Tryz.ntmps9; go_wp2_with (go_at_call 34; with_reducible refine (hM _ (hr.alloc _)).mono ?_; rintro e w' ⟨rfl, hb⟩; obtain ⟨X, rfl⟩ := World.ext_of_below hb; clear hb); go_ret; exact ⟨by rw [hF.out]; rfl, by (repeat' (first | with_reducible (first | exact Below.refl _ _ | refine Below.ext ?_ ?_ _ | refine Below.alloc ?_ ?_ _ | refine Below.setCell ?_ ?_ _ | refine Below.drew ?_ | assumption) | (simp [World.size_ext]; done) | (simp [World.size_ext]; omega)))⟩
  · replace hF := hide hF
    clear hok
    go_enter Tryz.func9, Tryz.ntmps9; go_wp2_with (go_at_call 34; with_reducible refine (hM _ (hr.alloc _)).mono ?_; rintro e w' ⟨rfl, hb⟩; obtain ⟨X, rfl⟩ := World.ext_of_below hb; clear hb); go_ret; exact ⟨by rw [hF.out]; rfl, by (repeat' (first | with_reducible (first | exact Below.refl _ _ | refine Below.ext ?_ ?_ _ | refine Below.alloc ?_ ?_ _ | refine Below.setCell ?_ ?_ _ | refine Below.drew ?_ | assumption) | (simp [World.size_ext]; done) | (simp [World.size_ext]; omega)))⟩
  · replace hF := hide hF
    rw [h3] at hM
    clear hok
    go_enter Tryz.func9, Tryz.ntmps9; go_wp2_with (go_at_call 34; with_reducible refine (hM _ (hr.alloc _)).mono ?_; rintro e w' ⟨rfl, hb⟩; obtain ⟨X, rfl⟩ := World.ext_of_below hb; clear hb); go_ret; exact ⟨by rw [hF.out]; rfl, by (repeat' (first | with_reducible (first | exact Below.refl _ _ | refine Below.ext ?_ ?_ _ | refine Below.alloc ?_ ?_ _ | refine Below.setCell ?_ ?_ _ | refine Below.drew ?_ | assumption) | (simp [World.size_ext]; done) | (simp [World.size_ext]; omega)))⟩
  · replace hF := hide hF
    rw [h3] at hM
    clear hok
    go_enter Tryz.func9, Tryz.ntmps9; go_wp2_with (go_at_call 34; with_reducible refine (hM _ (hr.alloc _)).mono ?_; rintro e w' ⟨rfl, hb⟩; obtain ⟨X, rfl⟩ := World.ext_of_below hb; clear hb); go_ret; exact ⟨by rw [hF.out]; rfl, by (repeat' (first | with_reducible (first | exact Below.refl _ _ | refine Below.ext ?_ ?_ _ | refine Below.alloc ?_ ?_ _ | refine Below.setCell ?_ ?_ _ | refine Below.drew ?_ | assumption) | (simp [World.size_ext]; done) | (simp [World.size_ext]; omega)))⟩
  · replace hF := hide hF
    rw [h3] at hM
    clear hok
    go_enter Tryz.func9, Tryz.ntmps9; go_wp2_with (go_at_call 34; with_reducible refine (hM _ (hr.alloc _)).mono ?_; rintro e w' ⟨rfl, hb⟩; obtain ⟨X, rfl⟩ := World.ext_of_below hb; clear hb); go_ret; exact ⟨by rw [hF.out]; rfl, by (repeat' (first | with_reducible (first | exact Below.refl _ _ | refine Below.ext ?_ ?_ _ | refine Below.alloc ?_ ?_ _ | refine Below.setCell ?_ ?_ _ | refine Below.drew ?_ | assumption) | (simp [World.size_ext]; done) | (simp [World.size_ext]; omega)))⟩
  · replace hF := hide hF
    rw [h3] at hM
    clear hok
    go_enter Tryz.func9, Tryz.ntmps9; go_wp2_with (go_at_call 34; with_reducible refine (hM _ (hr.alloc _)).mono ?_; rintro e w' ⟨rfl, hb⟩; obtain ⟨X, rfl⟩ := World.ext_of_below hb; clear hb); go_ret; exact ⟨by rw [hF.out]; rfl, by (repeat' (first | with_reducible (first | exact Below.refl _ _ | refine Below.ext ?_ ?_ _ | refine Below.alloc ?_ ?_ _ | refine Below.setCell ?_ ?_ _ | refine Below.drew ?_ | assumption) | (simp [World.size_ext]; done) | (simp [World.size_ext]; omega)))⟩
  · rw [h3] at hM
    rcases hT with ⟨d7, b, d8, hF⟩ | ⟨d7, d9, _, hF⟩ | ⟨d7, d9, _, d10, _, hF⟩ | ⟨d7, d9, _, d10, _, d11, hF⟩ | ⟨d7, d9, _, d10, _, d11, b, d12, hF⟩
    · replace hF := hide hF
      clear hok
      go_enter Tryz.func9, Tryz.ntmps9; go_wp2_with (go_at_call 34; with_reducible refine (hM _ (hr.alloc _)).mono ?_; rintro e w' ⟨rfl, hb⟩; obtain ⟨X, rfl⟩ := World.ext_of_below hb; clear hb); go_ret; exact ⟨by rw [hF.out]; rfl, by (repeat' (first | with_reducible (first | exact Below.refl _ _ | refine Below.ext ?_ ?_ _ | refine Below.alloc ?_ ?_ _ | refine Below.setCell ?_ ?_ _ | refine Below.drew ?_ | assumption) | (simp [World.size_ext]; done) | (simp [World.size_ext]; omega)))⟩
    · replace hF := hide hF
      clear hok
      go_enter Tryz.func9, Tryz.ntmps9; go_wp2_with (go_at_call 34; with_reducible refine (hM _ (hr.alloc _)).mono ?_; rintro e w' ⟨rfl, hb⟩; obtain ⟨X, rfl⟩ := World.ext_of_below hb; clear hb); go_ret; exact ⟨by rw [hF.out]; rfl, by (repeat' (first | with_reducible (first | exact Below.refl _ _ | refine Below.ext ?_ ?_ _ | refine Below.alloc ?_ ?_ _ | refine Below.setCell ?_ ?_ _ | refine Below.drew ?_ | assumption) | (simp [World.size_ext]; done) | (simp [World.size_ext]; omega)))⟩
    · replace hF := hide hF
      clear hok
      go_enter Tryz.func9, Tryz.ntmps9; go_wp2_with (go_at_call 34; with_reducible refine (hM _ (hr.alloc _)).mono ?_; rintro e w' ⟨rfl, hb⟩; obtain ⟨X, rfl⟩ := World.ext_of_below hb; clear hb); go_ret; exact ⟨by rw [hF.out]; rfl, by (repeat' (first | with_reducible (first | exact Below.refl _ _ | refine Below.ext ?_ ?_ _ | refine Below.alloc ?_ ?_ _ | refine Below.setCell ?_ ?_ _ | refine Below.drew ?_ | assumption) | (simp [World.size_ext]; done) | (simp [World.size_ext]; omega)))⟩
    · replace hF := hide hF
      clear hok
      go_enter Tryz.func9, Tryz.ntmps9; go_wp2_with (go_at_call 34; with_reducible refine (hM _ (hr.alloc _)).mono ?_; rintro e w' ⟨rfl, hb⟩; obtain ⟨X, rfl⟩ := World.ext_of_below hb; clear hb); go_ret; exact ⟨by rw [hF.out]; rfl, by (repeat' (first | with_reducible (first | exact Below.refl _ _ | refine Below.ext ?_ ?_ _ | refine Below.alloc ?_ ?_ _ | refine Below.setCell ?_ ?_ _ | refine Below.drew ?_ | assumption) | (simp [World.size_ext]; done) | (simp [World.size_ext]; omega)))⟩
    · have h4 := of_decide_eq_false d4
      have h5 := of_decide_eq_false d5
      have h6 := of_decide_eq_false d6
      have h9 := of_decide_eq_true d9
      have h10 : q.t ≠ q.f := by simpa using d11
      have m2 : wrap64 (q.t - q.f) = q.t - q.f := by unfold wrap64; omega
      have m3 : wrap64 (q.t - q.f - 1) = q.t - q.f - 1 := by unfold wrap64; omega
      have m4 : (q.t - q.f - 1).tdiv q.s = (q.t - q.f - 1) / q.s := Int.tdiv_eq_ediv_of_nonneg (by omega)
      have q0 : 0 ≤ (q.t - q.f - 1) / q.s := Int.ediv_nonneg (by omega) (by omega)
      have q1 : (q.t - q.f - 1) / q.s ≤ q.t - q.f - 1 := Int.ediv_le_self _ (by omega)
      have m6 : wrap64 ((q.t - q.f - 1) / q.s) = (q.t - q.f - 1) / q.s := by unfold wrap64; omega
      have m7 : ¬ q.s = 0 := by omega
      replace hF := hide hF
      clear hok q0 q1 h10
      go_enter Tryz.func9, Tryz.ntmps9; go_wp2_with (go_at_call 34; with_reducible refine (hM _ (hr.alloc _)).mono ?_; rintro e w' ⟨rfl, hb⟩; obtain ⟨X, rfl⟩ := World.ext_of_below hb; clear hb); go_ret; exact ⟨by rw [hF.out]; rfl, by (repeat' (first | with_reducible (first | exact Below.refl _ _ | refine Below.ext ?_ ?_ _ | refine Below.alloc ?_ ?_ _ | refine Below.setCell ?_ ?_ _ | refine Below.drew ?_ | assumption) | (simp [World.size_ext]; done) | (simp [World.size_ext]; omega)))⟩
set_option maxRecDepth 100000 in
set_option maxHeartbeats 16000000 in
theorem dright_any (q : Qy) (rv : Value) (w : World) (hr : Rz w rv q.r) (hok : q.ok) :
    Calls Tryz.prog 11 #[.agg #[.int .i64 q.op, rv, .int .i64 q.f, .int .i64 q.t, .int .i64 q.s, .bool q.n]] w fun e w' => e = .returned (.bool (rightQ q)) ∧ Below w.heap.size w w' := by
  have hM := fun W h => rright_any rv q.r W h hok.r
  have hW := fun W : World => rwindows_any 2 none 0 0 [] q.f q.t q.s W Reads.none_ (fun p hp => by cases hp) (by omega) (by omega) hok.f hok.t hok.s
  obtain ⟨A, c, rfl⟩ := hr.shape
  have hok' := hide hok
  rcases right_ways q with ⟨d1, hF⟩ | ⟨d1, d2, hF⟩ | ⟨d1, d2, h3, hF⟩ | ⟨d1, d2, h3, d4, hF⟩ | ⟨d1, d2, h3, d4, d5, hF⟩ | ⟨d1, d2, h3, d4, d5, d6, hF⟩ | ⟨d1, d2, h3, d4, d5, d6, hT⟩
  · replace hF := hide hF
    clear hok
    go_enter Tryz.func11, Tryz.ntmps11; go_wp2_with (first | (go_at_call 36; with_reducible refine (hM _ (hr.alloc _)).mono ?_; rintro e w' ⟨rfl, hb⟩; obtain ⟨X, rfl⟩ := World.ext_of_below hb; clear hb) | (go_at_call 37; (with_reducible refine (hW _).mono ?_); rintro e w2 ⟨vv, rfl, _, hb2⟩; obtain ⟨X2, rfl⟩ := World.ext_of_below hb2; clear hb2)); go_ret; exact ⟨by rw [hF.out]; rfl, by (repeat' (first | with_reducible (first | exact Below.refl _ _ | refine Below.ext ?_ ?_ _ | refine Below.alloc ?_ ?_ _ | refine Below.setCell ?_ ?_ _ | refine Below.drew ?_ | assumption) | (simp [World.size_ext]; done) | (simp [World.size_ext]; omega)))⟩
  · replace hF := hide hF
    clear hok
    go_enter Tryz.func11, Tryz.ntmps11; go_wp2_with (first | (go_at_call 36; with_reducible refine (hM _ (hr.alloc _)).mono ?_; rintro e w' ⟨rfl, hb⟩; obtain ⟨X, rfl⟩ := World.ext_of_below hb; clear hb) | (go_at_call 37; (with_reducible refine (hW _).mono ?_); rintro e w2 ⟨vv, rfl, _, hb2⟩; obtain ⟨X2, rfl⟩ := World.ext_of_below hb2; clear hb2)); go_ret; exact ⟨by rw [hF.out]; rfl, by (repeat' (first | with_reducible (first | exact Below.refl _ _ | refine Below.ext ?_ ?_ _ | refine Below.alloc ?_ ?_ _ | refine Below.setCell ?_ ?_ _ | refine Below.drew ?_ | assumption) | (simp [World.size_ext]; done) | (simp [World.size_ext]; omega)))⟩
  · replace hF := hide hF
    rw [h3] at hM
    clear hok
    go_enter Tryz.func11, Tryz.ntmps11; go_wp2_with (first | (go_at_call 36; with_reducible refine (hM _ (hr.alloc _)).mono ?_; rintro e w' ⟨rfl, hb⟩; obtain ⟨X, rfl⟩ := World.ext_of_below hb; clear hb) | (go_at_call 37; (with_reducible refine (hW _).mono ?_); rintro e w2 ⟨vv, rfl, _, hb2⟩; obtain ⟨X2, rfl⟩ := World.ext_of_below hb2; clear hb2)); go_ret; exact ⟨by rw [hF.out]; rfl, by (repeat' (first | with_reducible (first | exact Below.refl _ _ | refine Below.ext ?_ ?_ _ | refine Below.alloc ?_ ?_ _ | refine Below.setCell ?_ ?_ _ | refine Below.drew ?_ | assumption) | (simp [World.size_ext]; done) | (simp [World.size_ext]; omega)))⟩
  · replace hF := hide hF
    rw [h3] at hM
    clear hok
    go_enter Tryz.func11, Tryz.ntmps11; go_wp2_with (first | (go_at_call 36; with_reducible refine (hM _ (hr.alloc _)).mono ?_; rintro e w' ⟨rfl, hb⟩; obtain ⟨X, rfl⟩ := World.ext_of_below hb; clear hb) | (go_at_call 37; (with_reducible refine (hW _).mono ?_); rintro e w2 ⟨vv, rfl, _, hb2⟩; obtain ⟨X2, rfl⟩ := World.ext_of_below hb2; clear hb2)); go_ret; exact ⟨by rw [hF.out]; rfl, by (repeat' (first | with_reducible (first | exact Below.refl _ _ | refine Below.ext ?_ ?_ _ | refine Below.alloc ?_ ?_ _ | refine Below.setCell ?_ ?_ _ | refine Below.drew ?_ | assumption) | (simp [World.size_ext]; done) | (simp [World.size_ext]; omega)))⟩
  · replace hF := hide hF
    rw [h3] at hM
    clear hok
    go_enter Tryz.func11, Tryz.ntmps11; go_wp2_with (first | (go_at_call 36; with_reducible refine (hM _ (hr.alloc _)).mono ?_; rintro e w' ⟨rfl, hb⟩; obtain ⟨X, rfl⟩ := World.ext_of_below hb; clear hb) | (go_at_call 37; (with_reducible refine (hW _).mono ?_); rintro e w2 ⟨vv, rfl, _, hb2⟩; obtain ⟨X2, rfl⟩ := World.ext_of_below hb2; clear hb2)); go_ret; exact ⟨by rw [hF.out]; rfl, by (repeat' (first | with_reducible (first | exact Below.refl _ _ | refine Below.ext ?_ ?_ _ | refine Below.alloc ?_ ?_ _ | refine Below.setCell ?_ ?_ _ | refine Below.drew ?_ | assumption) | (simp [World.size_ext]; done) | (simp [World.size_ext]; omega)))⟩
  · replace hF := hide hF
    rw [h3] at hM
    clear hok
    go_enter Tryz.func11, Tryz.ntmps11; go_wp2_with (first | (go_at_call 36; with_reducible refine (hM _ (hr.alloc _)).mono ?_; rintro e w' ⟨rfl, hb⟩; obtain ⟨X, rfl⟩ := World.ext_of_below hb; clear hb) | (go_at_call 37; (with_reducible refine (hW _).mono ?_); rintro e w2 ⟨vv, rfl, _, hb2⟩; obtain ⟨X2, rfl⟩ := World.ext_of_below hb2; clear hb2)); go_ret; exact ⟨by rw [hF.out]; rfl, by (repeat' (first | with_reducible (first | exact Below.refl _ _ | refine Below.ext ?_ ?_ _ | refine Below.alloc ?_ ?_ _ | refine Below.setCell ?_ ?_ _ | refine Below.drew ?_ | assumption) | (simp [World.size_ext]; done) | (simp [World.size_ext]; omega)))⟩
  · rw [h3] at hM
    rcases hT with ⟨d7, b, d8, hF⟩ | ⟨d7, _, d9, hF⟩ | ⟨d7, _, d9, _, d10, hF⟩ | hT
    · replace hF := hide hF
      clear hok
      go_enter Tryz.func11, Tryz.ntmps11; go_wp2_with (first | (go_at_call 36; with_reducible refine (hM _ (hr.alloc _)).mono ?_; rintro e w' ⟨rfl, hb⟩; obtain ⟨X, rfl⟩ := World.ext_of_below hb; clear hb) | (go_at_call 37; (with_reducible refine (hW _).mono ?_); rintro e w2 ⟨vv, rfl, _, hb2⟩; obtain ⟨X2, rfl⟩ := World.ext_of_below hb2; clear hb2)); go_ret; exact ⟨by rw [hF.out]; rfl, by (repeat' (first | with_reducible (first | exact Below.refl _ _ | refine Below.ext ?_ ?_ _ | refine Below.alloc ?_ ?_ _ | refine Below.setCell ?_ ?_ _ | refine Below.drew ?_ | assumption) | (simp [World.size_ext]; done) | (simp [World.size_ext]; omega)))⟩
    · replace hF := hide hF
      clear hok
      go_enter Tryz.func11, Tryz.ntmps11; go_wp2_with (first | (go_at_call 36; with_reducible refine (hM _ (hr.alloc _)).mono ?_; rintro e w' ⟨rfl, hb⟩; obtain ⟨X, rfl⟩ := World.ext_of_below hb; clear hb) | (go_at_call 37; (with_reducible refine (hW _).mono ?_); rintro e w2 ⟨vv, rfl, _, hb2⟩; obtain ⟨X2, rfl⟩ := World.ext_of_below hb2; clear hb2)); go_ret; exact ⟨by rw [hF.out]; rfl, by (repeat' (first | with_reducible (first | exact Below.refl _ _ | refine Below.ext ?_ ?_ _ | refine Below.alloc ?_ ?_ _ | refine Below.setCell ?_ ?_ _ | refine Below.drew ?_ | assumption) | (simp [World.size_ext]; done) | (simp [World.size_ext]; omega)))⟩
    · replace hF := hide hF
      clear hok
      go_enter Tryz.func11, Tryz.ntmps11; go_wp2_with (first | (go_at_call 36; with_reducible refine (hM _ (hr.alloc _)).mono ?_; rintro e w' ⟨rfl, hb⟩; obtain ⟨X, rfl⟩ := World.ext_of_below hb; clear hb) | (go_at_call 37; (with_reducible refine (hW _).mono ?_); rintro e w2 ⟨vv, rfl, _, hb2⟩; obtain ⟨X2, rfl⟩ := World.ext_of_below hb2; clear hb2)); go_ret; exact ⟨by rw [hF.out]; rfl, by (repeat' (first | with_reducible (first | exact Below.refl _ _ | refine Below.ext ?_ ?_ _ | refine Below.alloc ?_ ?_ _ | refine Below.setCell ?_ ?_ _ | refine Below.drew ?_ | assumption) | (simp [World.size_ext]; done) | (simp [World.size_ext]; omega)))⟩
    · have h4 := of_decide_eq_false d4
      have h5 := of_decide_eq_false d5
      have h6 := of_decide_eq_false d6
      obtain ⟨d7, d9, d10, hF, d11⟩ : (q.op == 0) = false ∧ decide (q.s < 1) = false ∧ decide (4611686018427387904 < q.s) = false ∧ rightQ q = decide (q.t = q.f ∨ (q.t - q.f - 1) / q.s < 1024) ∧ 1 ≤ q.s := by
        rcases hT with ⟨a1, a2, a3, _, a4, a5, a6⟩ | ⟨a1, a2, a3, _, a4, a5, b, a6, a7⟩
        · refine ⟨a1, a3, a4, ?_, of_decide_eq_true a2⟩
          rw [a6, eq_comm, decide_eq_true_eq]
          exact .inl (by simpa using a5)
        · refine ⟨a1, a3, a4, ?_, of_decide_eq_true a2⟩
          have h : q.t ≠ q.f := by simpa using a5
          rw [a7, ← a6, Bool.eq_iff_iff]
          simp [h]
      have hwr := win_right (f := q.f) (t := q.t) (s := q.s) (by omega) (by omega) (by omega) d11
      obtain ⟨b, hb⟩ : ∃ b, ((rwinsA 2 [] q.f q.t q.s).2 == 0) = b := ⟨_, rfl⟩
      have hF' : rightQ q = b := by
        rw [hF, ← hb, Bool.eq_iff_iff, decide_eq_true_eq, beq_iff_eq, hwr]
      replace hF := hide hF'
      generalize (rwinsA 2 [] q.f q.t q.s).2 = e12 at *
      clear hok hwr hF' d11
      go_enter Tryz.func11, Tryz.ntmps11; go_wp2_with (first | (go_at_call 36; with_reducible refine (hM _ (hr.alloc _)).mono ?_; rintro e w' ⟨rfl, hb⟩; obtain ⟨X, rfl⟩ := World.ext_of_below hb; clear hb) | (go_at_call 37; (with_reducible refine (hW _).mono ?_); rintro e w2 ⟨vv, rfl, _, hb2⟩; obtain ⟨X2, rfl⟩ := World.ext_of_below hb2; clear hb2)); go_ret; exact ⟨by rw [hF.out]; rfl, by (repeat' (first | with_reducible (first | exact Below.refl _ _ | refine Below.ext ?_ ?_ _ | refine Below.alloc ?_ ?_ _ | refine Below.setCell ?_ ?_ _ | refine Below.drew ?_ | assumption) | (simp [World.size_ext]; done) | (simp [World.size_ext]; omega)))⟩
end Go.Proofs.YtamnononemallaaGreatDoor

/-! The document's word of an op. -/
namespace Go.Proofs.YtamnononemallaaGreatDoor
open Go.RowKit
set_option maxRecDepth 100000 in
set_option maxHeartbeats 4000000 in
theorem dword_any (op : Int) (w : World) :
    Calls Tryz.prog 31 #[.int .i64 op] w fun e w' => e = .returned (.string ⟨(wordOf op).toArray⟩) ∧ Below w.heap.size w w' := by
  by_cases h : 0 ≤ op ∧ op ≤ 5
  · have h' : op = 0 ∨ op = 1 ∨ op = 2 ∨ op = 3 ∨ op = 4 ∨ op = 5 := by omega
    clear h
    rcases h' with rfl | rfl | rfl | rfl | rfl | rfl
    all_goals
      go_enter Tryz.func31, Tryz.ntmps31
      go_wp2
      go_ret
      exact ⟨rfl, Below.refl _ _⟩
  · have d0 : (op == 0) = false := by simp; omega
    have d1 : (op == 1) = false := by simp; omega
    have d2 : (op == 2) = false := by simp; omega
    have d3 : (op == 3) = false := by simp; omega
    have d4 : (op == 4) = false := by simp; omega
    have d5 : (op == 5) = false := by simp; omega
    have hw := hide (show wordOf op = [63] from by unfold wordOf; rw [if_neg h])
    clear h
    go_enter Tryz.func31, Tryz.ntmps31
    go_wp2
    go_ret
    exact ⟨by rw [hw.out]; rfl, Below.refl _ _⟩
end Go.Proofs.YtamnononemallaaGreatDoor

/-! The document's number: a blank and a number at a place. -/
namespace Go.Proofs.YtamnononemallaaGreatDoor
open Go.RowKit
structure NumF where
  n : Int
  at_ : Int
/-- The number, and the place behind it. -/
def numF (T : List UInt8) (a : Int) : NumF := if a < 0 then ⟨0, -1⟩ else match num1 (T.drop a.toNat) with
  | none => ⟨0, -1⟩
  | some (n, r) => ⟨n, (T.length : Int) - r.length⟩
theorem take_digits : ∀ {l : List UInt8} {k : Nat}, (l.take k).all isD = true → (∀ x, l[k]? = some x → isD x = false) → k ≤ l.length → l.takeWhile isD = l.take k ∧ l.dropWhile isD = l.drop k
  | [], 0, _, _, _ => ⟨rfl, rfl⟩
  | [], k + 1, _, _, h => by simp at h
  | x :: l, 0, _, h, _ => by
    have := h x rfl
    simp [this]
  | x :: l, k + 1, h1, h2, h3 => by
    simp only [List.take_succ_cons, List.all_cons, Bool.and_eq_true] at h1
    obtain ⟨e1, e2⟩ := take_digits (l := l) (k := k) h1.2 (fun y hy => h2 y (by rw [List.getElem?_cons_succ]; exact hy)) (by simpa using h3)
    simp [h1.1, e1, e2]
theorem numF_neg {T : List UInt8} {a : Int} (h : a < 0) : numF T a = ⟨0, -1⟩ := by unfold numF; rw [if_pos h]
theorem numF_end {T : List UInt8} {a : Nat} (h : T.length ≤ a) : numF T a = ⟨0, -1⟩ := by
  unfold numF
  rw [if_neg (by omega), Int.toNat_natCast, List.drop_eq_nil_of_le h]
  rfl
theorem numF_no {T : List UInt8} {a : Nat} {x : UInt8} {r : List UInt8} (h : T.drop a = x :: r) (hx : x ≠ 32) : numF T a = ⟨0, -1⟩ := by
  unfold numF
  rw [if_neg (by omega), Int.toNat_natCast, h, num1, if_neg hx]
theorem numF_at {T : List UInt8} {a e : Nat} {r : List UInt8} (h : T.drop a = 32 :: r) (h1 : a + 1 ≤ e) (h2 : e ≤ T.length) (h3 : (r.take (e - (a + 1))).all isD = true) (h4 : ∀ x, T[e]? = some x → isD x = false) :
    numF T a = match numR (r.take (e - (a + 1))) 9223372036854775807 with | none => ⟨0, -1⟩ | some n => ⟨n, e⟩ := by
  have hr : r = T.drop (a + 1) := by rw [← List.drop_drop, h]; rfl
  have hl := congrArg List.length hr
  rw [List.length_drop] at hl
  obtain ⟨e1, e2⟩ := take_digits h3 (fun x hx => h4 x (by rw [hr, List.getElem?_drop, show a + 1 + (e - (a + 1)) = e by omega] at hx; exact hx)) (by omega)
  unfold numF
  rw [if_neg (by omega), Int.toNat_natCast, h, num1, if_pos rfl, e1, e2]
  cases numR (r.take (e - (a + 1))) 9223372036854775807 with
  | none => rfl
  | some n =>
    simp only [Option.map_some, NumF.mk.injEq, true_and, List.length_drop]
    omega
/-- The number that a part is. -/
theorem nums_any (s : ByteArray) (a e : Nat) (w : World) : match numR ((s.data.toList.drop a).take (e - a)) 9223372036854775807 with
    | some m => m ≤ 9223372036854775807 ∧ Calls Tryz.prog 68 #[.string (s.extract a e), .int .u64 9223372036854775807] w fun e w' => e = .returned (.tuple #[.int .u64 (m : Int), .bool true]) ∧ w' = w
    | none => Calls Tryz.prog 68 #[.string (s.extract a e), .int .u64 9223372036854775807] w fun e w' => (∃ x : Nat, e = .returned (.tuple #[.int .u64 (x : Int), .bool false])) ∧ w' = w := by
  have h := number_any (s.extract a e) 9223372036854775807 (Nat.le_refl _) w
  have hex : (s.extract a e).data.toList = (s.data.toList.drop a).take (e - a) := Lib.extract_data _ _ _
  unfold NumOk at h
  rw [hex] at h
  cases hq : numR ((s.data.toList.drop a).take (e - a)) 9223372036854775807 with
  | some m =>
    refine ⟨(numR_inv hq).2, h.mono ?_⟩
    rintro e w' ⟨⟨⟨x, b⟩, rfl, hr⟩, hw⟩
    rw [hq] at hr
    cases b with
    | true =>
      simp only [if_true, Option.some.injEq] at hr
      subst hr
      exact ⟨rfl, hw⟩
    | false => simp at hr
  | none =>
    refine h.mono ?_
    rintro e w' ⟨⟨⟨x, b⟩, rfl, hr⟩, hw⟩
    rw [hq] at hr
    cases b with
    | true => simp at hr
    | false => exact ⟨⟨x, rfl⟩, hw⟩
set_option maxRecDepth 100000 in
set_option maxHeartbeats 8000000 in
theorem dnum_any (s : ByteArray) (hs : s.size ≤ 3000000000000) (a : Int) (w : World) :
    Calls Tryz.prog 33 #[.string s, .int .i64 a] w fun e w' => e = .returned (.tuple #[.int .i64 (numF s.data.toList a).n, .int .i64 (numF s.data.toList a).at_]) ∧ w' = w := by
  have hsz := Lib.size_eq s
  by_cases h0 : a < 0
  · have d0 : decide (a < 0) = true := decide_eq_true h0
    have hR := hide (numF_neg (T := s.data.toList) h0)
    clear hsz h0
    go_enter Tryz.func33, Tryz.ntmps33
    go_wp2
    refine bodyPost_ret (v := .tuple #[.int .i64 0, .int .i64 (-1)]) (by simp [results, Tryz.results33, go_sem] <;> rfl) rfl ⟨by rw [hR.out], rfl⟩
  have d0 : decide (a < 0) = false := decide_eq_false h0
  obtain ⟨n, rfl⟩ : ∃ n : Nat, a = n := ⟨a.toNat, by omega⟩
  by_cases h1 : s.size ≤ n
  · have d1 : decide ((s.size : Int) ≤ n) = true := decide_eq_true (by omega)
    have d1' : decide (s.size ≤ n) = true := decide_eq_true h1
    have hR := hide (numF_end (T := s.data.toList) (a := n) (by omega))
    clear hsz h0
    go_enter Tryz.func33, Tryz.ntmps33
    go_wp2
    refine bodyPost_ret (v := .tuple #[.int .i64 0, .int .i64 (-1)]) (by simp [results, Tryz.results33, go_sem] <;> rfl) rfl ⟨by rw [hR.out], rfl⟩
  have d1 : decide ((s.size : Int) ≤ n) = false := decide_eq_false (by omega)
  have d1' : decide (s.size ≤ n) = false := decide_eq_false h1
  have hlt : n < s.size := by omega
  have hni : (n : Int) < s.size := by omega
  have hdr := drop9 hlt
  obtain ⟨x, hx⟩ : ∃ x : UInt8, s[n] = x := ⟨_, rfl⟩
  rw [hx] at hdr
  by_cases h32 : x.toNat = 32
  · have d2 : ((x.toNat : Int) != 32) = false := by simp; omega
    obtain rfl : x = 32 := UInt8.toNat_inj.1 h32
    have hK := hide (⟨hdr, hsz⟩ : _ ∧ _)
    clear hdr h0 h1 hsz
    go_enter Tryz.func33, Tryz.ntmps33
    go_wp2
    go_loopw [6] (fun s6 wr => ∃ e : Nat, n + 1 ≤ e ∧ e ≤ s.size ∧ s6 = .int .i64 (e : Int) ∧ ((s.data.toList.drop (n + 1)).take (e - (n + 1))).all isD = true ∧ wr = w) (fun s6 _ => ((s.size : Int) - intOf s6).toNat)
    case atStart => exact ⟨n + 1, by omega, by omega, by go_num, by simp, rfl⟩
    case round =>
      obtain ⟨e, he1, he2, rfl, hall, rfl⟩ := hrel
      by_cases hle : e < s.size
      · have hei : decide ((e : Int) < s.size) = true := decide_eq_true (by omega)
        have hei' : (e : Int) < s.size := by omega
        have hde := drop9 hle
        obtain ⟨y, hy⟩ : ∃ y : UInt8, s[e] = y := ⟨_, rfl⟩
        rw [hy] at hde
        by_cases hdy : isD y = true
        · have hdd := isD_le hdy
          have e1 : decide ((48 : Int) ≤ (y.toNat : Int)) = true := decide_eq_true (by omega)
          have e2 : decide ((y.toNat : Int) ≤ 57) = true := decide_eq_true (by omega)
          have hH := hide (show ((s.data.toList.drop (n + 1)).take (e + 1 - (n + 1))).all isD = true from by
            rw [show e + 1 - (n + 1) = (e - (n + 1)) + 1 by omega, List.take_add_one, List.getElem?_drop, show n + 1 + (e - (n + 1)) = e by omega]
            have : s.data.toList[e]? = some y := by have := congrArg (fun l => l[0]?) hde; simpa using this
            rw [this, List.all_append, hall]
            simp [hdy])
          clear hall hde hdd
          go_wp2
          go_roundw
          case rel => exact ⟨e + 1, by omega, by omega, by go_num, hH.out, by trivial⟩
          case measure => first | (simp [intOf]; done) | (simp [intOf]; omega)
        · have hnd : isD y = false := by simpa using hdy
          have hF := numF_at (T := s.data.toList) (a := n) (e := e) hK.out.1 he1 (by have := hK.out.2; omega) hall (fun z hz => by
            have : s.data.toList[e]? = some y := by have := congrArg (fun l => l[0]?) hde; simpa using this
            rw [this] at hz
            injection hz with hz
            rw [← hz]; exact hnd)
          have hor : y.toNat < 48 ∨ 48 ≤ y.toNat ∧ 57 < y.toNat := by
            rcases Nat.lt_or_ge y.toNat 48 with h | h
            · exact .inl h
            · refine .inr ⟨h, ?_⟩
              rcases Nat.lt_or_ge 57 y.toNat with h2 | h2
              · exact h2
              · exact absurd (by simp [isD, h, h2]) hdy
          have b1 : (n : Int) + 1 ≤ e := by omega
          have hNN := nums_any s (n + 1) e
          clear hall hdy hde
          obtain ⟨e1, e2⟩ | ⟨e1, e2⟩ : (decide ((48 : Int) ≤ (y.toNat : Int)) = false ∧ True) ∨ (decide ((48 : Int) ≤ (y.toNat : Int)) = true ∧ decide ((y.toNat : Int) ≤ 57) = false) := by
            rcases hor with h | ⟨h, h2⟩
            · exact .inl ⟨decide_eq_false (by omega), trivial⟩
            · exact .inr ⟨decide_eq_true (by omega), decide_eq_false (by omega)⟩
          all_goals
            clear hor
            generalize numR _ 9223372036854775807 = o at hF hNN
            cases o with
            | some m =>
              dsimp only at hF hNN
              have hm := fun w => (hNN w).2
              have hm1 := (hNN wr).1
              have hwr : wrap64 (m : Int) = m := by unfold wrap64; omega
              have hwr' : IntKind.i64.wrap (m : Int) = m := by rw [IntKind.wrap_i64]; omega
              have hR := hide hF
              clear hF hNN hm1
              go_wp2_with (go_at_call 68; (with_reducible refine (hm _).mono ?_); rintro e w1 ⟨rfl, rfl⟩)
              refine bodyPost_ret (v := .tuple #[.int .i64 (m : Int), .int .i64 (e : Int)]) (by simp [results, Tryz.results33, go_sem] <;> rfl) rfl ⟨by rw [hR.out], rfl⟩
            | none =>
              dsimp only at hF hNN
              have hR := hide hF
              clear hF
              go_wp2_with (go_at_call 68; (with_reducible refine (hNN _).mono ?_); rintro e w1 ⟨⟨x', rfl⟩, rfl⟩)
              refine bodyPost_ret (v := .tuple #[.int .i64 0, .int .i64 (-1)]) (by simp [results, Tryz.results33, go_sem] <;> rfl) rfl ⟨by rw [hR.out], rfl⟩
      · obtain rfl : e = s.size := by omega
        have hei : decide ((s.size : Int) < s.size) = false := decide_eq_false (by omega)
        have hF := numF_at (T := s.data.toList) (a := n) (e := s.size) hK.out.1 he1 (by have := hK.out.2; omega) hall (fun z hz => by
          have := (List.getElem?_eq_some_iff.1 hz).1
          have := hK.out.2
          omega)
        have b1 : (n : Int) + 1 ≤ s.size := by omega
        have hNN := nums_any s (n + 1) s.size
        clear hall
        generalize numR _ 9223372036854775807 = o at hF hNN
        cases o with
        | some m =>
          dsimp only at hF hNN
          have hm := fun w => (hNN w).2
          have hm1 := (hNN wr).1
          have hwr : wrap64 (m : Int) = m := by unfold wrap64; omega
          have hwr' : IntKind.i64.wrap (m : Int) = m := by rw [IntKind.wrap_i64]; omega
          have hR := hide hF
          clear hF hNN hm1
          go_wp2_with (go_at_call 68; (with_reducible refine (hm _).mono ?_); rintro e w1 ⟨rfl, rfl⟩)
          refine bodyPost_ret (v := .tuple #[.int .i64 (m : Int), .int .i64 (s.size : Int)]) (by simp [results, Tryz.results33, go_sem] <;> rfl) rfl ⟨by rw [hR.out], rfl⟩
        | none =>
          dsimp only at hF hNN
          have hR := hide hF
          clear hF
          go_wp2_with (go_at_call 68; (with_reducible refine (hNN _).mono ?_); rintro e w1 ⟨⟨x', rfl⟩, rfl⟩)
          refine bodyPost_ret (v := .tuple #[.int .i64 0, .int .i64 (-1)]) (by simp [results, Tryz.results33, go_sem] <;> rfl) rfl ⟨by rw [hR.out], rfl⟩
  · have d2 : ((x.toNat : Int) != 32) = true := by simp; omega
    have hR := hide (numF_no hdr (fun e => h32 (by rw [e]; rfl)))
    clear hdr h0 h1 hsz
    go_enter Tryz.func33, Tryz.ntmps33
    go_wp2
    refine bodyPost_ret (v := .tuple #[.int .i64 0, .int .i64 (-1)]) (by simp [results, Tryz.results33, go_sem] <;> rfl) rfl ⟨by rw [hR.out], rfl⟩
end Go.Proofs.YtamnononemallaaGreatDoor
