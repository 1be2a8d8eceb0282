import Derived.Test.YtfcpohhfpdhhiaaClock4
/-! Clocks: what is left of the program; a nil clock. -/
namespace Go.Proofs.Ytfcpohhfpdhhiaa
open Go.RowKit
set_option linter.unusedVariables false
set_option linter.unusedSimpArgs false
def fitsP (off up : Int) : Prop := 0 ≤ off ∧ off ≤ 1099511627776 ∧ 0 ≤ up ∧ up ≤ 4611686018427387904
instance (off up : Int) : Decidable (fitsP off up) := by unfold fitsP; infer_instance
def ckNew (off up mark : Int) : Ck := ⟨up, 4294967295, 0, off, up, mark⟩
theorem ckNew_ok {off up mark : Int} (h : fitsP off up) (hm : 0 ≤ mark ∧ mark ≤ 4294967295) : (ckNew off up mark).ok := by
  unfold fitsP at h
  exact ⟨by simp only [ckNew]; omega, by simp [ckNew], by simp [ckNew], by simp only [ckNew]; omega, by simp only [ckNew]; omega, hm⟩
theorem cnew_fit (off up mark : Int) (w : World) (h : fitsP off up) : Calls Try.prog 7 #[.int .i64 off, .int .i64 up, .int .u32 mark] w fun e w' => e = .returned (.tuple #[.pointer (some ⟨w.heap.size, 0, none⟩), .int .i64 0]) ∧ Blk w' w.heap.size 58 (ckNew off up mark).cells ∧ Below w.heap.size w w' := by
  unfold fitsP at h
  have h1 : ¬off < 0 := by omega
  have h2 : ¬1099511627776 < off := by omega
  have h3 : ¬up < 0 := by omega
  have h4 : ¬4611686018427387904 < up := by omega
  go_enter Try.func7, Try.ntmps7
  go_wp2
  refine bodyPost_ret (v := .tuple #[.pointer (some ⟨w.heap.size, 0, none⟩), .int .i64 0]) (by simp [results, Try.results7, go_sem] <;> rfl) rfl ⟨rfl, Blk.new _ _ _, by (repeat' (first | with_reducible exact Below.refl _ _ | with_reducible refine Below.ext ?_ ?_ _ | with_reducible refine Below.alloc ?_ ?_ _ | with_reducible refine Below.setCell ?_ ?_ _ | with_reducible refine Below.drew ?_ | with_reducible assumption | (simp [World.size_ext]; done) | (simp [World.size_ext]; omega)))⟩
theorem cnew_not (off up mark : Int) (w : World) (h : ¬fitsP off up) : Calls Try.prog 7 #[.int .i64 off, .int .i64 up, .int .u32 mark] w fun e w' => e = .returned (.tuple #[.pointer none, .int .i64 1]) ∧ Below w.heap.size w w' := by
  unfold fitsP at h
  by_cases h1 : off < 0
  · go_enter Try.func7, Try.ntmps7
    go_wp2
    refine bodyPost_ret (v := .tuple #[.pointer none, .int .i64 1]) (by simp [results, Try.results7, go_sem] <;> rfl) rfl ⟨?_, by (repeat' (first | with_reducible exact Below.refl _ _ | with_reducible refine Below.ext ?_ ?_ _ | with_reducible refine Below.alloc ?_ ?_ _ | with_reducible refine Below.setCell ?_ ?_ _ | with_reducible refine Below.drew ?_ | with_reducible assumption | (simp [World.size_ext]; done) | (simp [World.size_ext]; omega)))⟩
    rfl
  · by_cases h2 : 1099511627776 < off
    · go_enter Try.func7, Try.ntmps7
      go_wp2
      refine bodyPost_ret (v := .tuple #[.pointer none, .int .i64 1]) (by simp [results, Try.results7, go_sem] <;> rfl) rfl ⟨?_, by (repeat' (first | with_reducible exact Below.refl _ _ | with_reducible refine Below.ext ?_ ?_ _ | with_reducible refine Below.alloc ?_ ?_ _ | with_reducible refine Below.setCell ?_ ?_ _ | with_reducible refine Below.drew ?_ | with_reducible assumption | (simp [World.size_ext]; done) | (simp [World.size_ext]; omega)))⟩
      rfl
    · by_cases h3 : up < 0
      · go_enter Try.func7, Try.ntmps7
        go_wp2
        refine bodyPost_ret (v := .tuple #[.pointer none, .int .i64 1]) (by simp [results, Try.results7, go_sem] <;> rfl) rfl ⟨?_, by (repeat' (first | with_reducible exact Below.refl _ _ | with_reducible refine Below.ext ?_ ?_ _ | with_reducible refine Below.alloc ?_ ?_ _ | with_reducible refine Below.setCell ?_ ?_ _ | with_reducible refine Below.drew ?_ | with_reducible assumption | (simp [World.size_ext]; done) | (simp [World.size_ext]; omega)))⟩
        rfl
      · have h4 : 4611686018427387904 < up := by omega
        go_enter Try.func7, Try.ntmps7
        go_wp2
        refine bodyPost_ret (v := .tuple #[.pointer none, .int .i64 1]) (by simp [results, Try.results7, go_sem] <;> rfl) rfl ⟨?_, by (repeat' (first | with_reducible exact Below.refl _ _ | with_reducible refine Below.ext ?_ ?_ _ | with_reducible refine Below.alloc ?_ ?_ _ | with_reducible refine Below.setCell ?_ ?_ _ | with_reducible refine Below.drew ?_ | with_reducible assumption | (simp [World.size_ext]; done) | (simp [World.size_ext]; omega)))⟩
        rfl
theorem craise_any (g : Nat) (k : Ck) (u : Int) (w : World) (hk : Blk w g 58 k.cells) :
    Calls Try.prog 13 #[.pointer (some ⟨g, 0, none⟩), .int .i64 u] w fun e w' => e = .returned (.int .i64 (raiseP k u).1) ∧ Blk w' g 58 (raiseP k u).2.cells ∧ Only w w' g := by
  have c1 := Blk.cell hk
  have f1 := Blk.frozen hk
  have l1 := Blk.lt hk
  have q0 : (k.cells)[0]? = some (.int .i64 k.a) := rfl; have q1 : (k.cells)[1]? = some (.int .u32 k.b) := rfl; have q2 : (k.cells)[2]? = some (.int .u32 k.c) := rfl; have q3 : (k.cells)[3]? = some (.int .i64 k.off) := rfl; have q4 : (k.cells)[4]? = some (.int .i64 k.up) := rfl; have q5 : (k.cells)[5]? = some (.int .u32 k.mark) := rfl
  by_cases h1 : u < k.up
  · have e1 : raiseP k u = (1, k) := by unfold raiseP; rw [if_pos (.inl h1)]
    rw [e1]
    go_enter Try.func13, Try.ntmps13
    go_wp2
    go_ret
    exact ⟨rfl, hk, Only.refl _ _⟩
  · by_cases h2 : 4611686018427387904 < u
    · have e1 : raiseP k u = (1, k) := by unfold raiseP; rw [if_pos (.inr h2)]
      rw [e1]
      go_enter Try.func13, Try.ntmps13
      go_wp2
      go_ret
      exact ⟨rfl, hk, Only.refl _ _⟩
    · have e1 : raiseP k u = (0, { k with up := u }) := by unfold raiseP; rw [if_neg (by omega)]
      rw [e1]
      go_enter Try.func13, Try.ntmps13
      go_wp2
      go_ret
      exact ⟨rfl, Blk.set_ hk 4 (.int .i64 u), Only.set_ (Only.refl _ _) (.inl rfl) _⟩
theorem cupper_any (g : Nat) (k : Ck) (w : World) (hk : Blk w g 58 k.cells) :
    Calls Try.prog 14 #[.pointer (some ⟨g, 0, none⟩)] w fun e w' => e = .returned (.int .i64 k.up) ∧ Below w.heap.size w w' := by
  have c1 := Blk.cell hk
  have f1 := Blk.frozen hk
  have l1 := Blk.lt hk
  have q0 : (k.cells)[0]? = some (.int .i64 k.a) := rfl; have q1 : (k.cells)[1]? = some (.int .u32 k.b) := rfl; have q2 : (k.cells)[2]? = some (.int .u32 k.c) := rfl; have q3 : (k.cells)[3]? = some (.int .i64 k.off) := rfl; have q4 : (k.cells)[4]? = some (.int .i64 k.up) := rfl; have q5 : (k.cells)[5]? = some (.int .u32 k.mark) := rfl
  go_enter Try.func14, Try.ntmps14
  go_wp2
  go_ret
  exact ⟨rfl, Below.refl _ _⟩
theorem clast_any (g : Nat) (k : Ck) (w : World) (hk : Blk w g 58 k.cells) :
    Calls Try.prog 23 #[.pointer (some ⟨g, 0, none⟩)] w fun e w' => e = .returned (.agg #[.int .i64 k.a, .int .u32 k.b, .int .u32 k.c]) ∧ Below w.heap.size w w' := by
  have c1 := Blk.cell hk
  have f1 := Blk.frozen hk
  have l1 := Blk.lt hk
  have n1 : g ≠ w.heap.size := by omega
  have n2 : w.heap.size ≠ g := by omega
  have q0 : (k.cells)[0]? = some (.int .i64 k.a) := rfl; have q1 : (k.cells)[1]? = some (.int .u32 k.b) := rfl; have q2 : (k.cells)[2]? = some (.int .u32 k.c) := rfl; have q3 : (k.cells)[3]? = some (.int .i64 k.off) := rfl; have q4 : (k.cells)[4]? = some (.int .i64 k.up) := rfl; have q5 : (k.cells)[5]? = some (.int .u32 k.mark) := rfl
  go_enter Try.func23, Try.ntmps23
  go_wp2
  refine bodyPost_cell Try.results23 rfl (Blk.new w 30 #[.int .i64 k.a, .int .u32 k.b, .int .u32 k.c]) Try.underlying30 rfl (by kernel_rfl) rfl ⟨rfl, by (repeat' (first | with_reducible exact Below.refl _ _ | with_reducible refine Below.ext ?_ ?_ _ | with_reducible refine Below.alloc ?_ ?_ _ | with_reducible refine Below.setCell ?_ ?_ _ | with_reducible refine Below.drew ?_ | with_reducible assumption | (simp [World.size_ext]; done) | (simp [World.size_ext]; omega)))⟩
theorem upN (phys : Int) (w : World) : Calls Try.prog 24 #[.pointer none, .int .i64 phys] w fun e w' => e = .returned (.int .i64 2) ∧ Below w.heap.size w w' := by
  go_enter Try.func24, Try.ntmps24
  go_wp2
  go_ret
  exact ⟨rfl, by (repeat' (first | with_reducible exact Below.refl _ _ | with_reducible refine Below.ext ?_ ?_ _ | with_reducible refine Below.alloc ?_ ?_ _ | with_reducible refine Below.setCell ?_ ?_ _ | with_reducible refine Below.drew ?_ | with_reducible assumption | (simp [World.size_ext]; done) | (simp [World.size_ext]; omega)))⟩
theorem nowN (phys : Int) (w : World) : Calls Try.prog 9 #[.pointer none, .int .i64 phys] w fun e w' => e = .returned (.tuple #[.agg #[.int .i64 0, .int .u32 0, .int .u32 0], .int .i64 2]) ∧ Below w.heap.size w w' := by
  go_enter Try.func9, Try.ntmps9
  go_wp2_with (go_at_call 24; (with_reducible refine (upN _ _).mono ?_); rintro e w' ⟨rfl, hb⟩; obtain ⟨X, rfl⟩ := World.ext_of_below hb; clear hb)
  refine bodyPost_cell_tmp (cs := #[.int .i64 0, .int .u32 0, .int .u32 0]) Try.results9 rfl (Blk.three (Blk.ext (Blk.new w 30 #[.int .i64 0, .int .u32 0, .int .u32 0]) X)) Try.underlying30 rfl (by kernel_rfl) rfl ⟨rfl, ?_⟩
  (repeat' (first | with_reducible exact Below.refl _ _ | with_reducible refine Below.ext ?_ ?_ _ | with_reducible refine Below.alloc ?_ ?_ _ | with_reducible refine Below.setCell ?_ ?_ _ | with_reducible refine Below.drew ?_ | with_reducible assumption | (simp [World.size_ext]; done) | (simp [World.size_ext]; omega)))
theorem updN (phys a b c : Int) (w : World) : Calls Try.prog 10 #[.pointer none, .int .i64 phys, .agg #[.int .i64 a, .int .u32 b, .int .u32 c]] w fun e w' => e = .returned (.tuple #[.agg #[.int .i64 0, .int .u32 0, .int .u32 0], .int .i64 2]) ∧ Below w.heap.size w w' := by
  go_enter Try.func10, Try.ntmps10
  go_wp2_with (go_at_call 24; (with_reducible refine (upN _ _).mono ?_); rintro e w' ⟨rfl, hb⟩; obtain ⟨X, rfl⟩ := World.ext_of_below hb; clear hb)
  refine bodyPost_cell_tmp (cs := #[.int .i64 0, .int .u32 0, .int .u32 0]) Try.results10 rfl (Blk.three (Blk.ext (Blk.made w _ 30 #[.int .i64 0, .int .u32 0, .int .u32 0]) X)) Try.underlying30 rfl (by kernel_rfl) rfl ⟨rfl, ?_⟩
  (repeat' (first | with_reducible exact Below.refl _ _ | with_reducible refine Below.ext ?_ ?_ _ | with_reducible refine Below.alloc ?_ ?_ _ | with_reducible refine Below.setCell ?_ ?_ _ | with_reducible refine Below.drew ?_ | with_reducible assumption | (simp [World.size_ext]; done) | (simp [World.size_ext]; omega)))
theorem raiseN (u : Int) (w : World) : Calls Try.prog 13 #[.pointer none, .int .i64 u] w fun e w' => e = .returned (.int .i64 2) ∧ Below w.heap.size w w' := by
  go_enter Try.func13, Try.ntmps13
  go_wp2
  go_ret
  exact ⟨rfl, by (repeat' (first | with_reducible exact Below.refl _ _ | with_reducible refine Below.ext ?_ ?_ _ | with_reducible refine Below.alloc ?_ ?_ _ | with_reducible refine Below.setCell ?_ ?_ _ | with_reducible refine Below.drew ?_ | with_reducible assumption | (simp [World.size_ext]; done) | (simp [World.size_ext]; omega)))⟩
theorem upperN (w : World) : Calls Try.prog 14 #[.pointer none] w fun e w' => e = .returned (.int .i64 0) ∧ Below w.heap.size w w' := by
  go_enter Try.func14, Try.ntmps14
  go_wp2
  go_ret
  exact ⟨rfl, by (repeat' (first | with_reducible exact Below.refl _ _ | with_reducible refine Below.ext ?_ ?_ _ | with_reducible refine Below.alloc ?_ ?_ _ | with_reducible refine Below.setCell ?_ ?_ _ | with_reducible refine Below.drew ?_ | with_reducible assumption | (simp [World.size_ext]; done) | (simp [World.size_ext]; omega)))⟩
theorem lastN (w : World) : Calls Try.prog 23 #[.pointer none] w fun e w' => e = .returned (.agg #[.int .i64 0, .int .u32 0, .int .u32 0]) ∧ Below w.heap.size w w' := by
  go_enter Try.func23, Try.ntmps23
  go_wp2
  refine bodyPost_cell Try.results23 rfl (Blk.new w 30 #[.int .i64 0, .int .u32 0, .int .u32 0]) Try.underlying30 rfl (by kernel_rfl) rfl ⟨rfl, by (repeat' (first | with_reducible exact Below.refl _ _ | with_reducible refine Below.ext ?_ ?_ _ | with_reducible refine Below.alloc ?_ ?_ _ | with_reducible refine Below.setCell ?_ ?_ _ | with_reducible refine Below.drew ?_ | with_reducible assumption | (simp [World.size_ext]; done) | (simp [World.size_ext]; omega)))⟩
set_option maxRecDepth 100000 in
theorem cawake_any (w : World) : Calls Try.prog 8 #[] w fun e w' => e = .returned (.bool true) ∧ Below w.heap.size w w' := by
  have hf : fitsP 10 0 := by unfold fitsP; omega
  have hok := ckNew_ok (mark := 3) hf (by omega)
  have r1 : nowP (ckNew 10 0 3) 5 = ⟨0, 0, 0, 22, ckNew 10 0 3⟩ := by simp [nowP, giveP, setP, badP, ckNew]
  have r2 : raiseP (ckNew 10 0 3) 100 = (0, { ckNew 10 0 3 with up := 100 }) := by simp [raiseP, ckNew]
  have r3 : nowP { ckNew 10 0 3 with up := 100 } 5 = ⟨5, 0, 3, 0, { ckNew 10 0 3 with a := 5, b := 0, c := 0, up := 100 }⟩ := by simp [nowP, giveP, setP, badP, ckNew]
  have hn1 : ∀ g W, Blk W g 58 (ckNew 10 0 3).cells → _ := fun g W h => now_any g _ 5 W h hok
  have hn2 : ∀ g W, Blk W g 58 (ckNew 10 0 3).cells → _ := fun g W h => craise_any g _ 100 W h
  have hok2 : Ck.ok { ckNew 10 0 3 with up := 100 } := ⟨hok.a, hok.b, hok.c, hok.off, by simp, hok.mark⟩
  have hn3 : ∀ g W, Blk W g 58 (Ck.cells { ckNew 10 0 3 with up := 100 }) → _ := fun g W h => now_any g _ 5 W h hok2
  simp only [r1] at hn1
  simp only [r2] at hn2
  simp only [r3] at hn3
  go_enter Try.func8, Try.ntmps8
  go_wp2_with (first | (go_at_call 7; (with_reducible refine (cnew_fit 10 0 3 w hf).mono ?_); rintro e w1 ⟨rfl, hk1, hb1⟩; have l1 := Blk.lt hk1) | (go_at_call 9; (with_reducible refine (hn1 _ _ hk1).mono ?_); rintro e w2 ⟨rfl, hk2, ho2⟩; have s2 := ho2.size) | (go_at_call 13; (with_reducible refine Calls.mono (hn2 _ _ ?hk3) ?_); (case hk3 => (repeat' (first | with_reducible exact hk2 | with_reducible refine Blk.ext ?_ _ | with_reducible refine Blk.alloc ?_ _ | with_reducible apply Blk.set_to | with_reducible refine Blk.far ?_ ?_ _ | rfl | (simp [World.size_ext]; done) | (simp [World.size_ext]; omega)))); rintro e w3 ⟨rfl, hk3, ho3⟩; have s3 := ho3.size; simp only [World.size_alloc] at s3) | (go_at_call 9; (with_reducible refine (hn3 _ _ hk3).mono ?_); rintro e w4 ⟨rfl, hk4, ho4⟩; have s4 := ho4.size))
  go_ret
  exact ⟨rfl, hb1.trans (Only.below (((ho2.alloc _).trans ho3).trans ho4 |>.alloc _) (Nat.le_refl _) hb1.size)⟩
set_option maxRecDepth 100000 in
set_option maxHeartbeats 1000000 in
theorem law_clockNil (phys a b c : Int) (w : World) :
    Calls Try.prog 6 #[.int .i64 phys, .agg #[.int .i64 a, .int .u32 b, .int .u32 c]] w fun e w' => e = .returned (.bool true) ∧ Below w.heap.size w w' := by
  go_enter Try.func6, Try.ntmps6
  go_wp2_with (first | (go_at_call 9; (with_reducible refine (nowN _ _).mono ?_); rintro e w' ⟨rfl, hb⟩; obtain ⟨X, rfl⟩ := World.ext_of_below hb; clear hb) | (go_at_call 11; (with_reducible refine (to_any _ _ _ _).mono ?_); rintro e w' ⟨rfl, hb⟩; obtain ⟨X, rfl⟩ := World.ext_of_below hb; clear hb) | (go_at_call 10; (with_reducible refine (updN _ _ _ _ _).mono ?_); rintro e w' ⟨rfl, hb⟩; obtain ⟨X, rfl⟩ := World.ext_of_below hb; clear hb) | (go_at_call 8; (with_reducible refine (cawake_any _).mono ?_); rintro e w' ⟨rfl, hb⟩; obtain ⟨X, rfl⟩ := World.ext_of_below hb; clear hb) | (go_at_call 13; (with_reducible refine (raiseN _ _).mono ?_); rintro e w' ⟨rfl, hb⟩; obtain ⟨X, rfl⟩ := World.ext_of_below hb; clear hb) | (go_at_call 14; (with_reducible refine (upperN _).mono ?_); rintro e w' ⟨rfl, hb⟩; obtain ⟨X, rfl⟩ := World.ext_of_below hb; clear hb) | (go_at_call 23; (with_reducible refine (lastN _).mono ?_); rintro e w' ⟨rfl, hb⟩; obtain ⟨X, rfl⟩ := World.ext_of_below hb; clear hb))
  go_ret
  refine ⟨rfl, ?_⟩
  (repeat' (first | with_reducible exact Below.refl _ _ | with_reducible refine Below.ext ?_ ?_ _ | with_reducible refine Below.alloc ?_ ?_ _ | with_reducible refine Below.setCell ?_ ?_ _ | with_reducible refine Below.drew ?_ | with_reducible assumption | (simp [World.size_ext]; done) | (simp [World.size_ext]; omega)))
section
open Go.ChangeShapes Go.WideShapes Go.ChangeAt
variable {H : Type} {enc : TypeId × Value → H}
theorem clockNil_walk : LawWalk enc Try.prog 6 Try.f6 := by
  intro W base args ds ps hval hA hlt _
  rw [Try.params6] at hA hval
  obtain ⟨v0, v1, d0, d1, p0, p1, rfl, rfl, rfl, h0, h1⟩ := trodAll_two hA
  obtain ⟨a, rfl, _, _, ha⟩ := open_int Try.underlying2 (hval 0 _ v0 rfl rfl) h0
  obtain ⟨x, y, z, rfl, _, _, _⟩ := stamp_open (hval 1 _ v1 rfl rfl) h1
  exact law_clockNil a x y z W
set_option maxRecDepth 100000 in
theorem clockNil_lifted (os : Os) (started : os.Started) (H : Type) (enc : TypeId × Value → H) :
    ReturnsInHanded {} Try.checked os 6 .any (Rows.clockNilSpec.pre6 enc Try.prog Try.f6 Rows.clockNilRow.domain false) (Rows.clockNilSpec.post enc Try.prog Try.f6 false true false false) :=
  law_lifted (C := Try.checked) own started (by kernel_rfl) Try.func6 laidOut (by kernel_rfl) rfl Try.underlying4 rfl
    (fun ds h => by obtain ⟨d0, d1, rfl⟩ := list2 h; rfl)
    (ChangeSpec.witness6 (enc := enc) (C := Try.checked) false ⟨#[], #[.int .i64 0, .agg #[.int .i64 0, .int .u32 0, .int .u32 0]], []⟩ 8 (by kernel_rfl) (by kernel_rfl) (by kernel_rfl) (by kernel_rfl))
    clockNil_walk
theorem clockNil_holds : Rows.ClockNilSaid :=
  OpenClaim.holds_of_wide 6 Try.f6 rfl rfl rfl rfl rfl rfl rfl ⟨rfl, rfl, rfl, rfl, rfl⟩ rfl rfl rfl rfl rfl (by kernel_rfl) Try.func6 (by kernel_rfl)
    (of_decide_eq_true (by kernel_rfl)) (by unfold Func.isWrapper; rw [if_neg (of_decide_eq_false (by kernel_rfl))]; exact ⟨rfl, rfl⟩)
    (fun os started H enc _ => clockNil_lifted os started H enc)
#print axioms clockNil_holds
end
end Go.Proofs.Ytfcpohhfpdhhiaa
