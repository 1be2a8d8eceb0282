import Derived.Test.YtghinjnhcepaeaaCh18
/-! The law: version by version. -/
namespace Go.Proofs.Ytghinjnhcepaeaa
open Go.RowKit
set_option linter.unusedVariables false
set_option linter.unusedSimpArgs false
theorem Chn.ext {w : World} {v : Value} {L : List Ver} (h : Chn w v L) (X : Ext) : Chn (w.ext X) v L := h.below (World.below_ext _ _)
theorem Chn.cat {w : World} {X : Ext} {v : Value} {L : List Ver} (h : Chn (w.ext X) v L) (Y : Ext) : Chn (w.ext (X.cat Y)) v L := by
  rw [← World.ext_ext]; exact h.ext Y
theorem Chn.alloc {w : World} {v : Value} {L : List Ver} (h : Chn w v L) (o : Obj) : Chn (w.alloc o) v L := h.below (Below.alloc (Below.refl _ _) (Nat.le_refl _) o)
set_option maxRecDepth 100000 in
set_option maxHeartbeats 16000000 in
theorem law_puts (A : Option Addr) (n c : Nat) (l : List Ver) (t : Ver) (w : World) (hr : Reads w w.heap.size 6 A n (vsV l)) (hn : n ≤ 9223372036854775807) (hok : ∀ x ∈ l, x.ok) (ht : t.ok) :
    Calls Try.prog 4 #[.slice A n c, .agg #[.int .i64 t.a, .int .u32 t.b, .int .u32 t.c]] w fun e w' => e = .returned (.bool true) ∧ Below w.heap.size w w' := by
  have hr1 := (hr.alloc (Nat.le_refl _) (.cells #[.int .i64 t.a, .int .u32 t.b, .int .u32 t.c] 24)).more (B' := (w.alloc (.cells #[.int .i64 t.a, .int .u32 t.b, .int .u32 t.c] 24)).heap.size) (by simp)
  have hM := made_any A n c l _ hr1 hn hok
  have hO := Blk.new w 24 #[.int .i64 t.a, .int .u32 t.b, .int .u32 t.c]
  have hG := ML_good hok 60
  have hL := ML_length l 60
  generalize ML l 60 = L at *
  have hT := fun w => to_any t.a t.b t.c w
  have hg1 := fun s w h => get_g (s := s) t w h hG ht (by omega)
  have hg2 := fun s w h => rget_g (s := s) t w h hG ht (by omega)
  have hc1 := fun s w h => cut_g (s := s) t w h hG ht (by omega)
  have hc2 := fun s w h => rcut_g (s := s) t w h hG ht (by omega)
  generalize gvD (getV L t.k) = y at *
  generalize (getV L t.k).isSome = ob at *
  have hcl : (cutV L t.k).length ≤ 60 := by unfold cutV; rw [List.length_drop]; omega
  generalize cutV L t.k = M at *
  simp only [Ver.arr] at hg1 hg2
  clear hr hr1 hok
  go_enter Try.func4, Try.ntmps4
  go_wp2_with (first
    | (go_at_call 12; (with_reducible refine hM.mono ?_); rintro e w1 ⟨⟨u, v, rfl, hu, hv⟩, hb1⟩; have hO1 := Blk.below hO hb1 hO.lt; have co1 := hO1.cell; have lo1 := hO1.lt; have hb01 : Below w.heap.size w w1 := (Below.alloc (Below.refl _ _) (Nat.le_refl _) _).trans (hb1.mono (by simp)))
    | (go_at_call 8; (with_reducible refine (chawake_any _).mono ?_); rintro e w2 ⟨rfl, hb2⟩; have hO2 := hO1.below hb2 lo1; have co2 := hO2.cell; have lo2 := hO2.lt; have hb02 := hb01.trans (hb2.mono hb01.size); have hu2 := hu.below hb2; have hv2 := hv.below hb2; clear hu hv hb1 hb2 hO1 co1 lo1 hb01)
    | (go_at_call 14; (with_reducible refine (hT _).mono ?_); rintro e w3 ⟨rfl, hb3⟩; have hO3 := hO2.below hb3 lo2; have co3 := hO3.cell; have lo3 := hO3.lt; have hb03 := hb02.trans (hb3.mono hb02.size); have hu3 := hu2.below hb3; have hv3 := hv2.below hb3; clear hu2 hv2 hb3 hO2 co2 lo2 hb02)
    | (go_at_call 13; (with_reducible refine (hg1 _ _ hu3).mono ?_); rintro e w4 ⟨rfl, hb4⟩; have hO4 := (hO3.below hb4 lo3).alloc (.cells (#[.int .i64 y.a, .int .u32 y.b, .int .u32 y.c, .int .i64 y.kd, .int .i64 y.num, .string y.text]) 31); have co4 := hO4.cell; have lo4 := hO4.lt; have hb04 := (hb03.trans (hb4.mono hb03.size)).alloc (hb03.trans (hb4.mono hb03.size)).size (.cells (#[.int .i64 y.a, .int .u32 y.b, .int .u32 y.c, .int .i64 y.kd, .int .i64 y.num, .string y.text]) 31); have hu4 := (hu3.below hb4).below (Below.alloc (Below.refl _ _) (Nat.le_refl _) (.cells (#[.int .i64 y.a, .int .u32 y.b, .int .u32 y.c, .int .i64 y.kd, .int .i64 y.num, .string y.text]) 31)); have hv4 := (hv3.below hb4).below (Below.alloc (Below.refl _ _) (Nat.le_refl _) (.cells (#[.int .i64 y.a, .int .u32 y.b, .int .u32 y.c, .int .i64 y.kd, .int .i64 y.num, .string y.text]) 31)); have hY := Blk.new w4 31 (#[.int .i64 y.a, .int .u32 y.b, .int .u32 y.c, .int .i64 y.kd, .int .i64 y.num, .string y.text]); clear hu3 hv3 hb4 hO3 co3 lo3 hb03)
    | (go_at_call 15; (with_reducible refine (hg2 _ _ hv4).mono ?_); rintro e w5 ⟨rfl, hb5⟩))
  refine abstr (fun W => Below w.heap.size w W ∧ Blk W w.heap.size 24 #[.int .i64 t.a, .int .u32 t.b, .int .u32 t.c] ∧ Blk W w4.heap.size 31 (#[.int .i64 y.a, .int .u32 y.b, .int .u32 y.c, .int .i64 y.kd, .int .i64 y.num, .string y.text]) ∧ Blk W w5.heap.size 26 (#[.int .i64 y.a, .int .u32 y.b, .int .u32 y.c, .int .i64 y.kd, .int .i64 y.num, .string y.text]) ∧ Chn W u L ∧ Chn W v L)
    ⟨(hb04.trans (hb5.mono hb04.size)).alloc (hb04.trans (hb5.mono hb04.size)).size _, (hO4.below hb5 lo4).alloc _, (hY.below hb5 hY.lt).alloc _, Blk.new w5 _ _, (hu4.below hb5).below (Below.alloc (Below.refl _ _) (Nat.le_refl _) _), (hv4.below hb5).below (Below.alloc (Below.refl _ _) (Nat.le_refl _) _)⟩ (fun W hW => ?_)
  obtain ⟨hbW, hOW, hYW, hZW, huW, hvW⟩ := hW
  clear hO4 co4 lo4 hb04 hu4 hv4 hY hb5 hM hO
  generalize w4.heap.size = q4 at *
  generalize w5.heap.size = q5 at *
  have c1 := hOW.cell
  have c2 := hYW.cell
  have c3 := hZW.cell
  have l1 := hOW.lt
  have l2 := hYW.lt
  have l3 := hZW.lt
  refine First.wp_region_first_ext [4, 6, 11, 16] [0, 1, 2, 3, 7, 8, 9, 10, 15, 19, 20, 21, 23, 25] [(true, false, 0), (true, false, 1), (true, false, 2), (true, false, 3), (true, true, 4), (true, true, 6), (false, true, 5), (true, false, 7), (true, false, 8), (true, false, 9), (true, false, 10), (true, true, 11), (true, false, 15), (true, true, 16), (false, true, 12), (false, true, 13), (false, true, 14), (false, true, 17), (false, true, 18), (true, false, 19), (true, false, 20), (true, false, 21), (true, false, 23), (false, true, 22), (false, true, 24), (true, false, 25), (false, false, 26)] (by kernel_rfl) (by kernel_rfl) (fun Y => ?_); simp only [List.map_cons, List.map_nil, List.getD_cons_zero, List.getD_cons_succ]
  (repeat (first | (refine First.wpF_pure (fun K hK => ?_); go_simp; first | (refine hK _ _ ?_; clear hK K) | (apply Exists.intro; refine ⟨fun _ => ?_, hK _ _ ?_⟩; fail)) | (refine First.wpF_free (fun K hK => ?_); go_simp; first | (refine hK _ _ ?_; clear hK K))))
  refine First.wpF_must (fun K hK => ?_)
  go_wp2_with (go_at_call 16; (with_reducible refine (vfrom_any y _).mono ?_); rintro e w' ⟨rfl, hb⟩; obtain ⟨X, rfl⟩ := World.ext_of_below hb; clear hb)
  (refine hK _ _ (fun hnd => by first | exact Bool.noConfusion hnd | assumption | with_reducible exact grown_alloc _ _ | with_reducible exact First.Grown.refl _ | with_reducible exact First.Grown.cat _ _ _ | with_reducible exact First.Grown.ext _ _) ?_; clear hK K)
  (repeat (first | (refine First.wpF_pure (fun K hK => ?_); go_simp; first | (refine hK _ _ ?_; clear hK K) | (apply Exists.intro; refine ⟨fun _ => ?_, hK _ _ ?_⟩; fail)) | (refine First.wpF_free (fun K hK => ?_); go_simp; first | (refine hK _ _ ?_; clear hK K))))
  refine First.wpF_must (fun K hK => ?_)
  go_wp2_with (go_at_call 14; (with_reducible refine (hT _).mono ?_); rintro e w' ⟨rfl, hb⟩; obtain ⟨X, rfl⟩ := World.ext_of_below hb; clear hb)
  (refine hK _ _ (fun hnd => by first | exact Bool.noConfusion hnd | assumption | with_reducible exact grown_alloc _ _ | with_reducible exact First.Grown.refl _ | with_reducible exact First.Grown.cat _ _ _ | with_reducible exact First.Grown.ext _ _) ?_; clear hK K)
  (repeat (first | (refine First.wpF_pure (fun K hK => ?_); go_simp; first | (refine hK _ _ ?_; clear hK K) | (apply Exists.intro; refine ⟨fun _ => ?_, hK _ _ ?_⟩; fail)) | (refine First.wpF_free (fun K hK => ?_); go_simp; first | (refine hK _ _ ?_; clear hK K))))
  refine First.wpF_must (fun K hK => ?_)
  go_wp2_with (go_at_call 19; (with_reducible refine (hc1 _ _ (by (repeat' (first | with_reducible exact huW | with_reducible refine Chn.cat ?_ _ | with_reducible refine Chn.ext ?_ _ | with_reducible refine Chn.alloc ?_ _)))).mono ?_); rintro e w' ⟨⟨u7, rfl, hu7⟩, hb⟩; obtain ⟨X7, rfl⟩ := World.ext_of_below hb; clear hb; (try simp only [World.ext_ext] at hu7))
  (refine hK _ _ (fun hnd => by first | exact Bool.noConfusion hnd | assumption | with_reducible exact grown_alloc _ _ | with_reducible exact First.Grown.refl _ | with_reducible exact First.Grown.cat _ _ _ | with_reducible exact First.Grown.ext _ _) ?_; clear hK K)
  (repeat (first | (refine First.wpF_pure (fun K hK => ?_); go_simp; first | (refine hK _ _ ?_; clear hK K) | (apply Exists.intro; refine ⟨fun _ => ?_, hK _ _ ?_⟩; fail)) | (refine First.wpF_free (fun K hK => ?_); go_simp; first | (refine hK _ _ ?_; clear hK K))))
  refine First.wpF_must (fun K hK => ?_)
  go_wp2_with (go_at_call 18; (with_reducible refine (back_g _ hu7 (by omega)).mono ?_); rintro e w' ⟨⟨u8, rfl, hu8⟩, hb⟩; obtain ⟨X8, rfl⟩ := World.ext_of_below hb; clear hb; (try simp only [World.ext_ext] at hu8))
  (refine hK _ _ (fun hnd => by first | exact Bool.noConfusion hnd | assumption | with_reducible exact grown_alloc _ _ | with_reducible exact First.Grown.refl _ | with_reducible exact First.Grown.cat _ _ _ | with_reducible exact First.Grown.ext _ _) ?_; clear hK K)
  (repeat (first | (refine First.wpF_pure (fun K hK => ?_); go_simp; first | (refine hK _ _ ?_; clear hK K) | (apply Exists.intro; refine ⟨fun _ => ?_, hK _ _ ?_⟩; fail)) | (refine First.wpF_free (fun K hK => ?_); go_simp; first | (refine hK _ _ ?_; clear hK K))))
  refine First.wpF_must (fun K hK => ?_)
  go_wp2_with (go_at_call 20; (with_reducible refine (hc2 _ _ (by (repeat' (first | with_reducible exact hvW | with_reducible refine Chn.cat ?_ _ | with_reducible refine Chn.ext ?_ _ | with_reducible refine Chn.alloc ?_ _)))).mono ?_); rintro e w' ⟨⟨u9, rfl, hu9⟩, hb⟩; obtain ⟨X9, rfl⟩ := World.ext_of_below hb; clear hb; (try simp only [World.ext_ext] at hu9))
  (refine hK _ _ (fun hnd => by first | exact Bool.noConfusion hnd | assumption | with_reducible exact grown_alloc _ _ | with_reducible exact First.Grown.refl _ | with_reducible exact First.Grown.cat _ _ _ | with_reducible exact First.Grown.ext _ _) ?_; clear hK K)
  (repeat (first | (refine First.wpF_pure (fun K hK => ?_); go_simp; first | (refine hK _ _ ?_; clear hK K) | (apply Exists.intro; refine ⟨fun _ => ?_, hK _ _ ?_⟩; fail)) | (refine First.wpF_free (fun K hK => ?_); go_simp; first | (refine hK _ _ ?_; clear hK K))))
  refine First.wpF_must (fun K hK => ?_)
  go_wp2_with (go_at_call 17; (with_reducible refine (same_g _ (by (repeat' (first | with_reducible exact hu8 | with_reducible refine Chn.cat ?_ _ | with_reducible refine Chn.ext ?_ _ | with_reducible refine Chn.alloc ?_ _))) hu9 (by omega)).mono ?_); rintro e w' ⟨rfl, hb⟩; obtain ⟨X, rfl⟩ := World.ext_of_below hb; clear hb)
  (refine hK _ _ (fun hnd => by first | exact Bool.noConfusion hnd | assumption | with_reducible exact grown_alloc _ _ | with_reducible exact First.Grown.refl _ | with_reducible exact First.Grown.cat _ _ _ | with_reducible exact First.Grown.ext _ _) ?_; clear hK K)
  (repeat (first | (refine First.wpF_pure (fun K hK => ?_); go_simp; first | (refine hK _ _ ?_; clear hK K) | (apply Exists.intro; refine ⟨fun _ => ?_, hK _ _ ?_⟩; fail)) | (refine First.wpF_free (fun K hK => ?_); go_simp; first | (refine hK _ _ ?_; clear hK K))))
  refine First.wpF_must (fun K hK => ?_)
  go_wp2_with (go_at_call 18; (with_reducible refine (back_g (L := L) _ (by (repeat' (first | with_reducible exact huW | with_reducible refine Chn.cat ?_ _ | with_reducible refine Chn.ext ?_ _ | with_reducible refine Chn.alloc ?_ _))) (by omega)).mono ?_); rintro e w' ⟨⟨u10, rfl, hu10⟩, hb⟩; obtain ⟨X10, rfl⟩ := World.ext_of_below hb; clear hb; (try simp only [World.ext_ext] at hu10))
  (refine hK _ _ (fun hnd => by first | exact Bool.noConfusion hnd | assumption | with_reducible exact grown_alloc _ _ | with_reducible exact First.Grown.refl _ | with_reducible exact First.Grown.cat _ _ _ | with_reducible exact First.Grown.ext _ _) ?_; clear hK K)
  (repeat (first | (refine First.wpF_pure (fun K hK => ?_); go_simp; first | (refine hK _ _ ?_; clear hK K) | (apply Exists.intro; refine ⟨fun _ => ?_, hK _ _ ?_⟩; fail)) | (refine First.wpF_free (fun K hK => ?_); go_simp; first | (refine hK _ _ ?_; clear hK K))))
  refine First.wpF_must (fun K hK => ?_)
  go_wp2_with (go_at_call 17; (with_reducible refine (same_g _ hu10 (by (repeat' (first | with_reducible exact hvW | with_reducible refine Chn.cat ?_ _ | with_reducible refine Chn.ext ?_ _ | with_reducible refine Chn.alloc ?_ _))) (by omega)).mono ?_); rintro e w' ⟨rfl, hb⟩; obtain ⟨X, rfl⟩ := World.ext_of_below hb; clear hb)
  (refine hK _ _ (fun hnd => by first | exact Bool.noConfusion hnd | assumption | with_reducible exact grown_alloc _ _ | with_reducible exact First.Grown.refl _ | with_reducible exact First.Grown.cat _ _ _ | with_reducible exact First.Grown.ext _ _) ?_; clear hK K)
  (repeat (first | (refine First.wpF_pure (fun K hK => ?_); go_simp; first | (refine hK _ _ ?_; clear hK K) | (apply Exists.intro; refine ⟨fun _ => ?_, hK _ _ ?_⟩; fail)) | (refine First.wpF_free (fun K hK => ?_); go_simp; first | (refine hK _ _ ?_; clear hK K))))
  (repeat (refine First.wpF_must (fun K hK => ?_); go_wp2; (refine hK _ _ (fun hnd => by first | exact Bool.noConfusion hnd | assumption | with_reducible exact grown_alloc _ _ | with_reducible exact First.Grown.refl _ | with_reducible exact First.Grown.cat _ _ _ | with_reducible exact First.Grown.ext _ _) ?_; clear hK K)))
  refine First.wpF_nil ?_
  go_wp2
  go_ret
  exact ⟨rfl, hbW.trans ((World.below_ext _ _).mono hbW.size)⟩
section
open Go.ChangeShapes Go.WideShapes Go.ChangeAt Go.Joins
variable {H : Type} {enc : TypeId × Value → H}
set_option maxRecDepth 100000 in
theorem chainPuts_walk : LawWalk enc Try.prog 4 Try.f4 := by
  intro W base args ds ps hval hA hlt _
  rw [Try.params4] at hA hval
  obtain ⟨v0, v1, d0, d1, p0, p1, rfl, rfl, rfl, h0, h1⟩ := trodAll_two hA
  obtain ⟨A, n, c, l, rfl, hnc, hcm, hr, hok⟩ := vers_open (hval 0 _ v0 rfl rfl) h0
  obtain ⟨a, b, c', rfl, ha, hb, hc⟩ := stamp_open (hval 1 _ v1 rfl rfl) h1
  exact law_puts A n c l ⟨a, b, c', 0, 0, ⟨#[]⟩⟩ W hr (by unfold maxLen at hcm; omega) hok ⟨ha, hb, hc, ⟨by simp only; omega, by simp only; omega⟩, ⟨by simp only; omega, by simp only; omega⟩, Nat.zero_le _⟩
set_option maxRecDepth 100000 in
theorem chainPuts_lifted (os : Os) (started : os.Started) (H : Type) (enc : TypeId × Value → H) :
    ReturnsInHanded {} Try.checked os 4 .any (Rows.chainPutsSpec.pre6 enc Try.prog Try.f4 Rows.chainPutsRow.domain false) (Rows.chainPutsSpec.post enc Try.prog Try.f4 false true false false) :=
  law_lifted (C := Try.checked) own started (by kernel_rfl) Try.func4 laidOut (by kernel_rfl) rfl Try.underlying4 rfl
    (fun ds h => by obtain ⟨d0, d1, rfl⟩ := list2 h; rfl)
    (ChangeSpec.witness6 (enc := enc) (C := Try.checked) false ⟨#[], #[.slice none 0 0, .agg #[.int .i64 0, .int .u32 0, .int .u32 0]], []⟩ 8 (by kernel_rfl) (by kernel_rfl) (by kernel_rfl) (by kernel_rfl))
    chainPuts_walk
theorem chainPuts_holds : Rows.ChainPutsSaid :=
  OpenClaim.holds_of_wide 4 Try.f4 rfl rfl rfl rfl rfl rfl rfl ⟨rfl, rfl, rfl, rfl, rfl⟩ rfl rfl rfl rfl rfl (by kernel_rfl) Try.func4 (by kernel_rfl)
    (of_decide_eq_true (by kernel_rfl)) (by unfold Func.isWrapper; rw [if_neg (of_decide_eq_false (by kernel_rfl))]; exact ⟨rfl, rfl⟩)
    (fun os started H enc _ => chainPuts_lifted os started H enc)
#print axioms chainPuts_holds
end
end Go.Proofs.Ytghinjnhcepaeaa
