import Derived.Test.YtijegnhkkgdihaaTally7
/-! The order of samples turns nothing. -/
namespace Go.Proofs.Ytijegnhkkgdihaa
open Go.RowKit
set_option linter.unusedVariables false
set_option linter.unusedSimpArgs false
theorem I64s_nil : I64s [] := fun p hp => by cases hp
set_option maxRecDepth 100000 in
set_option maxHeartbeats 1000000 in
theorem law_turns0 (A : Option Addr) (c : Nat) (A2 : Option Addr) (nt ct : Nat) (ts : List Int) (w : World) (hr2 : Reads w w.heap.size 1 A2 nt (i64s ts)) (hts : In64 ts) :
    Calls Try.prog 5 #[.slice A 0 c, .slice A2 nt ct] w fun e w' => e = .returned (.bool true) ∧ Below w.heap.size w w' := by
  go_enter Try.func5, Try.ntmps5
  go_wp2_with (first | (go_at_call 10; with_reducible refine (to_none _ _ _).mono ?_; rintro e w' ⟨rfl, hb⟩; obtain ⟨X, rfl⟩ := World.ext_of_below hb; clear hb))
  go_loopw [25] (fun s wr => s = .int .i64 0 ∧ wr = (w.ext X).alloc (.cells #[] 36)) (fun _ _ => 0)
  case atStart => exact ⟨rfl, rfl⟩
  case round =>
    obtain ⟨rfl, rfl⟩ := hrel
    have fin : Below w.heap.size w ((w.ext X).alloc (.cells #[] 36)) := by (repeat' (first | with_reducible exact Below.refl _ _ | with_reducible refine Below.ext ?_ ?_ _ | with_reducible refine Below.alloc ?_ ?_ _ | with_reducible refine Below.setCell ?_ ?_ _ | with_reducible refine Below.drew ?_ | with_reducible assumption | (simp [World.size_ext]; done) | (simp [World.size_ext]; omega)))
    by_cases ht : nt = 0
    · subst ht
      generalize (w.ext X).alloc (.cells #[] 36) = W at *
      go_wp2
      go_loopw [11] (fun s wr => ∃ k : Nat, 1 ≤ k ∧ k ≤ 5 ∧ s = .int .i64 (k : Int) ∧ Below w.heap.size w wr) (fun s _ => ((5 : Int) - intOf s).toNat); (case atStart => exact ⟨1, by omega, by omega, rfl, fin⟩); case round => (obtain ⟨k, hk1, hk5, rfl, hbel⟩ := hrel; have hsz := hbel.size; by_cases hk : k < 5; (have hkop : -9223372036854775808 ≤ (k : Int) ∧ (k : Int) ≤ 9223372036854775807 := (by omega); go_wp2_with (first | (go_at_call 9; with_reducible refine (fold_any _ _ _ _ [] _ Reads.none_ I64s_nil hkop (by omega)).mono ?_; rintro e w' ⟨rfl, hb⟩; obtain ⟨X, rfl⟩ := World.ext_of_below hb; clear hb)); go_roundw; (case rel => first | exact ⟨k + 1, by omega, by omega, by go_num, by (repeat' (first | with_reducible exact Below.refl _ _ | with_reducible refine Below.ext ?_ ?_ _ | with_reducible refine Below.alloc ?_ ?_ _ | with_reducible refine Below.setCell ?_ ?_ _ | with_reducible refine Below.drew ?_ | with_reducible assumption | (simp [World.size_ext]; done) | (simp [World.size_ext]; omega)))⟩ | ((repeat apply Exists.intro); exact ⟨⟨k + 1, by omega, by omega, by go_num, by (repeat' (first | with_reducible exact Below.refl _ _ | with_reducible refine Below.ext ?_ ?_ _ | with_reducible refine Below.alloc ?_ ?_ _ | with_reducible refine Below.setCell ?_ ?_ _ | with_reducible refine Below.drew ?_ | with_reducible assumption | (simp [World.size_ext]; done) | (simp [World.size_ext]; omega)))⟩, rfl⟩)); (case measure => simp [intOf]; omega)); (obtain rfl : k = 5 := (by omega); go_wp2_with (first | (go_at_call 12; with_reducible refine (awake_any _).mono ?_; rintro e w' ⟨rfl, hb⟩; obtain ⟨X, rfl⟩ := World.ext_of_below hb; clear hb)); go_ret; refine ⟨rfl, ?_⟩; (repeat' (first | with_reducible exact Below.refl _ _ | with_reducible refine Below.ext ?_ ?_ _ | with_reducible refine Below.alloc ?_ ?_ _ | with_reducible refine Below.setCell ?_ ?_ _ | with_reducible refine Below.drew ?_ | with_reducible assumption | (simp [World.size_ext]; done) | (simp [World.size_ext]; omega)))))
    · obtain ⟨x, hg⟩ : ∃ x, ts[0]? = some x := ⟨ts[0]'(by have := hr2.1; rw [i64s_length] at this; omega), List.getElem?_eq_getElem _⟩
      obtain ⟨b, o, rfl, hb, hc⟩ := hr2.plain (by omega) (by omega)
      have m1 : w.cell? ⟨b, o, none⟩ = some (.int .i64 x) := hc 0 _ (i64s_get ts 0 _ hg)
      have hbs : b < (w.ext X).heap.size := by rw [World.size_ext]; omega
      have hnt0 : (0 : Int) < nt := by omega
      have dnt : decide (0 < nt) = true := by simp; omega
      go_wp2
      generalize (w.ext X).alloc (.cells #[] 36) = W at *
      go_loopw [11] (fun s wr => ∃ k : Nat, 1 ≤ k ∧ k ≤ 5 ∧ s = .int .i64 (k : Int) ∧ Below w.heap.size w wr) (fun s _ => ((5 : Int) - intOf s).toNat); (case atStart => exact ⟨1, by omega, by omega, rfl, fin⟩); case round => (obtain ⟨k, hk1, hk5, rfl, hbel⟩ := hrel; have hsz := hbel.size; by_cases hk : k < 5; (have hkop : -9223372036854775808 ≤ (k : Int) ∧ (k : Int) ≤ 9223372036854775807 := (by omega); go_wp2_with (first | (go_at_call 9; with_reducible refine (fold_any _ _ _ _ [] _ Reads.none_ I64s_nil hkop (by omega)).mono ?_; rintro e w' ⟨rfl, hb⟩; obtain ⟨X, rfl⟩ := World.ext_of_below hb; clear hb)); go_roundw; (case rel => first | exact ⟨k + 1, by omega, by omega, by go_num, by (repeat' (first | with_reducible exact Below.refl _ _ | with_reducible refine Below.ext ?_ ?_ _ | with_reducible refine Below.alloc ?_ ?_ _ | with_reducible refine Below.setCell ?_ ?_ _ | with_reducible refine Below.drew ?_ | with_reducible assumption | (simp [World.size_ext]; done) | (simp [World.size_ext]; omega)))⟩ | ((repeat apply Exists.intro); exact ⟨⟨k + 1, by omega, by omega, by go_num, by (repeat' (first | with_reducible exact Below.refl _ _ | with_reducible refine Below.ext ?_ ?_ _ | with_reducible refine Below.alloc ?_ ?_ _ | with_reducible refine Below.setCell ?_ ?_ _ | with_reducible refine Below.drew ?_ | with_reducible assumption | (simp [World.size_ext]; done) | (simp [World.size_ext]; omega)))⟩, rfl⟩)); (case measure => simp [intOf]; omega)); (obtain rfl : k = 5 := (by omega); go_wp2_with (first | (go_at_call 12; with_reducible refine (awake_any _).mono ?_; rintro e w' ⟨rfl, hb⟩; obtain ⟨X, rfl⟩ := World.ext_of_below hb; clear hb)); go_ret; refine ⟨rfl, ?_⟩; (repeat' (first | with_reducible exact Below.refl _ _ | with_reducible refine Below.ext ?_ ?_ _ | with_reducible refine Below.alloc ?_ ?_ _ | with_reducible refine Below.setCell ?_ ?_ _ | with_reducible refine Below.drew ?_ | with_reducible assumption | (simp [World.size_ext]; done) | (simp [World.size_ext]; omega)))))
set_option maxRecDepth 100000 in
set_option maxHeartbeats 1000000 in
theorem law_turns1 (A : Option Addr) (n c : Nat) (l : List (Int × Int)) (A2 : Option Addr) (nt ct : Nat) (ts : List Int) (w : World) (hr : Reads w w.heap.size 2 A n (smps l)) (hl : I64s l) (hn : n * 16 ≤ 140737488355328) (hn0 : 0 < n) (hr2 : Reads w w.heap.size 1 A2 nt (i64s ts)) (hts : In64 ts) :
    Calls Try.prog 5 #[.slice A n c, .slice A2 nt ct] w fun e w' => e = .returned (.bool true) ∧ Below w.heap.size w w' := by
  obtain ⟨i0, hi, hz0, hz1, hz2⟩ := info_parts infoS
  have hlen : l.length = n := by have := hr.1; rw [smps_length] at this; omega
  go_enter Try.func5, Try.ntmps5
  go_wp2_with (first | (go_at_call 10; with_reducible refine (to_any _ _ _ _ _ hr hn).mono ?_; rintro e w1 ⟨v, rfl, ho, hb1⟩; obtain ⟨A1, cap1, rfl, hcap1⟩ := own_slice ho; have hq1 := Reads.of_own ho; have hs1 := hb1.size; clear ho; (obtain ⟨b, o, rfl, hbo, hc1⟩ := hq1.plain (by omega) (by omega))) | (at_builtin; refine Held.out ?_))
  unfold Held
  refine wpList_append_own _ rfl (.tmp 20) (.tmp 21) 26 rfl w1.heap.size 36 i0 (.agg #[.int .i64 0, .int .i64 0]) 2 16 Try.underlying26 hi hz0 hz1 hz2 rfl (by decide) (.slice (some ⟨w1.heap.size, 0, none⟩) 0 0) 0 [] rfl
    (World.ownsRow_made (size := 2) w1 #[] 0 (Nat.le_refl _) (by unfold maxLen; omega) rfl) ⟨b, o, none⟩ n cap1 (smps l) rfl (by rw [smps_length, hlen]) (fun j u hu => ?_) (fun u hu => ?_) (by unfold maxLen; omega) (by omega) (by first | omega | (simp; done) | (simp; omega)) ?_
  · rw [add_plain, World.cell?_alloc_lt _ _ _ hbo]
    exact hc1 j u hu
  · obtain ⟨q, _, hq⟩ := List.mem_flatMap.1 hu
    simp at hq
    rcases hq with rfl | rfl <;> rfl
  intro vy w2 hy hg2 hnil
  rw [List.nil_append, Nat.zero_add] at hy
  have hb2 : Below w1.heap.size w1 w2 := own_below ((Below.refl _ _).alloc (Nat.le_refl _) _) (World.ownsRow_made (size := 2) w1 #[] 0 (Nat.le_refl _) (by unfold maxLen; omega) rfl) hg2 (Nat.le_refl _) (by simp)
  obtain ⟨g, capy, rfl⟩ : ∃ g capy, vy = .slice (some ⟨g, 0, none⟩) n capy := by
    rcases hy.2 with ⟨_, h0⟩ | ⟨g, cap, cur, h1, -⟩
    · omega
    · exact ⟨g, cap, h1⟩
  clear hnil hg2
  have hnI : (n : Int) ≤ 9223372036854775807 := by omega
  have hun : IntKind.u64.wrap (n : Int) = (n : Int) := by unfold IntKind.wrap; simp [IntKind.signed, IntKind.bits]; omega
  have hn00 : (0 : Int) < n := by omega
  have cn : ((n : Int) == 0) = false := by simp; omega
  go_wp2
  go_loopw [25] (fun s wr => ∃ (j : Nat) (L : List (Int × Int)), j ≤ nt ∧ j ≤ 50 ∧ s = .int .i64 (j : Int) ∧ L.Perm l ∧ wr.ownsRow w1.heap.size 36 2 (.slice (some ⟨g, 0, none⟩) n capy) n (smps L) ∧ Below w1.heap.size w1 wr) (fun s _ => ((50 : Int) - intOf s).toNat)
  case atStart => exact ⟨0, l, by omega, by omega, rfl, List.Perm.refl _, hy, hb2⟩
  case round =>
    clear hy hb2
    obtain ⟨j, L, hj, hj50, rfl, hperm, hy, hb2⟩ := hrel
    have hbl : Below w.heap.size w wr := hb1.trans (hb2.mono hs1)
    by_cases hend : j < nt ∧ j < 50
    · obtain ⟨hlt, hlt50⟩ := hend
      obtain ⟨x, hg⟩ : ∃ x, ts[j]? = some x := ⟨ts[j]'(by have := hr2.1; rw [i64s_length] at this; omega), List.getElem?_eq_getElem _⟩
      obtain ⟨bt, ot, rfl, hbt, hct⟩ := hr2.plain (by omega) (by omega)
      have m1 : wr.cell? ⟨bt, ot + j, none⟩ = some (.int .i64 x) := by rw [hbl.cell (p := ⟨bt, _, none⟩) hbt]; exact hct _ _ (i64s_get ts j _ hg)
      have cj : decide (50 ≤ (j : Int)) = false := by simp; omega
      obtain ⟨U, hU⟩ : ∃ U : Nat, IntKind.u64.wrap x = (U : Int) := ⟨(IntKind.u64.wrap x).toNat, by unfold IntKind.wrap; simp [IntKind.signed, IntKind.bits]; omega⟩
      obtain ⟨ia, hia⟩ : ∃ k, k = j % n := ⟨_, rfl⟩
      obtain ⟨ib, hib⟩ : ∃ k, k = U % n := ⟨_, rfl⟩
      have han : ia < n := by rw [hia]; exact Nat.mod_lt _ (by omega)
      have hbn : ib < n := by rw [hib]; exact Nat.mod_lt _ (by omega)
      have haI : (j : Int).tmod (n : Int) = (ia : Int) := by rw [hia, Int.tmod_eq_emod_of_nonneg (by omega)]; rfl
      have hbI : (U : Int).tmod (n : Int) = (ib : Int) := by rw [hib, Int.tmod_eq_emod_of_nonneg (by omega)]; rfl
      clear hia hib
      have hwb : IntKind.i64.wrap (ib : Int) = (ib : Int) := IntWalk.i64_in _ (by omega)
      go_wp2
      refine wp_region_ext_lit (by kernel_rfl) (by kernel_rfl) ?_
      (repeat (quiet_step (skip)))
      refine wpQuiet_nil ?_; intro _ hw'; obtain ⟨X0, hw''⟩ := hw'; subst hw''
      have hLl : L.length = n := by rw [hperm.length_eq, hlen]
      obtain ⟨hcy, hfy, hgy, hgl⟩ := own_cells hy
      obtain ⟨pa, hpa⟩ : ∃ p, L[ia]? = some p := ⟨L[ia]'(by omega), List.getElem?_eq_getElem (by omega)⟩
      obtain ⟨pb, hpb⟩ : ∃ p, L[ib]? = some p := ⟨L[ib]'(by omega), List.getElem?_eq_getElem (by omega)⟩
      have ya0 := hcy _ _ (smps_get L ia _ hpa).1
      have ya1 := hcy _ _ (smps_get L ia _ hpa).2
      have yb0 := hcy _ _ (smps_get L ib _ hpb).1
      have yb1 := hcy _ _ (smps_get L ib _ hpb).2
      have hperm2 : ((L.set ia pb).set ib pa).Perm l := by
        have := @List.set_set_perm _ L ia ib (by omega) (by omega)
        rw [List.getElem?_eq_getElem (by omega)] at hpa hpb
        rw [Option.some.inj hpa, Option.some.inj hpb] at this
        exact this.trans hperm
      have hpl : L.length = n := hLl
      clear hcy hperm hct
      go_wp2
      refine First.wp_region_first_ext [7, 11] [0, 1, 2, 3, 4, 5, 6, 8, 9, 10, 12, 14] [(true, false, 0), (true, false, 1), (true, false, 2), (true, false, 3), (true, false, 4), (true, false, 5), (true, false, 6), (true, true, 7), (true, false, 8), (true, false, 9), (true, false, 10), (true, true, 11), (true, false, 12), (false, false, 13), (true, false, 14), (false, false, 15)] (by kernel_rfl) (by kernel_rfl) (fun X => ?_); simp only [List.map_cons, List.map_nil, List.getD_cons_zero, List.getD_cons_succ]
      iterate 13 (first | (refine First.wpF_pure (fun K hK => ?_); go_simp; first | (refine hK _ _ ?_; clear hK K) | (apply Exists.intro; refine ⟨fun _ => ?_, hK _ _ ?_⟩; skip; clear hK K)) | (refine First.wpF_free (fun K hK => ?_); go_simp; first | (refine hK _ _ ?_; clear hK K) | (apply Exists.intro; refine ⟨fun _ => ?_, hK _ _ ?_⟩; skip; clear hK K)) | (refine First.wpF_must (fun K hK => ?_); go_simp; skip; go_simp; refine hK _ _ (fun hnd => by first | exact Bool.noConfusion hnd | with_reducible exact First.Grown.refl _ | with_reducible exact First.Grown.cat _ _ _ | with_reducible exact First.Grown.ext _ _) ?_; clear hK K))
      refine First.wpF_must (fun K hK => ?_)
      go_simp
      go_wp2
      go_simp
      refine hK _ _ (fun hnd => Bool.noConfusion hnd) ?_
      clear hK K
      have hy1 := own_pair (own_ext hy (X0.cat X)) pb han
      have hb3 : Below w1.heap.size w1 (((wr.ext (X0.cat X)).setCell ⟨g, ia * 2, none⟩ (.int .i64 pb.1)).setCell ⟨g, ia * 2 + 1, none⟩ (.int .i64 pb.2)) := by
        have := hb2.size
        (repeat' (first | with_reducible exact Below.refl _ _ | with_reducible refine Below.ext ?_ ?_ _ | with_reducible refine Below.alloc ?_ ?_ _ | with_reducible refine Below.setCell ?_ ?_ _ | with_reducible refine Below.drew ?_ | with_reducible assumption | (simp [World.size_ext]; done) | (simp [World.size_ext]; omega)))
      generalize (((wr.ext (X0.cat X)).setCell ⟨g, ia * 2, none⟩ (.int .i64 pb.1)).setCell ⟨g, ia * 2 + 1, none⟩ (.int .i64 pb.2)) = W1 at *
      clear ya0 ya1 yb0 yb1 hfy hgl hy
      obtain ⟨hcy, hfy, hgy, hgl⟩ := own_cells hy1
      obtain ⟨pc, hpc⟩ : ∃ p, (L.set ia pb)[ib]? = some p := ⟨(L.set ia pb)[ib]'(by rw [List.length_set]; omega), List.getElem?_eq_getElem (by rw [List.length_set]; omega)⟩
      have yb0 := hcy _ _ (smps_get _ ib _ hpc).1
      have yb1 := hcy _ _ (smps_get _ ib _ hpc).2
      clear hcy
      (first | (refine First.wpF_pure (fun K hK => ?_); go_simp; first | (refine hK _ _ ?_; clear hK K) | (apply Exists.intro; refine ⟨fun _ => ?_, hK _ _ ?_⟩; skip; clear hK K)) | (refine First.wpF_free (fun K hK => ?_); go_simp; first | (refine hK _ _ ?_; clear hK K) | (apply Exists.intro; refine ⟨fun _ => ?_, hK _ _ ?_⟩; skip; clear hK K)) | (refine First.wpF_must (fun K hK => ?_); go_simp; skip; go_simp; refine hK _ _ (fun hnd => by first | exact Bool.noConfusion hnd | with_reducible exact First.Grown.refl _ | with_reducible exact First.Grown.cat _ _ _ | with_reducible exact First.Grown.ext _ _) ?_; clear hK K))
      refine First.wpF_must (fun K hK => ?_)
      go_simp
      go_wp2
      go_simp
      refine hK _ _ (fun hnd => Bool.noConfusion hnd) ?_
      clear hK K
      refine First.wpF_nil ?_
      have hy2 := own_pair hy1 pa hbn
      have hb4 : Below w1.heap.size w1 ((W1.setCell ⟨g, ib * 2, none⟩ (.int .i64 pa.1)).setCell ⟨g, ib * 2 + 1, none⟩ (.int .i64 pa.2)) := by
        have := hb3.size
        (repeat' (first | with_reducible exact Below.refl _ _ | with_reducible refine Below.ext ?_ ?_ _ | with_reducible refine Below.alloc ?_ ?_ _ | with_reducible refine Below.setCell ?_ ?_ _ | with_reducible refine Below.drew ?_ | with_reducible assumption | (simp [World.size_ext]; done) | (simp [World.size_ext]; omega)))
      go_wp2
      go_roundw
      case rel => first | exact ⟨j + 1, _, by omega, by omega, by go_num, hperm2, hy2, hb4⟩ | ((repeat apply Exists.intro); exact ⟨⟨j + 1, _, by omega, by omega, by go_num, hperm2, hy2, hb4⟩, rfl⟩)
      case measure => simp [intOf]; omega
    · have hqy := Reads.of_own hy
      have hly : I64s L := fun p hp => hl p (hperm.mem_iff.1 hp)
      have hq2 : Reads wr wr.heap.size 2 (some ⟨b, o, none⟩) n (smps l) := (hq1.below hb2).more hb2.size
      have hpf : ∀ k : Int, k ≤ 4 → foldA k L = foldA k l := fun k hk => foldA_perm hperm k hk
      clear hq1 hc1 hbo
      by_cases hlt : j < nt
      · obtain rfl : j = 50 := by omega
        obtain ⟨x, hg⟩ : ∃ x, ts[50]? = some x := ⟨ts[50]'(by have := hr2.1; rw [i64s_length] at this; omega), List.getElem?_eq_getElem _⟩
        obtain ⟨bt, ot, rfl, hbt, hct⟩ := hr2.plain (by omega) (by omega)
        have m1 : wr.cell? ⟨bt, ot + 50, none⟩ = some (.int .i64 x) := by rw [hbl.cell (p := ⟨bt, _, none⟩) hbt]; exact hct _ _ (i64s_get ts 50 _ hg)
        have hnt0 : (50 : Int) < nt := by omega
        have dnt : decide (50 < nt) = true := by simp; omega
        clear hct hr2 hy hr
        go_wp2
        go_loopw [11] (fun s wv => ∃ k : Nat, 1 ≤ k ∧ k ≤ 5 ∧ s = .int .i64 (k : Int) ∧ Below wr.heap.size wr wv) (fun s _ => ((5 : Int) - intOf s).toNat); (case atStart => exact ⟨1, by omega, by omega, rfl, Below.refl _ _⟩); case round => (obtain ⟨k, hk1, hk5, rfl, hbel⟩ := hrel; have hsz := hbel.size; have hblS := hbl.size; have hbw := hbl.trans (hbel.mono hbl.size); have hbwS := hbw.size; have qx := (hq2.below hbel).more hbel.size; have qy := (hqy.below hbel).more hbel.size; clear hbl; by_cases hk : k < 5; (have hkop : -9223372036854775808 ≤ (k : Int) ∧ (k : Int) ≤ 9223372036854775807 := (by omega); have fx := fun A c w hr => fold_any (k : Int) A n c l w hr hl hkop hn; have fy := fun A c w hr => fold_any (k : Int) A n c L w hr hly hkop hn; rw [hpf (k : Int) (by omega)] at fy; go_wp2_with (first | (go_at_call 9; with_reducible refine (fx _ _ _ qx).mono ?_; rintro e w' ⟨rfl, hb⟩; obtain ⟨X, rfl⟩ := World.ext_of_below hb; clear hb) | (go_at_call 9; with_reducible refine (fy _ _ _ (qy.grown _)).mono ?_; rintro e w' ⟨rfl, hb⟩; obtain ⟨X, rfl⟩ := World.ext_of_below hb; clear hb)); go_roundw; (case rel => first | exact ⟨k + 1, by omega, by omega, by go_num, by (repeat' (first | with_reducible exact Below.refl _ _ | with_reducible refine Below.ext ?_ ?_ _ | with_reducible refine Below.alloc ?_ ?_ _ | with_reducible refine Below.setCell ?_ ?_ _ | with_reducible refine Below.drew ?_ | with_reducible assumption | (simp [World.size_ext]; done) | (simp [World.size_ext]; omega)))⟩ | ((repeat apply Exists.intro); exact ⟨⟨k + 1, by omega, by omega, by go_num, by (repeat' (first | with_reducible exact Below.refl _ _ | with_reducible refine Below.ext ?_ ?_ _ | with_reducible refine Below.alloc ?_ ?_ _ | with_reducible refine Below.setCell ?_ ?_ _ | with_reducible refine Below.drew ?_ | with_reducible assumption | (simp [World.size_ext]; done) | (simp [World.size_ext]; omega)))⟩, rfl⟩)); (case measure => simp [intOf]; omega)); (obtain rfl : k = 5 := (by omega); go_wp2_with (first | (go_at_call 12; with_reducible refine (awake_any _).mono ?_; rintro e w' ⟨rfl, hb⟩; obtain ⟨X, rfl⟩ := World.ext_of_below hb; clear hb)); go_ret; refine ⟨rfl, ?_⟩; (repeat' (first | with_reducible exact Below.refl _ _ | with_reducible refine Below.ext ?_ ?_ _ | with_reducible refine Below.alloc ?_ ?_ _ | with_reducible refine Below.setCell ?_ ?_ _ | with_reducible refine Below.drew ?_ | with_reducible assumption | (simp [World.size_ext]; done) | (simp [World.size_ext]; omega)))))
      · obtain rfl : j = nt := by omega
        clear hr2 hy hr
        go_wp2
        go_loopw [11] (fun s wv => ∃ k : Nat, 1 ≤ k ∧ k ≤ 5 ∧ s = .int .i64 (k : Int) ∧ Below wr.heap.size wr wv) (fun s _ => ((5 : Int) - intOf s).toNat); (case atStart => exact ⟨1, by omega, by omega, rfl, Below.refl _ _⟩); case round => (obtain ⟨k, hk1, hk5, rfl, hbel⟩ := hrel; have hsz := hbel.size; have hblS := hbl.size; have hbw := hbl.trans (hbel.mono hbl.size); have hbwS := hbw.size; have qx := (hq2.below hbel).more hbel.size; have qy := (hqy.below hbel).more hbel.size; clear hbl; by_cases hk : k < 5; (have hkop : -9223372036854775808 ≤ (k : Int) ∧ (k : Int) ≤ 9223372036854775807 := (by omega); have fx := fun A c w hr => fold_any (k : Int) A n c l w hr hl hkop hn; have fy := fun A c w hr => fold_any (k : Int) A n c L w hr hly hkop hn; rw [hpf (k : Int) (by omega)] at fy; go_wp2_with (first | (go_at_call 9; with_reducible refine (fx _ _ _ qx).mono ?_; rintro e w' ⟨rfl, hb⟩; obtain ⟨X, rfl⟩ := World.ext_of_below hb; clear hb) | (go_at_call 9; with_reducible refine (fy _ _ _ (qy.grown _)).mono ?_; rintro e w' ⟨rfl, hb⟩; obtain ⟨X, rfl⟩ := World.ext_of_below hb; clear hb)); go_roundw; (case rel => first | exact ⟨k + 1, by omega, by omega, by go_num, by (repeat' (first | with_reducible exact Below.refl _ _ | with_reducible refine Below.ext ?_ ?_ _ | with_reducible refine Below.alloc ?_ ?_ _ | with_reducible refine Below.setCell ?_ ?_ _ | with_reducible refine Below.drew ?_ | with_reducible assumption | (simp [World.size_ext]; done) | (simp [World.size_ext]; omega)))⟩ | ((repeat apply Exists.intro); exact ⟨⟨k + 1, by omega, by omega, by go_num, by (repeat' (first | with_reducible exact Below.refl _ _ | with_reducible refine Below.ext ?_ ?_ _ | with_reducible refine Below.alloc ?_ ?_ _ | with_reducible refine Below.setCell ?_ ?_ _ | with_reducible refine Below.drew ?_ | with_reducible assumption | (simp [World.size_ext]; done) | (simp [World.size_ext]; omega)))⟩, rfl⟩)); (case measure => simp [intOf]; omega)); (obtain rfl : k = 5 := (by omega); go_wp2_with (first | (go_at_call 12; with_reducible refine (awake_any _).mono ?_; rintro e w' ⟨rfl, hb⟩; obtain ⟨X, rfl⟩ := World.ext_of_below hb; clear hb)); go_ret; refine ⟨rfl, ?_⟩; (repeat' (first | with_reducible exact Below.refl _ _ | with_reducible refine Below.ext ?_ ?_ _ | with_reducible refine Below.alloc ?_ ?_ _ | with_reducible refine Below.setCell ?_ ?_ _ | with_reducible refine Below.drew ?_ | with_reducible assumption | (simp [World.size_ext]; done) | (simp [World.size_ext]; omega)))))
section
open Go.ChangeShapes Go.WideShapes Go.ChangeAt
variable {H : Type} {enc : TypeId × Value → H}
theorem ints_open {P : Program} {t e : TypeId} {base : Nat} {d : DataW H} {p : List MemPlace} (ht : P.underlying t = some (.slice e)) (he : P.underlying e = some (.int .i64)) (hc : P.cellsOf e = 1) {W : World} {v : Value}
    (hv : Value.okWide P W .any base t v) (h : DataW.Trod enc P W 0 (fun _ => true) true t v d p) :
    ∃ A n c l, v = .slice A n c ∧ n ≤ c ∧ Reads W W.heap.size 1 A n (i64s l) ∧ In64 l := by
  obtain ⟨A, n, c, rfl⟩ := okWide_slice ht hv
  obtain ⟨fuel, hf⟩ := h
  rcases open_ints ht he hc hf with ⟨hcs, hx⟩ | ⟨a, len', cap', zs, hcs, _, hl, hm, hz, hx, hcell, hwz⟩
  · simp [Value.cells] at hcs
    obtain ⟨rfl, rfl, rfl⟩ := hcs
    exact ⟨none, 0, 0, [], rfl, by omega, Reads.none_, fun _ h => by cases h⟩
  · simp [Value.cells] at hcs
    obtain ⟨rfl, rfl, rfl⟩ := hcs
    simp only [if_true] at hz
    refine ⟨some a, n, c, zs.take n, rfl, by omega, ⟨by rw [i64s_length, List.length_take]; omega, fun hn => ⟨a, rfl, ?_, fun j u hu => ?_⟩⟩, fun x hx => ?_⟩
    · have := World.block_lt_of_cell? _ _ (hcell 0 (by omega))
      rwa [block_of_add] at this
    · have hj : j < n := by
        rcases Nat.lt_or_ge j n with h | h
        · exact h
        · rw [List.getElem?_eq_none (by rw [i64s_length, List.length_take]; omega)] at hu; cases hu
      have hjz : j < zs.length := by omega
      rw [hcell j hjz]
      simp [i64s, List.getElem?_take, hj, hjz] at hu
      rw [← hu]
      simp [List.getD, hjz]
    · have := hwz x (List.mem_of_mem_take hx)
      simp [Lit.wf, IntKind.min, IntKind.max, IntKind.signed, IntKind.bits] at this
      exact this
theorem tallyTurns_walk : LawWalkS enc Try.prog 5 Try.f5 := by
  intro W base args ds ps hval hA hlt _ hs
  rw [Try.params5] at hA hval hs
  obtain ⟨v0, v1, d0, d1, p0, p1, rfl, rfl, rfl, h0, h1⟩ := trodAll_two hA
  obtain ⟨A, n, c, l, rfl, hnc, hr, hl, hn⟩ := smps_open (hval 0 _ v0 rfl rfl) h0
  obtain ⟨A2, nt, ct, ts, rfl, hnt, hr2, hts⟩ := ints_open Try.underlying33 Try.underlying3 (by kernel_rfl) (hval 1 _ v1 rfl rfl) h1
  have hn' := bound_of hs (j := 0) rfl rfl hn
  by_cases h : 0 < n
  · exact law_turns1 A n c l A2 nt ct ts W hr hl (by omega) h hr2 hts
  · obtain rfl : n = 0 := by omega
    exact law_turns0 A c A2 nt ct ts W hr2 hts
set_option maxRecDepth 100000 in
theorem tallyTurns_lifted (os : Os) (started : os.Started) (H : Type) (enc : TypeId × Value → H) :
    ReturnsInHanded {} Try.checked os 5 .any (Rows.tallyTurnsSpec.pre6 enc Try.prog Try.f5 Rows.tallyTurnsRow.domain false) (Rows.tallyTurnsSpec.post enc Try.prog Try.f5 false true false false) :=
  law_lifted_sized (C := Try.checked) own started (by kernel_rfl) Try.func5 laidOut (by kernel_rfl) rfl Try.underlying4 rfl rfl
    (fun ds h => by obtain ⟨d0, d1, rfl⟩ := list2 h; rfl)
    (ChangeSpec.witness6 (enc := enc) (C := Try.checked) false ⟨#[], #[.slice none 0 0, .slice none 0 0], []⟩ 8 (by kernel_rfl) (by kernel_rfl) (by kernel_rfl) (by kernel_rfl))
    tallyTurns_walk
theorem tallyTurns_holds : Rows.TallyTurnsSaid :=
  OpenClaim.holds_of_wide 5 Try.f5 rfl rfl rfl rfl rfl rfl rfl ⟨rfl, rfl, rfl, rfl, rfl⟩ rfl rfl rfl rfl rfl (by kernel_rfl) Try.func5 (by kernel_rfl)
    (of_decide_eq_true (by kernel_rfl)) (by unfold Func.isWrapper; rw [if_neg (of_decide_eq_false (by kernel_rfl))]; exact ⟨rfl, rfl⟩)
    (fun os started H enc _ => tallyTurns_lifted os started H enc)
#print axioms tallyTurns_holds
end
end Go.Proofs.Ytijegnhkkgdihaa
