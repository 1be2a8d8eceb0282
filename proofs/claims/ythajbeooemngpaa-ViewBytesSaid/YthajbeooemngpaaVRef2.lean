import Derived.Test.YthajbeooemngpaaVRef
import Derived.Test.YthajbeooemngpaaDraw
/-! The document's Right, New, Active. -/
namespace Go.Proofs.Ythajbeooemngpaa
open Go.RowKit
set_option linter.unusedVariables false
set_option linter.unusedSimpArgs false
theorem Blk.four {w : World} {g : Nat} {t : TypeId} {a b c d u v x y : Value} (h : Blk w g t #[a, b, c, d]) : Blk ((((w.setCell ⟨g, 0, none⟩ u).setCell ⟨g, 1, none⟩ v).setCell ⟨g, 2, none⟩ x).setCell ⟨g, 3, none⟩ y) g t #[u, v, x, y] := (((h.set_ 0 u).set_ 1 v).set_ 2 x).set_ 3 y
theorem bodyPost_tc {P : Program} {fn : Func} {R : Ending → World → Prop} {a : Act} {w : World} {p u g : Nat} {t ty : TypeId} {cs : Array Value} {d : TypeDesc} (h : fn.results = #[.tmp u, .cell p ty])
    (hp : a.tmps.getD p undef = .pointer (some ⟨g, 0, none⟩)) (hB : Blk w g t cs) (hu : P.underlying ty = some d) (hd : (match d with | .struct _ | .array _ _ => true | _ => false) = true) (hi : (P.info? ty).map (·.size) = some cs.size)
    (hdf : a.defers = []) (hR : R (.returned (.tuple #[a.tmps.getD u undef, .agg cs])) w) : bodyPost P fn R .ret a w :=
  bodyPost_ret (by
    have hp' := hp
    rw [Array.getD_eq_getD_getElem?] at hp'
    simp only [results, h]
    simp [hp', asAddr, run_loadVar_row w g t ty cs (0, 0) d hB hu hd hi, Array.getD_eq_getD_getElem?]) hdf hR
theorem rightV_up (e p : Int) (l : List Int) : rightV e p l = (upB l && (decide (1 ≤ e) && decide (e ≤ 4611686018427387904) && hasB l p)) := by
  unfold rightV risingB
  cases h : hasB l p with
  | true =>
    have : 0 < l.length := List.length_pos_of_mem (hasB_mem.1 h)
    simp [this, Bool.and_comm]
  | false => simp
theorem rightV_not {e p : Int} {l : List Int} (h : upB l = false) : rightV e p l = false := by rw [rightV_up, h]; rfl
set_option maxRecDepth 100000 in
set_option maxHeartbeats 4000000 in
theorem rvright_any (e p : Int) (A : Option Addr) (n c : Nat) (l : List Int) (w : World) (hr : Reads w w.heap.size 1 A n (ints l)) (hn : n ≤ 9223372036854775807) :
    Calls Try.prog 40 #[.agg #[.int .i64 e, .int .i64 p, .slice A n c]] w fun r w' => r = .returned (.bool (rightV e p l)) ∧ Below w.heap.size w w' := by
  have hl := reads_len hr
  have hB0 := Blk.new w 66 #[.int .i64 e, .int .i64 p, .slice A n c]
  have hb0 : Below w.heap.size w (w.alloc (.cells #[.int .i64 e, .int .i64 p, .slice A n c] 66)) := Below.alloc (Below.refl _ _) (Nat.le_refl _) _
  go_enter Try.func40, Try.ntmps40
  go_wp2
  go_loopw [3] (fun s wr => ∃ j : Nat, j ≤ n ∧ s = .int .i64 (j : Int) ∧ (∀ i, i < j → okN l i = true) ∧ Blk wr w.heap.size 66 #[.int .i64 e, .int .i64 p, .slice A n c] ∧ Below w.heap.size w wr) (fun s _ => ((n : Int) - intOf s).toNat)
  case atStart => exact ⟨0, by omega, rfl, fun i hi => by omega, hB0, hb0⟩
  case round =>
    clear hB0 hb0
    obtain ⟨j, hj, rfl, hok, hB, hb⟩ := hrel
    obtain ⟨wo, rfl⟩ : ∃ wo : World, wo = wr := ⟨_, rfl⟩
    have hs := hb.size
    have cB := hB.cell
    have lB := hB.lt
    by_cases hlt : j < n
    · obtain ⟨b, o, rfl, hbb, hc⟩ := hr.plain (by omega) (by omega)
      have hg : l[j]? = some l[j] := List.getElem?_eq_getElem (by omega)
      have m1 : wo.cell? ⟨b, o + j, none⟩ = some (.int .i64 l[j]) := by rw [hb.cell (p := ⟨b, _, none⟩) hbb]; exact hc _ _ (ints_get hg)
      have hbw : b < wo.heap.size := by omega
      have hlj : (j : Int) < n := by omega
      generalize l[j] = x at *
      by_cases h1 : 0 ≤ x
      · have c1 : decide (x < 0) = false := by simp; omega
        by_cases h2 : x < 8
        · have c2 : decide (8 ≤ x) = false := by simp; omega
          rcases Nat.eq_zero_or_pos j with h0 | h0
          · subst h0
            simp only [Nat.zero_mul, Nat.add_zero] at m1
            rw [show ((0 : Nat) : Int) = 0 from rfl]
            have HO : Hid (∀ i, i < 1 → okN l i = true) := show ∀ i, i < 1 → okN l i = true from fun i hi => by
              obtain rfl : i = 0 := by omega
              rw [okN_zero hg]
              simp [h1, h2]
            clear hc hok hr hg h1 h2
            go_wp2
            refine wp_region_ext_lit (by kernel_rfl) (by kernel_rfl) ?_
            (repeat (first | ((with_reducible refine wpQuiet_step (fun K hK => ?_)); go_simp; first | ((with_reducible refine hK _ ?_); clear hK K) | (apply Exists.intro; (with_reducible refine ⟨fun _ => ?_, hK _ ?_⟩); skip; clear hK K)) | ((with_reducible refine quiet_skipN ?_ (fun K hK => ?_)); (rfl); go_simp; (with_reducible refine hK _ ?_); clear hK K)))
            (with_reducible refine wpQuiet_nil ?_); intro _ hw'; obtain ⟨Y, hw''⟩ := hw'; subst hw''
            go_wp2
            go_roundw
            case rel => exact ⟨1, by omega, rfl, HO.out, by (repeat' (first | with_reducible exact hB | with_reducible refine Blk.ext ?_ _ | with_reducible refine Blk.alloc ?_ _ | with_reducible apply Blk.set_to | with_reducible refine Blk.far ?_ ?_ _ | rfl | (simp [World.size_ext]; done) | (simp [World.size_ext]; omega))), by (repeat' (first | with_reducible exact Below.refl _ _ | with_reducible refine Below.ext ?_ ?_ _ | with_reducible refine Below.alloc ?_ ?_ _ | with_reducible refine Below.setCell ?_ ?_ _ | with_reducible refine Below.drew ?_ | with_reducible assumption | (simp [World.size_ext]; done) | (simp [World.size_ext]; omega)))⟩
            case measure => simp [intOf]; omega
          · obtain ⟨m, rfl⟩ : ∃ m, j = m + 1 := ⟨j - 1, by omega⟩
            have hg' : l[m]? = some l[m] := List.getElem?_eq_getElem (by omega)
            have m3 : wo.cell? ⟨b, o + m, none⟩ = some (.int .i64 l[m]) := by rw [hb.cell (p := ⟨b, _, none⟩) hbb]; exact hc _ _ (ints_get hg')
            have HO := hide (okN_succ hg hg')
            generalize l[m] = y at *
            have c5 : decide ((0 : Int) < (m : Int) + 1) = true := by simp only [decide_eq_true_eq]; omega
            have c6 : (0 : Int) < (m : Int) + 1 := by omega
            have k1 : IntKind.i64.wrap (m : Int) = (m : Int) := IntWalk.i64_in _ (by omega)
            have k3 : (m : Int) < n := by omega
            have k5 : m < n := by omega
            have k6 : (m : Int) + 1 < n := by omega
            have k7 : m + 1 < n := by omega
            have k8 : (0 : Int) ≤ (m : Int) + 1 := by omega
            have k9 : ((m : Int) + 1).toNat = m + 1 := by omega
            by_cases h3 : y < x
            · have c3 : decide (x ≤ y) = false := by simp; omega
              have HK : Hid (∀ i, i < m + 1 + 1 → okN l i = true) := show ∀ i, i < m + 1 + 1 → okN l i = true from fun i hi => by
                rcases Nat.lt_or_ge i (m + 1) with h' | h'
                · exact hok i h'
                · obtain rfl : i = m + 1 := by omega
                  rw [HO.out]
                  simp [h1, h2, h3]
              clear hc hok hr hg hg' h1 h2 HO
              go_wp2
              refine wp_region_ext_lit (by kernel_rfl) (by kernel_rfl) ?_
              (repeat (first | ((with_reducible refine wpQuiet_step (fun K hK => ?_)); go_simp; first | ((with_reducible refine hK _ ?_); clear hK K) | (apply Exists.intro; (with_reducible refine ⟨fun _ => ?_, hK _ ?_⟩); skip; clear hK K)) | ((with_reducible refine quiet_skipN ?_ (fun K hK => ?_)); (rfl); go_simp; (with_reducible refine hK _ ?_); clear hK K)))
              (with_reducible refine wpQuiet_nil ?_); intro _ hw'; obtain ⟨Y, hw''⟩ := hw'; subst hw''
              go_wp2
              go_roundw
              case rel => exact ⟨m + 1 + 1, by omega, by go_num, HK.out, by (repeat' (first | with_reducible exact hB | with_reducible refine Blk.ext ?_ _ | with_reducible refine Blk.alloc ?_ _ | with_reducible apply Blk.set_to | with_reducible refine Blk.far ?_ ?_ _ | rfl | (simp [World.size_ext]; done) | (simp [World.size_ext]; omega))), by (repeat' (first | with_reducible exact Below.refl _ _ | with_reducible refine Below.ext ?_ ?_ _ | with_reducible refine Below.alloc ?_ ?_ _ | with_reducible refine Below.setCell ?_ ?_ _ | with_reducible refine Below.drew ?_ | with_reducible assumption | (simp [World.size_ext]; done) | (simp [World.size_ext]; omega)))⟩
              case measure => simp [intOf]; omega
            · have c3 : decide (x ≤ y) = true := by simp; omega
              have HF : Hid (rightV e p l = false) := rightV_not (upB_not (i := m + 1) (by omega) (by rw [HO.out]; simp [h3]))
              clear hc hok hr hg hg' h1 h2 HO
              go_wp2
              refine wp_region_ext_lit (by kernel_rfl) (by kernel_rfl) ?_
              (repeat (first | ((with_reducible refine wpQuiet_step (fun K hK => ?_)); go_simp; first | ((with_reducible refine hK _ ?_); clear hK K) | (apply Exists.intro; (with_reducible refine ⟨fun _ => ?_, hK _ ?_⟩); skip; clear hK K)) | ((with_reducible refine quiet_skipN ?_ (fun K hK => ?_)); (rfl); go_simp; (with_reducible refine hK _ ?_); clear hK K)))
              (with_reducible refine wpQuiet_nil ?_); intro _ hw'; obtain ⟨Y, hw''⟩ := hw'; subst hw''
              go_wp2
              go_ret
              exact ⟨by rw [HF.out] <;> rfl, by (repeat' (first | with_reducible exact Below.refl _ _ | with_reducible refine Below.ext ?_ ?_ _ | with_reducible refine Below.alloc ?_ ?_ _ | with_reducible refine Below.setCell ?_ ?_ _ | with_reducible refine Below.drew ?_ | with_reducible assumption | (simp [World.size_ext]; done) | (simp [World.size_ext]; omega)))⟩
        · have c2 : decide (8 ≤ x) = true := by simp; omega
          have HF : Hid (rightV e p l = false) := rightV_not (upB_not (i := j) (by omega) (okN_lo hg (by omega)))
          clear hc hok hr hg h1 h2
          go_wp2
          refine wp_region_ext_lit (by kernel_rfl) (by kernel_rfl) ?_
          (repeat (first | ((with_reducible refine wpQuiet_step (fun K hK => ?_)); go_simp; first | ((with_reducible refine hK _ ?_); clear hK K) | (apply Exists.intro; (with_reducible refine ⟨fun _ => ?_, hK _ ?_⟩); skip; clear hK K)) | ((with_reducible refine quiet_skipN ?_ (fun K hK => ?_)); (rfl); go_simp; (with_reducible refine hK _ ?_); clear hK K)))
          (with_reducible refine wpQuiet_nil ?_); intro _ hw'; obtain ⟨Y, hw''⟩ := hw'; subst hw''
          go_wp2
          go_ret
          exact ⟨by rw [HF.out] <;> rfl, by (repeat' (first | with_reducible exact Below.refl _ _ | with_reducible refine Below.ext ?_ ?_ _ | with_reducible refine Below.alloc ?_ ?_ _ | with_reducible refine Below.setCell ?_ ?_ _ | with_reducible refine Below.drew ?_ | with_reducible assumption | (simp [World.size_ext]; done) | (simp [World.size_ext]; omega)))⟩
      · have c1 : decide (x < 0) = true := by simp; omega
        have HF : Hid (rightV e p l = false) := rightV_not (upB_not (i := j) (by omega) (okN_lo hg (by omega)))
        clear hc hok hr hg h1
        go_wp2
        refine wp_region_ext_lit (by kernel_rfl) (by kernel_rfl) ?_
        (repeat (first | ((with_reducible refine wpQuiet_step (fun K hK => ?_)); go_simp; first | ((with_reducible refine hK _ ?_); clear hK K) | (apply Exists.intro; (with_reducible refine ⟨fun _ => ?_, hK _ ?_⟩); skip; clear hK K)) | ((with_reducible refine quiet_skipN ?_ (fun K hK => ?_)); (rfl); go_simp; (with_reducible refine hK _ ?_); clear hK K)))
        (with_reducible refine wpQuiet_nil ?_); intro _ hw'; obtain ⟨Y, hw''⟩ := hw'; subst hw''
        go_wp2
        go_ret
        exact ⟨by rw [HF.out] <;> rfl, by (repeat' (first | with_reducible exact Below.refl _ _ | with_reducible refine Below.ext ?_ ?_ _ | with_reducible refine Below.alloc ?_ ?_ _ | with_reducible refine Below.setCell ?_ ?_ _ | with_reducible refine Below.drew ?_ | with_reducible assumption | (simp [World.size_ext]; done) | (simp [World.size_ext]; omega)))⟩
    · obtain rfl : j = n := by omega
      have HF : Hid (rightV e p l = (decide (1 ≤ e) && decide (e ≤ 4611686018427387904) && hasB l p)) := show rightV e p l = _ from by
        rw [rightV_up, upB_of (fun i hi => hok i (by omega)), Bool.true_and]
      have hH := rhas_any A j c l p wo ((hr.below hb).more hs) hn
      clear hok hr
      by_cases q1 : 1 ≤ e
      · by_cases q2 : e ≤ 4611686018427387904
        · have d1 : decide (1 ≤ e) = true := decide_eq_true q1
          have d2 : decide (e ≤ 4611686018427387904) = true := decide_eq_true q2
          go_wp2_with (go_at_call 41; (with_reducible refine hH.mono ?_); rintro e w1 ⟨rfl, rfl⟩)
          go_ret
          exact ⟨by rw [HF.out, d1, d2] <;> rfl, hb⟩
        · have d2 : decide (e ≤ 4611686018427387904) = false := decide_eq_false q2
          have d1 : decide (1 ≤ e) = true := decide_eq_true q1
          go_wp2
          go_ret
          exact ⟨by rw [HF.out, d1, d2] <;> rfl, hb⟩
      · have d1 : decide (1 ≤ e) = false := decide_eq_false q1
        go_wp2
        go_ret
        exact ⟨by rw [HF.out, d1] <;> rfl, hb⟩
theorem rightV_one {n : Int} {ms : List Int} : rightV 1 n ms = (risingB ms && hasB ms n) := by simp [rightV]
set_option maxRecDepth 100000 in
set_option maxHeartbeats 2000000 in
theorem rnew_no (A : Option Addr) (n c : Nat) (l : List Int) (w : World) (hr : Reads w w.heap.size 1 A n (ints l)) (hn : n ≤ 9223372036854775807) (hu : risingB l = false) :
    Calls Try.prog 33 #[.slice A n c] w fun r w' => r = .returned (.tuple #[.agg #[.int .i64 0, .int .i64 0, .slice none 0 0, .slice none 0 0], .int .i64 1]) ∧ Below w.heap.size w w' := by
  have hl := reads_len hr
  rcases Nat.eq_zero_or_pos n with h0 | h0
  · subst h0
    go_enter Try.func33, Try.ntmps33
    go_wp2
    refine bodyPost_cell_tmp Try.results33 rfl (Blk.new w _ #[.int .i64 0, .int .i64 0, .slice none 0 0, .slice none 0 0]) Try.underlying68 rfl (by kernel_rfl) rfl ⟨rfl, by (repeat' (first | with_reducible exact Below.refl _ _ | with_reducible refine Below.ext ?_ ?_ _ | with_reducible refine Below.alloc ?_ ?_ _ | with_reducible refine Below.setCell ?_ ?_ _ | with_reducible refine Below.drew ?_ | with_reducible assumption | (simp [World.size_ext]; done) | (simp [World.size_ext]; omega)))⟩
  · obtain ⟨x, t, rfl⟩ : ∃ x t, l = x :: t := by
      cases l with
      | nil => simp at hl; omega
      | cons x t => exact ⟨x, t, rfl⟩
    have hR : ∀ o1 o2, _ := fun o1 o2 => rvright_any 1 x A n c (x :: t) ((w.alloc o1).alloc o2) (((hr.alloc (Nat.le_refl _) o1).alloc (by simp) o2).more (by simp; omega)) hn
    rw [rightV_one, hu, Bool.false_and] at hR
    obtain ⟨b, o, rfl, hbb, hc⟩ := hr.plain h0 (by omega)
    have m1 := hc 0 _ (by rfl : (ints (x :: t))[0]? = some _)
    rw [Nat.add_zero] at m1
    have hn1 : (0 : Int) < n := by omega
    have hn2 : ((n : Int) == 0) = false := by simp; omega
    clear hc hr hl
    go_enter Try.func33, Try.ntmps33
    go_wp2_with (go_at_call 40; (with_reducible refine (hR _ _).mono ?_); rintro e w1 ⟨rfl, hb1⟩; obtain ⟨X, rfl⟩ := World.ext_of_below hb1; clear hb1)
    refine bodyPost_cell_tmp Try.results33 rfl (Blk.four (Blk.ext ((Blk.new w _ #[.int .i64 0, .int .i64 0, .slice none 0 0, .slice none 0 0]).alloc _) _)) Try.underlying68 rfl (by kernel_rfl) rfl ⟨rfl, by (repeat' (first | with_reducible exact Below.refl _ _ | with_reducible refine Below.ext ?_ ?_ _ | with_reducible refine Below.alloc ?_ ?_ _ | with_reducible refine Below.setCell ?_ ?_ _ | with_reducible refine Below.drew ?_ | with_reducible assumption | (simp [World.size_ext]; done) | (simp [World.size_ext]; omega)))⟩
set_option maxRecDepth 100000 in
set_option maxHeartbeats 2000000 in
theorem rnew_yes (A : Option Addr) (n c : Nat) (x : Int) (t : List Int) (w : World) (hr : Reads w w.heap.size 1 A n (ints (x :: t))) (hn : n ≤ 9223372036854775807) (hu : risingB (x :: t) = true) :
    Calls Try.prog 33 #[.slice A n c] w fun r w' => r = .returned (.tuple #[.agg #[.int .i64 1, .int .i64 x, .slice A n c, .slice A n c], .int .i64 0]) ∧ Below w.heap.size w w' := by
  have hl := hide (reads_len hr)
  have h0 : 0 < n := by have := hl.out; simp at this; omega
  have hR : ∀ o1 o2, _ := fun o1 o2 => rvright_any 1 x A n c (x :: t) ((w.alloc o1).alloc o2) (((hr.alloc (Nat.le_refl _) o1).alloc (by simp) o2).more (by simp; omega)) hn
  rw [rightV_one, hu, Bool.true_and, hasB_mem.2 (List.mem_cons_self ..)] at hR
  obtain ⟨b, o, rfl, hbb, hc⟩ := hr.plain h0 (by omega)
  have m1 := hc 0 _ (by rfl : (ints (x :: t))[0]? = some _)
  rw [Nat.add_zero] at m1
  have hn1 : (0 : Int) < n := by omega
  have hn2 : ((n : Int) == 0) = false := by simp; omega
  clear hc hr
  go_enter Try.func33, Try.ntmps33
  go_wp2_with (go_at_call 40; (with_reducible refine (hR _ _).mono ?_); rintro e w1 ⟨rfl, hb1⟩; obtain ⟨X, rfl⟩ := World.ext_of_below hb1; clear hb1)
  refine bodyPost_cell_tmp Try.results33 rfl (Blk.four (Blk.ext ((Blk.new w _ #[.int .i64 0, .int .i64 0, .slice none 0 0, .slice none 0 0]).alloc _) _)) Try.underlying68 rfl (by kernel_rfl) rfl ⟨rfl, by (repeat' (first | with_reducible exact Below.refl _ _ | with_reducible refine Below.ext ?_ ?_ _ | with_reducible refine Below.alloc ?_ ?_ _ | with_reducible refine Below.setCell ?_ ?_ _ | with_reducible refine Below.drew ?_ | with_reducible assumption | (simp [World.size_ext]; done) | (simp [World.size_ext]; omega)))⟩
end Go.Proofs.Ythajbeooemngpaa
