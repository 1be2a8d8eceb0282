import Derived.Test.YtghinjnhcepaeaaCh26
import Derived.Deep.AppendSrc
/-! The law on orders. -/
namespace Go.Proofs.Ytghinjnhcepaeaa
open Go.RowKit
set_option linter.unusedVariables false
set_option linter.unusedSimpArgs false
theorem run_copyV {w : World} {A : Option Addr} {c : Nat} {L : List Ver} (h : Chn w (.slice A L.length c) L) (hn : L.length * 48 ≤ 140737488355328) :
    ∃ v w', (Builtin.append_ #[35, 35] 35 #[.slice (some ⟨w.heap.size, 0, none⟩) 0 0, .slice A L.length c]).run Try.prog (w.alloc (.cells #[] 31)) = .ok v w' ∧ w'.ownsRow w.heap.size 31 6 v L.length (vsV L) ∧ Below w.heap.size w w' ∧ v ≠ .slice none 0 0 := by
  obtain ⟨i0, hi, hz0, hz1, hz2⟩ := info_parts infoV
  obtain ⟨A', c', e, _, _, hr⟩ := h
  cases e
  have hb := Below.alloc (Below.refl w.heap.size w) (Nat.le_refl _) (.cells #[] 31)
  cases A with
  | none =>
    have h0 : L.length = 0 := by
      rcases Nat.eq_zero_or_pos L.length with h | h
      · exact h
      · obtain ⟨_, e, _⟩ := hr.2 h; cases e
    have hL : L = [] := List.eq_nil_of_length_eq_zero h0
    subst hL
    have h := run_append_room_src (P := Try.prog) (w.alloc (.cells #[] 31)) 35 35 35 31 i0 Try.underlying35 hi w.heap.size 0 0 0 (.slice none 0 c) 0 [] (Src.ofNil (w.alloc (.cells #[] 31)) Try.underlying35 c) (Nat.le_refl _) (fun j hj => by cases hj) (fun j hj => by cases hj)
    exact ⟨_, _, h, World.ownsRow_made w #[] 0 (Nat.le_refl _) (Nat.zero_le _) rfl, hb, by simp⟩
  | some ad =>
    obtain ⟨v, w', h1, h2, h3, h4⟩ := run_append_own (P := Try.prog) (w.alloc (.cells #[] 31)) w.heap.size 35 35 31 i0 (.agg #[.int .i64 0, .int .u32 0, .int .u32 0, .int .i64 0, .int .i64 0, .string ⟨#[]⟩]) 6 48 Try.underlying35 hi hz0 hz1 hz2 rfl (by decide) (.slice (some ⟨w.heap.size, 0, none⟩) 0 0) 0 [] (World.ownsRow_made w #[] 0 (Nat.le_refl _) (Nat.zero_le _) rfl) ad L.length c (vsV L) (vsV_length L)
      (fun j u hu => by
        have hn0 : 0 < L.length := by
          have := (List.getElem?_eq_some_iff.1 hu).1
          rw [vsV_length] at this
          omega
        obtain ⟨ad', e, hb', h⟩ := hr.2 hn0
        cases e
        rw [World.cell?_alloc_lt w _ _ (by rw [block_of_add]; exact hb')]
        exact h j u hu)
      (fun u hu => vsV_one hu) (by unfold maxLen; omega) (by omega) (by simp)
    refine ⟨v, w', h1, by simpa using h2, hb.grown h3 (by simp) (by intro k hk; simp [Value.ownBlock] at hk; omega), fun e => ?_⟩
    have := h4.1 e
    simp at this
theorem wpList_append_run {P : Program} {ops : Array Oper} {rest : List Oper} {o : Oper} {a : Act} {w w' : World} {v sv xv : Value} {Q : Exit → Act → World → Prop} (hgd : o.guard = none) (s x : Operand) (t : TypeId)
    (ho : o.op = .call { callee := .builtin .append, args := #[s, x], argTypes := #[t, t] }) (hs : a.eval s = sv) (hx : a.eval x = xv) (hr : (Builtin.append_ #[t, t] o.type #[sv, xv]).run P w = .ok v w')
    (h : wpList P ops Q rest (a.put o.dst v) w') : wpList P ops Q (o :: rest) a w :=
  wpList_plain hgd fun _ hK => by
    unfold Oper.wp execOp
    simp only [ho, resolve, invoke, builtin, Sem.run_bind, Sem.run_pure, Result.andThen_ok, List.map_toArray, List.map_cons, List.map_nil, hs, hx, hr]
    exact hK _ _ h
set_option maxRecDepth 100000 in
set_option maxHeartbeats 16000000 in
theorem law_order (A : Option Addr) (n c : Nat) (l : List Ver) (A' : Option Addr) (n' c' : Nat) (ks : List Int) (w : World) (hr : Reads w w.heap.size 6 A n (vsV l)) (hn : n ≤ 9223372036854775807) (hok : ∀ x ∈ l, x.ok)
    (hr' : Reads w w.heap.size 1 A' n' (ints ks)) (hn' : n' ≤ 9223372036854775807) (hok' : ∀ x ∈ ks, I64 x) :
    Calls Try.prog 5 #[.slice A n c, .slice A' n' c'] w fun e w' => e = .returned (.bool true) ∧ Below w.heap.size w w' := by
  have hl' := reads_len hr'
  obtain ⟨i0, hi, hz0, hz1, hz2⟩ := info_parts infoV
  have hM := made_any A n c l w hr hn hok
  have hG := ML_good hok 60
  have hL := ML_length l 60
  generalize ML l 60 = L at *
  clear hr hok
  generalize hq : w.heap.size = q at *
  go_enter Try.func5, Try.ntmps5
  go_wp2_with (first
    | (go_at_call 12; (with_reducible refine hM.mono ?_); rintro e w1 ⟨⟨u, v, rfl, hu, hv⟩, hb1⟩; obtain ⟨Au, cu, hue⟩ := hu.shape; subst hue)
    | (go_at_call 8; (with_reducible refine (chawake_any _).mono ?_); rintro e w2 ⟨rfl, hb2⟩; have hu2 := hu.below hb2; have hb02 := hb1.trans (hb2.mono (by rw [← hq]; exact hb1.size)); have hs02 : q ≤ w2.heap.size := (by rw [← hq]; exact hb02.size); obtain ⟨mv, w3, hrun, hown, hb3, hnil⟩ := run_copyV hu2 (by omega)) | (at_builtin; refine wpList_append_run rfl _ _ 35 rfl rfl rfl hrun ?_))
  have hb03 : Below q w w3 := hb02.trans (hb3.mono hs02)
  have hu3 := hu2.below hb3
  have hmv : ∃ g cap, mv = .slice (some ⟨g, 0, none⟩) L.length cap ∧ w2.heap.size ≤ g ∧ Row6 w3 g L.length L := by
    rcases hown.2 with ⟨e, _⟩ | ⟨g, cap, cur, e, hge, hg, hnc, _, hs, ht⟩
    · exact absurd e hnil
    · exact ⟨g, cap, e, hge, rfl, cap, cur, hg, hnc, hs, ht⟩
  obtain ⟨g, cap, rfl, hge, hrow⟩ := hmv
  have hoff : Off g (.slice Au L.length cu) L := hu2.off hge
  clear hb1 hb2 hb02 hu hu2 hv hown hrun hb3 hM hnil
  generalize hn0 : L.length = n0 at *
  go_loopw [35] (fun s35 wr => ∃ (j : Nat) (P : List Ver), j ≤ n' ∧ s35 = .int .i64 (j : Int) ∧ Row6 wr g n0 P ∧ P.Perm L ∧ Chn wr (.slice Au n0 cu) L ∧ Below q w wr) (fun s35 _ => ((n' : Int) - intOf s35).toNat)
  case atStart => exact ⟨0, L, by omega, rfl, hrow, List.Perm.refl _, hu3, hb03⟩
  case round =>
    clear hrow hu3 hb03
    obtain ⟨j, P, hj, rfl, hrow, hperm, hC, hbel⟩ := hrel
    have hqw : q ≤ wr.heap.size := by have := hrow.lt; omega
    by_cases hgo : j < n' ∧ j < 50 ∧ 0 < n0
    · obtain ⟨hlt, h50, hn0p⟩ := hgo
      obtain ⟨b, o, rfl, hbb, hc⟩ := hr'.plain (by omega) (by omega)
      have hg' : ks[j]? = some ks[j] := List.getElem?_eq_getElem (by omega)
      have mk : wr.cell? ⟨b, o + j, none⟩ = some (.int .i64 ks[j]) := (hbel.cell (p := ⟨b, _, none⟩) hbb).trans (hc _ _ (ints_get hg'))
      have hkI := hok' _ (List.getElem_mem (show j < ks.length by omega))
      generalize ks[j] = kv at *
      have hbw : b < wr.heap.size := by omega
      have hji : (j : Int) < n' := by omega
      have h50' : (j : Int) < 50 := by omega
      have hn0b : ((n0 : Int) == 0) = false := by simp; omega
      have hn0' : ¬ ((n0 : Int) = 0) := by omega
      have hn0n : ¬ (n0 = 0) := by omega
      have h50b : decide ((50 : Int) ≤ (j : Int)) = false := decide_eq_false (by omega)
      have hwn : IntKind.u64.wrap (n0 : Int) = (n0 : Int) := by rw [IntKind.wrap_u64]; omega
      obtain ⟨kn, hkn⟩ : ∃ kn : Nat, IntKind.u64.wrap kv = (kn : Int) := ⟨(IntKind.u64.wrap kv).toNat, by rw [IntKind.wrap_u64]; omega⟩
      have hbt : (kn : Int).tmod (n0 : Int) = ((kn % n0 : Nat) : Int) := (Int.ofNat_tmod kn n0).symm
      have hat : (j : Int).tmod (n0 : Int) = ((j % n0 : Nat) : Int) := (Int.ofNat_tmod j n0).symm
      have hbn : kn % n0 < n0 := Nat.mod_lt _ hn0p
      have han : j % n0 < n0 := Nat.mod_lt _ hn0p
      clear hc hr' hok' hg'
      go_wp2
      refine First.wp_region_first_ext [5, 8, 10] [0, 1, 2, 3, 4, 6, 7, 9] [(true, false, 0), (true, false, 1), (true, false, 2), (true, false, 3), (true, false, 4), (true, true, 5), (true, false, 6), (true, false, 7), (true, true, 8), (true, false, 9), (true, true, 10), (false, true, 11), (false, false, 12)] (by kernel_rfl) (by kernel_rfl) (fun Y => ?_); simp only [List.map_cons, List.map_nil, List.getD_cons_zero, List.getD_cons_succ]
      (repeat (first | (refine First.wpF_pure (fun K hK => ?_); go_simp; first | (refine hK _ _ ?_; clear hK K) | (apply Exists.intro; refine ⟨fun _ => ?_, hK _ _ ?_⟩; fail)) | (refine First.wpF_free (fun K hK => ?_); go_simp; first | (refine hK _ _ ?_; clear hK K))))
      (repeat (refine First.wpF_must (fun K hK => ?_); go_wp2; (refine hK _ _ (fun hnd => by first | exact Bool.noConfusion hnd | assumption | with_reducible exact grown_alloc _ _ | with_reducible exact First.Grown.refl _ | with_reducible exact First.Grown.cat _ _ _ | with_reducible exact First.Grown.ext _ _) ?_; clear hK K)))
      refine First.wpF_nil ?_
      go_wp2
      have ea : (j : Int) % (n0 : Int) = ((j % n0 : Nat) : Int) := by first | exact (Int.natCast_emod _ _).symm | exact (Int.natCast_mod _ _).symm | simp
      have eb : IntKind.i64.wrap ((kn : Int) % (n0 : Int)) = ((kn % n0 : Nat) : Int) := by
        rw [show (kn : Int) % (n0 : Int) = ((kn % n0 : Nat) : Int) by first | exact (Int.natCast_emod _ _).symm | exact (Int.natCast_mod _ _).symm | simp, IntKind.wrap_i64]
        omega
      simp only [ea, eb]
      generalize kn % n0 = bb at *
      generalize j % n0 = aa at *
      clear ea eb hat hbt hkn hwn mk
      refine abstr (fun W => Below q w W ∧ Row6 W g n0 P ∧ Chn W (.slice Au n0 cu) L) ⟨hbel.trans ((World.below_ext _ _).mono hqw), hrow.below (World.below_ext _ _) hrow.lt, hC.ext _⟩ (fun W hW => ?_)
      clear hbel hrow hC hqw hbw
      obtain ⟨hbel, hrow, hC⟩ := hW
      have hlP := hrow.len
      obtain ⟨x, hx⟩ : ∃ x, P[aa]? = some x := ⟨P[aa]'(by omega), List.getElem?_eq_getElem (by omega)⟩
      obtain ⟨y, hy⟩ : ∃ y, P[bb]? = some y := ⟨P[bb]'(by omega), List.getElem?_eq_getElem (by omega)⟩
      have hcw := hrow.cell
      simp only [Nat.zero_add] at hcw
      have k0 : W.cell? ⟨g, aa * 6, none⟩ = some (.int .i64 x.a) := hcw _ _ (vsV_get hx 0 _ rfl)
      have k1 : W.cell? ⟨g, aa * 6 + 1, none⟩ = some (.int .u32 x.b) := hcw _ _ (vsV_get hx 1 _ rfl)
      have k2 : W.cell? ⟨g, aa * 6 + 2, none⟩ = some (.int .u32 x.c) := hcw _ _ (vsV_get hx 2 _ rfl)
      have k3 : W.cell? ⟨g, aa * 6 + 3, none⟩ = some (.int .i64 x.kd) := hcw _ _ (vsV_get hx 3 _ rfl)
      have k4 : W.cell? ⟨g, aa * 6 + 4, none⟩ = some (.int .i64 x.num) := hcw _ _ (vsV_get hx 4 _ rfl)
      have k5 : W.cell? ⟨g, aa * 6 + 5, none⟩ = some (.string x.text) := hcw _ _ (vsV_get hx 5 _ rfl)
      have m0 : W.cell? ⟨g, bb * 6, none⟩ = some (.int .i64 y.a) := hcw _ _ (vsV_get hy 0 _ rfl)
      have m1 : W.cell? ⟨g, bb * 6 + 1, none⟩ = some (.int .u32 y.b) := hcw _ _ (vsV_get hy 1 _ rfl)
      have m2 : W.cell? ⟨g, bb * 6 + 2, none⟩ = some (.int .u32 y.c) := hcw _ _ (vsV_get hy 2 _ rfl)
      have m3 : W.cell? ⟨g, bb * 6 + 3, none⟩ = some (.int .i64 y.kd) := hcw _ _ (vsV_get hy 3 _ rfl)
      have m4 : W.cell? ⟨g, bb * 6 + 4, none⟩ = some (.int .i64 y.num) := hcw _ _ (vsV_get hy 4 _ rfl)
      have m5 : W.cell? ⟨g, bb * 6 + 5, none⟩ = some (.string y.text) := hcw _ _ (vsV_get hy 5 _ rfl)
      have lg := hrow.lt
      have hai : (aa : Int) < n0 := by omega
      have hbi : (bb : Int) < n0 := by omega
      clear hcw
      refine First.wp_region_first_ext [7, 11] [0, 1, 2, 3, 4, 5, 6, 8, 9, 10, 12, 14] [(true, false, 0), (true, false, 1), (true, false, 2), (true, false, 3), (true, false, 4), (true, false, 5), (true, false, 6), (true, true, 7), (true, false, 8), (true, false, 9), (true, false, 10), (true, true, 11), (true, false, 12), (false, false, 13), (true, false, 14), (false, false, 15)] (by kernel_rfl) (by kernel_rfl) (fun Z => ?_); simp only [List.map_cons, List.map_nil, List.getD_cons_zero, List.getD_cons_succ]
      (repeat (first | (refine First.wpF_pure (fun K hK => ?_); go_simp; first | (refine hK _ _ ?_; clear hK K) | (apply Exists.intro; refine ⟨fun _ => ?_, hK _ _ ?_⟩; fail)) | (refine First.wpF_free (fun K hK => ?_); go_simp; first | (refine hK _ _ ?_; clear hK K))))
      have hrZ : Row6 (W.ext Z) g n0 P := hrow.below (World.below_ext _ _) lg
      have hCZ := hC.ext Z
      have hbZ := hbel.trans ((World.below_ext W Z).mono (by omega))
      have HK := hide (⟨hrZ, hCZ, hbZ⟩ : _ ∧ _ ∧ _)
      clear hrZ hCZ hbZ hrow hC hbel k0 k1 k2 k3 k4 k5 m0 m1 m2 m3 m4 m5 lg
      generalize W.ext Z = W0 at *
      refine First.wpF_must (fun K hK => ?_)
      obtain ⟨hrZ, hCZ, hbZ⟩ := HK.out
      refine wpList_storeV rfl (.tmp 70) (.tmp 65) rfl g (aa * 6) y rfl rfl (fun j hj => hrZ.some (by omega)) (fun j hj => hrZ.frozen _) ?_
      have hr1 := hrZ.set han y
      have hC1 := Chn.setN hoff y.cells (aa * 6) W0 hCZ
      have hb1 : Below q w (W0.setCells g (aa * 6) y.cells) := hbZ.trans ((only_setCells y.cells (aa * 6) W0).below (by omega) (by have := hrZ.lt; omega))
      clear HK hrZ hCZ hbZ
      generalize W0.setCells g (aa * 6) y.cells = W1 at *
      refine hK _ _ (fun hnd => Bool.noConfusion hnd) ?_
      clear hK K
      have HK := hide (⟨hr1, hC1, hb1⟩ : _ ∧ _ ∧ _)
      clear hr1 hC1 hb1
      (repeat (first | (refine First.wpF_pure (fun K hK => ?_); go_simp; first | (refine hK _ _ ?_; clear hK K) | (apply Exists.intro; refine ⟨fun _ => ?_, hK _ _ ?_⟩; fail)) | (refine First.wpF_free (fun K hK => ?_); go_simp; first | (refine hK _ _ ?_; clear hK K))))
      refine First.wpF_must (fun K hK => ?_)
      obtain ⟨hr1, hC1, hb1⟩ := HK.out
      refine wpList_storeV rfl (.tmp 71) (.tmp 69) rfl g (bb * 6) x rfl rfl (fun j hj => hr1.some (by omega)) (fun j hj => hr1.frozen _) ?_
      have hr2 := hr1.set hbn x
      have hC2 := Chn.setN hoff x.cells (bb * 6) W1 hC1
      have hb2 : Below q w (W1.setCells g (bb * 6) x.cells) := hb1.trans ((only_setCells x.cells (bb * 6) W1).below (by omega) (by have := hr1.lt; omega))
      clear HK hr1 hC1 hb1
      generalize W1.setCells g (bb * 6) x.cells = W2 at *
      refine hK _ _ (fun hnd => Bool.noConfusion hnd) ?_
      clear hK K
      refine First.wpF_nil ?_
      have hp2 : ((P.set aa y).set bb x).Perm P := by
        obtain ⟨h1, rfl⟩ := List.getElem?_eq_some_iff.1 hx
        obtain ⟨h2, rfl⟩ := List.getElem?_eq_some_iff.1 hy
        exact List.set_set_perm h1 h2
      have hp3 := hp2.trans hperm
      generalize (P.set aa y).set bb x = P2 at *
      go_wp2
      go_roundw
      case rel => exact ⟨j + 1, P2, by omega, by go_num, hr2, hp3, hC2, hb2⟩
      case measure => simp [intOf]; omega
    · have hPo : ∀ x ∈ P, x.ok := fun x hx => hG.ok x (hperm.mem_iff.1 hx)
      have hPr : ∀ x ∈ P, vright x = true := fun x hx => hG.right x (hperm.mem_iff.1 hx)
      have hPa := Apart.of_perm hperm hG.srt
      have hfin := ML_perm hperm hG
      rw [hrow.len] at hfin
      have lg := hrow.lt
      by_cases hjn : j < n'
      · obtain ⟨b, o, rfl, hbb, hc⟩ := hr'.plain (by omega) (by omega)
        have hg' : ks[j]? = some ks[j] := List.getElem?_eq_getElem (by omega)
        have mk : wr.cell? ⟨b, o + j, none⟩ = some (.int .i64 ks[j]) := (hbel.cell (p := ⟨b, _, none⟩) hbb).trans (hc _ _ (ints_get hg'))
        generalize ks[j] = kv at *
        have hbw : b < wr.heap.size := by omega
        have hji : (j : Int) < n' := by omega
        clear hc hr' hok' hg'
        by_cases h50 : j < 50
        · have h50b : decide ((50 : Int) ≤ (j : Int)) = false := decide_eq_false (by omega)
          have hn0b : ((n0 : Int) == 0) = true := by simp; omega
          go_wp2
          go_loopw [13, 75] (fun s13 s75 U => ∃ i : Nat, i ≤ n0 ∧ s75 = .int .i64 (i : Int) ∧ Row6 U g n0 P ∧ Chn U s13 (ML P i) ∧ Chn U (.slice Au n0 cu) L ∧ Below q w U) (fun _ s75 _ => ((n0 : Int) - intOf s75).toNat)
          case atStart => exact ⟨0, by omega, rfl, hrow, Chn.nil _, hC, hbel⟩
          case round =>
            clear hrow hC hbel
            obtain ⟨i, hi0, rfl, hrow, hD, hC, hbel⟩ := hrel
            obtain ⟨U, rfl⟩ : ∃ U : World, U = wr := ⟨_, rfl⟩
            have lg := hrow.lt
            have hqU : q ≤ U.heap.size := by omega
            by_cases hin : i < n0
            · exfalso; omega
            · obtain rfl : i = n0 := by omega
              rw [hfin] at hD
              have hG1 : ∀ U : World, Chn U (.slice Au i cu) L → _ := fun U h => back_g U h (by omega)
              have hG2 : ∀ (s : Value) (U : World), Chn U s L → _ := fun s U h => back_g (s := s) U h (by omega)
              go_wp2_with (first | (go_at_call 18; (with_reducible refine (hG1 _ hC).mono ?_); rintro e v1 ⟨⟨x1, rfl, hx1⟩, hv1⟩; have hD1 := hD.below hv1) | (go_at_call 18; (with_reducible refine (hG2 _ _ hD1).mono ?_); rintro e v2 ⟨⟨x2, rfl, hx2⟩, hv2⟩; have hb02 := hv1.trans (hv2.mono hv1.size)) | (go_at_call 17; (with_reducible refine (same_g (L := L) v2 (hx1.below hv2) hx2 (by omega)).mono ?_); rintro e v3 ⟨rfl, hv3⟩; have hb03 := hb02.trans (hv3.mono hb02.size)))
              go_ret
              exact ⟨rfl, hbel.trans (hb03.mono hqU)⟩
        · have h50b : decide ((50 : Int) ≤ (j : Int)) = true := decide_eq_true (by omega)
          go_wp2
          go_loopw [13, 75] (fun s13 s75 U => ∃ i : Nat, i ≤ n0 ∧ s75 = .int .i64 (i : Int) ∧ Row6 U g n0 P ∧ Chn U s13 (ML P i) ∧ Chn U (.slice Au n0 cu) L ∧ Below q w U) (fun _ s75 _ => ((n0 : Int) - intOf s75).toNat)
          case atStart => exact ⟨0, by omega, rfl, hrow, Chn.nil _, hC, hbel⟩
          case round =>
            clear hrow hC hbel
            obtain ⟨i, hi0, rfl, hrow, hD, hC, hbel⟩ := hrel
            obtain ⟨U, rfl⟩ : ∃ U : World, U = wr := ⟨_, rfl⟩
            have lg := hrow.lt
            have hqU : q ≤ U.heap.size := by omega
            by_cases hin : i < n0
            · obtain ⟨x, hx⟩ : ∃ x, P[i]? = some x := ⟨P[i]'(by have := hrow.len; omega), List.getElem?_eq_getElem (by have := hrow.len; omega)⟩
              have hcw := hrow.cell
              simp only [Nat.zero_add] at hcw
              have k0 : U.cell? ⟨g, i * 6, none⟩ = some (.int .i64 x.a) := hcw _ _ (vsV_get hx 0 _ rfl)
              have k1 : U.cell? ⟨g, i * 6 + 1, none⟩ = some (.int .u32 x.b) := hcw _ _ (vsV_get hx 1 _ rfl)
              have k2 : U.cell? ⟨g, i * 6 + 2, none⟩ = some (.int .u32 x.c) := hcw _ _ (vsV_get hx 2 _ rfl)
              have k3 : U.cell? ⟨g, i * 6 + 3, none⟩ = some (.int .i64 x.kd) := hcw _ _ (vsV_get hx 3 _ rfl)
              have k4 : U.cell? ⟨g, i * 6 + 4, none⟩ = some (.int .i64 x.num) := hcw _ _ (vsV_get hx 4 _ rfl)
              have k5 : U.cell? ⟨g, i * 6 + 5, none⟩ = some (.string x.text) := hcw _ _ (vsV_get hx 5 _ rfl)
              have hii : (i : Int) < n0 := by omega
              have hml := ML_length P i
              have hP := put_g (L := ML P i) x _ (hD.alloc (.cells (#[.int .i64 x.a, .int .u32 x.b, .int .u32 x.c, .int .i64 x.kd, .int .i64 x.num, .string x.text]) 31)) (ML_good hPo i) (hPo x (List.mem_of_getElem? hx)) (by omega)
              have he := ML_err hPo hPr hPa hx
              have hres : resL (ML P i) x = ML P (i + 1) := by rw [ML_succ hx]; unfold resL stepL; rw [if_pos he, if_pos he]
              rw [he, hres] at hP
              have hU := hide (⟨hrow, hC, hbel⟩ : _ ∧ _ ∧ _)
              clear hcw hres he hrow hC hbel hD hx
              generalize hN : ML P (i + 1) = N at *
              have hN := hide hN
              go_wp2_with (go_at_call 21; (with_reducible refine hP.mono ?_); rintro e v2 ⟨⟨uu, rfl, huu⟩, hbv⟩)
              have hbUv : Below U.heap.size U v2 := (Below.alloc (Below.refl _ _) (Nat.le_refl _) _).trans (hbv.mono (by simp))
              go_roundw
              case rel =>
                obtain ⟨hrow, hC, hbel⟩ := hU.out
                exact ⟨i + 1, by omega, by go_num, hrow.below hbUv lg, by rw [hN.out]; exact huu, hC.below hbUv, hbel.trans (hbUv.mono hqU)⟩
              case measure => simp [intOf]; omega
            · obtain rfl : i = n0 := by omega
              rw [hfin] at hD
              have hG1 : ∀ U : World, Chn U (.slice Au i cu) L → _ := fun U h => back_g U h (by omega)
              have hG2 : ∀ (s : Value) (U : World), Chn U s L → _ := fun s U h => back_g (s := s) U h (by omega)
              go_wp2_with (first | (go_at_call 18; (with_reducible refine (hG1 _ hC).mono ?_); rintro e v1 ⟨⟨x1, rfl, hx1⟩, hv1⟩; have hD1 := hD.below hv1) | (go_at_call 18; (with_reducible refine (hG2 _ _ hD1).mono ?_); rintro e v2 ⟨⟨x2, rfl, hx2⟩, hv2⟩; have hb02 := hv1.trans (hv2.mono hv1.size)) | (go_at_call 17; (with_reducible refine (same_g (L := L) v2 (hx1.below hv2) hx2 (by omega)).mono ?_); rintro e v3 ⟨rfl, hv3⟩; have hb03 := hb02.trans (hv3.mono hb02.size)))
              go_ret
              exact ⟨rfl, hbel.trans (hb03.mono hqU)⟩
      · obtain rfl : j = n' := by omega
        clear hr' hok'
        go_wp2
        go_loopw [13, 75] (fun s13 s75 U => ∃ i : Nat, i ≤ n0 ∧ s75 = .int .i64 (i : Int) ∧ Row6 U g n0 P ∧ Chn U s13 (ML P i) ∧ Chn U (.slice Au n0 cu) L ∧ Below q w U) (fun _ s75 _ => ((n0 : Int) - intOf s75).toNat)
        case atStart => exact ⟨0, by omega, rfl, hrow, Chn.nil _, hC, hbel⟩
        case round =>
          clear hrow hC hbel
          obtain ⟨i, hi0, rfl, hrow, hD, hC, hbel⟩ := hrel
          obtain ⟨U, rfl⟩ : ∃ U : World, U = wr := ⟨_, rfl⟩
          have lg := hrow.lt
          have hqU : q ≤ U.heap.size := by omega
          by_cases hin : i < n0
          · obtain ⟨x, hx⟩ : ∃ x, P[i]? = some x := ⟨P[i]'(by have := hrow.len; omega), List.getElem?_eq_getElem (by have := hrow.len; omega)⟩
            have hcw := hrow.cell
            simp only [Nat.zero_add] at hcw
            have k0 : U.cell? ⟨g, i * 6, none⟩ = some (.int .i64 x.a) := hcw _ _ (vsV_get hx 0 _ rfl)
            have k1 : U.cell? ⟨g, i * 6 + 1, none⟩ = some (.int .u32 x.b) := hcw _ _ (vsV_get hx 1 _ rfl)
            have k2 : U.cell? ⟨g, i * 6 + 2, none⟩ = some (.int .u32 x.c) := hcw _ _ (vsV_get hx 2 _ rfl)
            have k3 : U.cell? ⟨g, i * 6 + 3, none⟩ = some (.int .i64 x.kd) := hcw _ _ (vsV_get hx 3 _ rfl)
            have k4 : U.cell? ⟨g, i * 6 + 4, none⟩ = some (.int .i64 x.num) := hcw _ _ (vsV_get hx 4 _ rfl)
            have k5 : U.cell? ⟨g, i * 6 + 5, none⟩ = some (.string x.text) := hcw _ _ (vsV_get hx 5 _ rfl)
            have hii : (i : Int) < n0 := by omega
            have hml := ML_length P i
            have hP := put_g (L := ML P i) x _ (hD.alloc (.cells (#[.int .i64 x.a, .int .u32 x.b, .int .u32 x.c, .int .i64 x.kd, .int .i64 x.num, .string x.text]) 31)) (ML_good hPo i) (hPo x (List.mem_of_getElem? hx)) (by omega)
            have he := ML_err hPo hPr hPa hx
            have hres : resL (ML P i) x = ML P (i + 1) := by rw [ML_succ hx]; unfold resL stepL; rw [if_pos he, if_pos he]
            rw [he, hres] at hP
            have hU := hide (⟨hrow, hC, hbel⟩ : _ ∧ _ ∧ _)
            clear hcw hres he hrow hC hbel hD hx
            generalize hN : ML P (i + 1) = N at *
            have hN := hide hN
            go_wp2_with (go_at_call 21; (with_reducible refine hP.mono ?_); rintro e v2 ⟨⟨uu, rfl, huu⟩, hbv⟩)
            have hbUv : Below U.heap.size U v2 := (Below.alloc (Below.refl _ _) (Nat.le_refl _) _).trans (hbv.mono (by simp))
            go_roundw
            case rel =>
              obtain ⟨hrow, hC, hbel⟩ := hU.out
              exact ⟨i + 1, by omega, by go_num, hrow.below hbUv lg, by rw [hN.out]; exact huu, hC.below hbUv, hbel.trans (hbUv.mono hqU)⟩
            case measure => simp [intOf]; omega
          · obtain rfl : i = n0 := by omega
            rw [hfin] at hD
            have hG1 : ∀ U : World, Chn U (.slice Au i cu) L → _ := fun U h => back_g U h (by omega)
            have hG2 : ∀ (s : Value) (U : World), Chn U s L → _ := fun s U h => back_g (s := s) U h (by omega)
            go_wp2_with (first | (go_at_call 18; (with_reducible refine (hG1 _ hC).mono ?_); rintro e v1 ⟨⟨x1, rfl, hx1⟩, hv1⟩; have hD1 := hD.below hv1) | (go_at_call 18; (with_reducible refine (hG2 _ _ hD1).mono ?_); rintro e v2 ⟨⟨x2, rfl, hx2⟩, hv2⟩; have hb02 := hv1.trans (hv2.mono hv1.size)) | (go_at_call 17; (with_reducible refine (same_g (L := L) v2 (hx1.below hv2) hx2 (by omega)).mono ?_); rintro e v3 ⟨rfl, hv3⟩; have hb03 := hb02.trans (hv3.mono hb02.size)))
            go_ret
            exact ⟨rfl, hbel.trans (hb03.mono hqU)⟩
end Go.Proofs.Ytghinjnhcepaeaa
