import Derived.Test.YtmfbidhnafpkdaaLo
import Derived.Test.YtmfbidhnafpkdaaMk2
import Derived.Test.YtmfbidhnafpkdaaMrg
import Derived.WalkMore
/-! LabelSorts: the order of labels turns nothing of their set; a set's own set is itself; each label of it is found. Of any labels, and any order of turns. -/
namespace Go.Proofs.Ytmfbidhnafpkdaa
open Go.RowKit
set_option linter.unusedVariables false
set_option linter.unusedSimpArgs false
theorem make_any (v : Value) (l : List Par) (w : World) (h : Pz w v l) (hok : ∀ x ∈ l, x.ok) (hn : l.length * 32 ≤ 140737488355328) :
    Calls Try.prog 16 #[v] w fun e w' => (∃ Q u, Q.Perm l ∧ SrtS Q 0 l.length ∧ e = .returned (.tuple #[u, .int .i64 (mkE Q)]) ∧ Pz w' u (mkR Q)) ∧ Below w.heap.size w w' :=
  make_of v l w h hok hn (fun _ g c => mergeOk g l.length c (by omega))
theorem swp_perm {P : List Par} {i j : Nat} (hi : i < P.length) (hj : j < P.length) : (swp P i j).Perm P := by
  rw [swp_eq (List.getElem?_eq_getElem hi) (List.getElem?_eq_getElem hj)]
  exact List.set_set_perm hi hj
set_option maxRecDepth 100000 in
set_option maxHeartbeats 40000000 in
theorem law_sorts (AL : Option Addr) (cL : Nat) (l : List Par) (A' : Option Addr) (n' c' : Nat) (ks : List Int) (w : World) (ha : Pz w (.slice AL l.length cL) l) (hok : ∀ x ∈ l, x.ok) (hnn : l.length * 32 ≤ 140737488355328)
    (hr' : Reads w w.heap.size 1 A' n' (ints ks)) (hn' : n' ≤ 9223372036854775807) (hok' : ∀ x ∈ ks, -9223372036854775808 ≤ x ∧ x ≤ 9223372036854775807) :
    Calls Try.prog 7 #[.slice AL l.length cL, .slice A' n' c'] w fun e w' => e = .returned (.bool true) ∧ Below w.heap.size w w' := by
  have hl' := reads_len hr'
  have ht1 := lto_any _ l w ha hnn
  go_enter Try.func7, Try.ntmps7
  go_wp2_with (first
    | (go_at_call 15; (with_reducible refine ht1.mono ?_); rintro e w1 ⟨⟨u1, rfl, ho1⟩, hb1⟩; have hx1 := Pz.own ho1; obtain ⟨B1, d1, rfl⟩ := hx1.shape; have hm1 := make_any _ l w1 hx1 hok hnn)
    | (go_at_call 16; (with_reducible refine hm1.mono ?_); rintro e w2 ⟨⟨Q, xv, hpQ, hsQ, rfl, hX⟩, hb2⟩; have hb02 := hb1.trans (hb2.mono hb1.size); have ht2 := lto_any _ l w2 (ha.below hb02) hnn; obtain ⟨AX, cX, rfl⟩ := hX.shape)
    | (go_at_call 15; (with_reducible refine ht2.mono ?_); rintro e w3 ⟨⟨u3, rfl, ho3⟩, hb3⟩; obtain ⟨q2, hq2⟩ : ∃ q2, w2.heap.size = q2 := ⟨_, rfl⟩; rw [hq2] at ho3 hb3; have hz3 := Pz.own ho3; obtain ⟨A3, c3, rfl⟩ := hz3.shape))
  have hmv : ∃ g, q2 ≤ g ∧ c3 ≤ maxLen ∧ l.length ≤ c3 ∧ (0 < l.length → A3 = some ⟨g, 0, none⟩ ∧ Row2 w3 g l.length l) := by
    rcases Row2.own ho3 with ⟨e, h0, h00⟩ | ⟨g, c, e, hge, hnc, hm, hrow⟩
    · injection e with e1 e2 e3
      exact ⟨q2, Nat.le_refl _, by rw [e3]; unfold maxLen; omega, by omega, fun h => by omega⟩
    · injection e with e1 e2 e3
      subst e1 e3
      exact ⟨g, hge, hm, hnc, fun _ => ⟨rfl, hrow⟩⟩
  obtain ⟨g, hge, hm3, hc3, hrow3⟩ := hmv
  clear ho3 hx1 ht1 ht2 hm1
  go_loopw [28] (fun s28 U => ∃ (j : Nat) (P : List Par), j ≤ n' ∧ s28 = .int .i64 (j : Int) ∧ P.length = l.length ∧ P.Perm l ∧ Pz U (.slice A3 l.length c3) P ∧ (0 < l.length → A3 = some ⟨g, 0, none⟩ ∧ Row2 U g l.length P) ∧ Below q2 w2 U) (fun s28 _ => ((n' : Int) - intOf s28).toNat)
  case atStart => exact ⟨0, l, by omega, rfl, rfl, List.Perm.refl _, hz3, hrow3, hb3⟩
  case round =>
    clear hz3 hrow3
    obtain ⟨j, P, hj, rfl, hplen, hperm, hPz, hrow, hbU⟩ := hrel
    obtain ⟨U, rfl⟩ : ∃ U : World, U = wr := ⟨_, rfl⟩
    have hokP : ∀ x ∈ P, x.ok := fun x hx => hok x (hperm.mem_iff.1 hx)
    by_cases hgo : j < n' ∧ j < 50 ∧ 0 < l.length
    · obtain ⟨hlt, h50, hn0p⟩ := hgo
      obtain ⟨hA3, hR2⟩ := hrow hn0p
      subst hA3
      obtain ⟨b, o, rfl, hbb, hc⟩ := hr'.plain (by omega) (by omega)
      have hg' : ks[j]? = some ks[j] := List.getElem?_eq_getElem (by omega)
      have mk : U.cell? ⟨b, o + j, none⟩ = some (.int .i64 ks[j]) := ((hb02.trans ((hq2 ▸ hbU : Below w2.heap.size w2 U).mono hb02.size)).cell (p := ⟨b, _, none⟩) hbb).trans (hc _ _ (ints_get hg'))
      have hkI := hok' _ (List.getElem_mem (show j < ks.length by omega))
      generalize ks[j] = kv at *
      have lg := hR2.lt
      generalize hn0 : l.length = n0 at *
      have hji : (j : Int) < n' := by omega
      have h50' : (j : Int) < 50 := by omega
      have hn0b : ((n0 : Int) == 0) = false := by simp; omega
      have hn0' : ¬ ((n0 : Int) = 0) := by omega
      have hn0n : ¬ (n0 = 0) := by omega
      have h50b : decide ((50 : Int) ≤ (j : Int)) = false := decide_eq_false (by omega)
      have hwn : IntKind.u64.wrap (n0 : Int) = (n0 : Int) := by rw [IntKind.wrap_u64]; omega
      obtain ⟨kn, hkn⟩ : ∃ kn : Nat, IntKind.u64.wrap kv = (kn : Int) := ⟨(IntKind.u64.wrap kv).toNat, by rw [IntKind.wrap_u64]; omega⟩
      have hbt : (kn : Int).tmod (n0 : Int) = ((kn % n0 : Nat) : Int) := (Int.ofNat_tmod kn n0).symm
      have hat : (j : Int).tmod (n0 : Int) = ((j % n0 : Nat) : Int) := (Int.ofNat_tmod j n0).symm
      have hbn : kn % n0 < n0 := Nat.mod_lt _ hn0p
      have han : j % n0 < n0 := Nat.mod_lt _ hn0p
      have HQ := hide (⟨hpQ, hsQ, hX, hb02, ha, hokP, hr', hperm, hPz, hb1⟩ : _ ∧ _ ∧ _ ∧ _ ∧ _ ∧ _ ∧ _ ∧ _ ∧ _ ∧ _)
      clear hc hg' hpQ hsQ hX hb02 ha hokP hr' hperm hPz hb1
      go_wp2
      refine First.wp_region_first_ext [5, 8, 10] [0, 1, 2, 3, 4, 6, 7, 9] [(true, false, 0), (true, false, 1), (true, false, 2), (true, false, 3), (true, false, 4), (true, true, 5), (true, false, 6), (true, false, 7), (true, true, 8), (true, false, 9), (true, true, 10), (false, true, 11), (false, false, 12)] (by kernel_rfl) (by kernel_rfl) (fun Y => ?_); simp only [List.map_cons, List.map_nil, List.getD_cons_zero, List.getD_cons_succ]
      (repeat (first | (refine First.wpF_pure (fun K hK => ?_); go_simp; first | (refine hK _ _ ?_; clear hK K) | (apply Exists.intro; refine ⟨fun _ => ?_, hK _ _ ?_⟩; fail)) | (refine First.wpF_free (fun K hK => ?_); go_simp; first | (refine hK _ _ ?_; clear hK K))))
      (repeat (refine First.wpF_must (fun K hK => ?_); go_wp2; (refine hK _ _ (fun hnd => by first | exact Bool.noConfusion hnd | assumption | with_reducible exact grown_alloc _ _ | with_reducible exact First.Grown.refl _ | with_reducible exact First.Grown.cat _ _ _ | with_reducible exact First.Grown.ext _ _) ?_; clear hK K)))
      refine First.wpF_nil ?_
      go_wp2
      have ea : (j : Int) % (n0 : Int) = ((j % n0 : Nat) : Int) := by first | exact (Int.natCast_emod _ _).symm | exact (Int.natCast_mod _ _).symm | simp
      have eb : IntKind.i64.wrap ((kn : Int) % (n0 : Int)) = ((kn % n0 : Nat) : Int) := by
        rw [show (kn : Int) % (n0 : Int) = ((kn % n0 : Nat) : Int) by first | exact (Int.natCast_emod _ _).symm | exact (Int.natCast_mod _ _).symm | simp, IntKind.wrap_i64]
        omega
      simp only [ea, eb]
      generalize kn % n0 = bb at *
      generalize j % n0 = aa at *
      clear ea eb hat hbt hkn hwn mk
      have hq2U : q2 ≤ U.heap.size := by omega
      refine abstr (fun W => Below q2 w2 W ∧ Row2 W g n0 P) ⟨hbU.trans ((World.below_ext _ _).mono hq2U), hR2.below (World.below_ext _ _) hR2.lt⟩ (fun W hW => ?_)
      clear hbU hR2 hrow
      obtain ⟨hbU, hR2⟩ := hW
      obtain ⟨x, hx⟩ : ∃ x, P[aa]? = some x := ⟨P[aa]'(by omega), List.getElem?_eq_getElem (by omega)⟩
      obtain ⟨y, hy⟩ : ∃ y, P[bb]? = some y := ⟨P[bb]'(by omega), List.getElem?_eq_getElem (by omega)⟩
      obtain ⟨k0, k1⟩ := hR2.at_ hx
      obtain ⟨m0, m1⟩ := hR2.at_ hy
      have lg := hR2.lt
      have hai : (aa : Int) < n0 := by omega
      have hbi : (bb : Int) < n0 := by omega
      refine First.wp_region_first_ext [7, 11] [0, 1, 2, 3, 4, 5, 6, 8, 9, 10, 12, 14] [(true, false, 0), (true, false, 1), (true, false, 2), (true, false, 3), (true, false, 4), (true, false, 5), (true, false, 6), (true, true, 7), (true, false, 8), (true, false, 9), (true, false, 10), (true, true, 11), (true, false, 12), (false, false, 13), (true, false, 14), (false, false, 15)] (by kernel_rfl) (by kernel_rfl) (fun Z => ?_); simp only [List.map_cons, List.map_nil, List.getD_cons_zero, List.getD_cons_succ]
      (repeat (first | (refine First.wpF_pure (fun K hK => ?_); go_simp; first | (refine hK _ _ ?_; clear hK K) | (apply Exists.intro; refine ⟨fun _ => ?_, hK _ _ ?_⟩; fail)) | (refine First.wpF_free (fun K hK => ?_); go_simp; first | (refine hK _ _ ?_; clear hK K))))
      have hrZ : Row2 (W.ext Z) g n0 P := hR2.below (World.below_ext _ _) lg
      have hbZ := hbU.trans ((World.below_ext W Z).mono (by omega))
      have hsw := hrZ.swap hx hy
      have HK := hide (⟨hrZ, hbZ, hsw⟩ : _ ∧ _ ∧ _)
      clear hrZ hbZ hR2 hbU k0 k1 m0 m1 lg hsw
      generalize W.ext Z = W0 at *
      refine First.wpF_must (fun K hK => ?_)
      obtain ⟨hrZ, hbZ, hsw⟩ := HK.out
      refine wpList_storeP rfl (.tmp 63) (.tmp 58) rfl g (aa * 2) y rfl rfl (fun j hj => hrZ.some (by omega)) (fun j hj => hrZ.frozen _) ?_
      have hr1 := hrZ.set han y
      have hb1 : Below q2 w2 (W0.setCells g (aa * 2) y.cells) := hbZ.trans ((only_setCells y.cells (aa * 2) W0).below (by omega) (by have := hrZ.lt; omega))
      clear HK hrZ hbZ
      generalize W0.setCells g (aa * 2) y.cells = W1 at *
      refine hK _ _ (fun hnd => Bool.noConfusion hnd) ?_
      clear hK K
      have HK := hide (⟨hr1, hb1, hsw⟩ : _ ∧ _ ∧ _)
      clear hr1 hb1 hsw
      (repeat (first | (refine First.wpF_pure (fun K hK => ?_); go_simp; first | (refine hK _ _ ?_; clear hK K) | (apply Exists.intro; refine ⟨fun _ => ?_, hK _ _ ?_⟩; fail)) | (refine First.wpF_free (fun K hK => ?_); go_simp; first | (refine hK _ _ ?_; clear hK K))))
      refine First.wpF_must (fun K hK => ?_)
      obtain ⟨hr1, hb1, hsw⟩ := HK.out
      refine wpList_storeP rfl (.tmp 64) (.tmp 62) rfl g (bb * 2) x rfl rfl (fun j hj => hr1.some (by omega)) (fun j hj => hr1.frozen _) ?_
      have hb2' : Below q2 w2 (W1.setCells g (bb * 2) x.cells) := hb1.trans ((only_setCells x.cells (bb * 2) W1).below (by omega) (by have := hr1.lt; omega))
      clear HK hr1 hb1
      generalize W1.setCells g (bb * 2) x.cells = W2 at *
      refine hK _ _ (fun hnd => Bool.noConfusion hnd) ?_
      clear hK K
      refine First.wpF_nil ?_
      have hpp := swp_perm (P := P) (i := aa) (j := bb) (by omega) (by omega)
      obtain ⟨hpQ, hsQ, hX, hb02, ha, hokP, hr', hperm, hPz, hb1⟩ := HQ.out
      have HH := hide (⟨hsw, hb2', hpp.trans hperm⟩ : _ ∧ _ ∧ _)
      clear hsw hb2' hpp hpQ hsQ hX hb02 ha hokP hr' hperm hPz hb1
      go_wp2
      go_roundw
      case rel =>
        obtain ⟨h1, h2, h3⟩ := HH.out
        exact ⟨j + 1, swp P aa bb, by omega, by go_num, by rw [swp_len]; omega, h3, h1.pz hc3 hm3, fun _ => ⟨by trivial, h1⟩, h2⟩
      case measure => simp [intOf]; omega
    · clear hrow
      by_cases hjn : j < n'
      · obtain ⟨b, o, rfl, hbb, hc⟩ := hr'.plain (by omega) (by omega)
        have hg' : ks[j]? = some ks[j] := List.getElem?_eq_getElem (by omega)
        have mk : U.cell? ⟨b, o + j, none⟩ = some (.int .i64 ks[j]) := ((hb02.trans ((hq2 ▸ hbU : Below w2.heap.size w2 U).mono hb02.size)).cell (p := ⟨b, _, none⟩) hbb).trans (hc _ _ (ints_get hg'))
        generalize ks[j] = kv at *
        have hji : (j : Int) < n' := by omega
        clear hc hr' hok' hg'
        by_cases h50 : j < 50
        · have h50b : decide ((50 : Int) ≤ (j : Int)) = false := decide_eq_false (by omega)
          have hl0 : l.length = 0 := by omega
          have hn0b : ((l.length : Int) == 0) = true := by rw [hl0]; rfl
          clear hl0 hgo
          have hP2 := make_any _ P U hPz hokP (by rw [hplen]; exact hnn)
          have hUs : q2 ≤ U.heap.size := by rw [← hq2]; exact (hq2 ▸ hbU : Below w2.heap.size w2 U).size
          have hXU : Pz U (.slice AX (mkR Q).length cX) (mkR Q) := hX.below (hq2 ▸ hbU)
          by_cases hE : mkE Q = 0
          · have hXQ := mkR_zero hE
            have hd := (mkE_zero.1 hE).1
            have hrt := (mkE_zero.1 hE).2
            have hQl := hpQ.length_eq
            rw [hXQ] at hXU hX
            rw [hXQ, hE]
            have hrise := dup_no (hQl ▸ hsQ) hd
            have hvaU := (ha.below hb02).below (hq2 ▸ hbU)
            have hG := fun (p : Par) (hp : p ∈ l) => getL_mem hrise.dist (hpQ.mem_iff.2 hp)
            have hHH := hide (⟨hpQ, hsQ, hE, hXQ, hd, hrt, hQl, hrise, hG, hperm, hb02, hbU⟩ : _ ∧ _ ∧ _ ∧ _ ∧ _ ∧ _ ∧ _ ∧ _ ∧ _ ∧ _ ∧ _ ∧ _)
            have hXU := hide hXU
            have hvaU := hide hvaU
            have hn0 := hide hplen
            clear hpQ hsQ hE hXQ hd hrt hQl hrise hG hperm hb02 hbU hX hPz hokP hplen
            go_wp2_with (first
              | (go_at_call 16; (with_reducible refine hP2.mono ?_); rintro e v1 ⟨⟨R, yv, hpR, hsR, rfl, hY⟩, hv1⟩; obtain ⟨hpQ, hsQ, hE, hXQ, hd, hrt, hQl, hrise, hG, hperm, hb02, hbU⟩ := hHH.out; obtain ⟨hE2, hX2⟩ := mk_same (hpQ.trans (hpR.trans hperm).symm) (hQl ▸ hsQ) (by rw [hpR.length_eq]; exact hsR); rw [← hE2, hE]; rw [← hX2, hXQ] at hY; obtain ⟨AY, cY, rfl⟩ := hY.shape; clear hpQ hsQ hE hXQ hd hrt hQl hrise hG hperm hb02 hbU hE2 hX2)
              | (go_at_call 10; (with_reducible refine (lawake_any _).mono ?_); rintro e v2 ⟨rfl, hv2⟩; have hU2 := hv1.trans (hv2.mono hv1.size); have hX2 := hXU.out.below hU2; have hc1 := pcompare_any _ _ Q Q v2 hX2 (hY.below hv2); rw [cmpL_cmp.refl] at hc1)
              | (go_at_call 28; (with_reducible refine hc1.mono ?_); rintro e v3 ⟨rfl, hv3⟩; have hU3 := hU2.trans (hv3.mono hU2.size); have hX3 := hX2.below hv3; have hm3 := make_any _ Q v3 hX3 (fun x hx => hok x (hHH.out.1.mem_iff.1 hx)) (by rw [hHH.out.2.2.2.2.2.2.1]; exact hnn))
              | (go_at_call 16; (with_reducible refine hm3.mono ?_); rintro e v4 ⟨⟨R2, zv, hpR2, hsR2, rfl, hZ⟩, hv4⟩; obtain ⟨hpQ, hsQ, hE, hXQ, hd, hrt, hQl, hrise, hG, hperm, hb02, hbU⟩ := hHH.out; obtain ⟨hE2, hX2'⟩ := mk_same hpR2 (by rw [hpR2.length_eq]; exact hsR2) (hQl ▸ hsQ); rw [hE2, hE]; rw [hX2', hXQ] at hZ; obtain ⟨AZ, cZ, rfl⟩ := hZ.shape; clear hpQ hsQ hE hXQ hd hrt hQl hrise hG hperm hb02 hbU hE2 hX2' hpR2 hsR2; have hU4 := hU3.trans (hv4.mono hU3.size)))
            have hX4 := hX3.below hv4
            have hva4 := hvaU.out.below hU4
            clear hX2 hX3 hc1 hm3 hv1 hv2 hv3 hv4 hU2 hU3 hY hpR hsR hXU hvaU hP2
            go_loopw [93] (fun s93 V => ∃ i : Nat, i ≤ l.length ∧ s93 = .int .i64 (i : Int) ∧ Pz V (.slice AX Q.length cX) Q ∧ Pz V (.slice AZ Q.length cZ) Q ∧ Pz V (.slice AL l.length cL) l ∧ Below U.heap.size U V) (fun s93 _ => ((l.length : Int) - intOf s93).toNat)
            case atStart => exact ⟨0, by omega, rfl, hX4, hZ, hva4, hU4⟩
            case round =>
              clear hX4 hZ hva4 hU4
              obtain ⟨i, hi, rfl, hX5, hZ5, hL5, hU5⟩ := hrel
              have hVs := hU5.size
              have hXl := hX5.n.2
              by_cases hlt : i < l.length
              · obtain ⟨x, hx⟩ : ∃ x, l[i]? = some x := ⟨_, List.getElem?_eq_getElem hlt⟩
                obtain ⟨bb, oo, rfl, hbb, m0, m1⟩ := hL5.at_ hx
                have hii : (i : Int) < l.length := by omega
                have hgx := hHH.out.2.2.2.2.2.2.2.2.1 x (List.mem_of_getElem? hx)
                rename_i V _ _
                have hGc := fun X => pget_any _ Q x.a _ ((hX5.alloc (.cells #[.string x.a, .string x.b] 50)).ext X)
                rw [hgx] at hGc
                have hkk := hide (⟨hX5, hZ5, hL5⟩ : _ ∧ _ ∧ _)
                clear hX5 hZ5 hL5 hgx hx
                go_wp2
                refine wp_region_ext_lit (by kernel_rfl) (by kernel_rfl) ?_
                (repeat (first | ((with_reducible refine wpQuiet_step (fun K hK => ?_)); go_simp; first | ((with_reducible refine hK _ ?_); clear hK K) | (apply Exists.intro; (with_reducible refine ⟨fun _ => ?_, hK _ ?_⟩); (go_at_call 22; exact Calls.ext_of (hGc _)); clear hK K)) | ((with_reducible refine quiet_skipN ?_ (fun K hK => ?_)); (rfl); go_simp; (with_reducible refine hK _ ?_); clear hK K)))
                (with_reducible refine wpQuiet_nil ?_); intro _ hw'; obtain ⟨X, hw''⟩ := hw'; subst hw''
                go_wp2
                go_roundw
                case rel =>
                  obtain ⟨hX5, hZ5, hL5⟩ := hkk.out
                  exact ⟨i + 1, by omega, by go_num, hX5.below (by (repeat' (first | with_reducible exact Below.refl _ _ | with_reducible refine Below.ext ?_ ?_ _ | with_reducible refine Below.alloc ?_ ?_ _ | with_reducible refine Below.setCell ?_ ?_ _ | with_reducible refine Below.drew ?_ | with_reducible assumption | (simp [World.size_ext]; done) | (simp [World.size_ext]; omega)))), hZ5.below (by (repeat' (first | with_reducible exact Below.refl _ _ | with_reducible refine Below.ext ?_ ?_ _ | with_reducible refine Below.alloc ?_ ?_ _ | with_reducible refine Below.setCell ?_ ?_ _ | with_reducible refine Below.drew ?_ | with_reducible assumption | (simp [World.size_ext]; done) | (simp [World.size_ext]; omega)))), hL5.below (by (repeat' (first | with_reducible exact Below.refl _ _ | with_reducible refine Below.ext ?_ ?_ _ | with_reducible refine Below.alloc ?_ ?_ _ | with_reducible refine Below.setCell ?_ ?_ _ | with_reducible refine Below.drew ?_ | with_reducible assumption | (simp [World.size_ext]; done) | (simp [World.size_ext]; omega)))), hU5.trans ((by (repeat' (first | with_reducible exact Below.refl _ _ | with_reducible refine Below.ext ?_ ?_ _ | with_reducible refine Below.alloc ?_ ?_ _ | with_reducible refine Below.setCell ?_ ?_ _ | with_reducible refine Below.drew ?_ | with_reducible assumption | (simp [World.size_ext]; done) | (simp [World.size_ext]; omega))) : Below _ _ _).mono hVs)⟩
                case measure => simp [intOf]; omega
              · obtain rfl : i = l.length := by omega
                have hc5 := pcompare_any _ _ Q Q _ hX5 hZ5
                rw [cmpL_cmp.refl] at hc5
                have hR5 := fun (V : World) (hV : Pz V (.slice AX Q.length cX) Q) => pright_any _ Q V hV (fun x hx => hok x (hHH.out.1.mem_iff.1 hx))
                rw [hHH.out.2.2.2.2.2.1] at hR5
                have hlen : ((Q.length : Int) == (l.length : Int)) = true := by rw [hHH.out.2.2.2.2.2.2.1]; simp
                go_wp2_with (first
                  | (go_at_call 28; (with_reducible refine hc5.mono ?_); rintro e v6 ⟨rfl, hv6⟩; have hX6 := hX5.below hv6)
                  | (go_at_call 20; (with_reducible refine (hR5 _ hX6).mono ?_); rintro e v7 ⟨rfl, hv7⟩))
                go_ret
                obtain ⟨hpQ, hsQ, hE, hXQ, hd, hrt, hQl, hrise, hG, hperm, hb02, hbU⟩ := hHH.out
                have hUV := hU5.trans ((hv6.trans (hv7.mono hv6.size)).mono hVs)
                exact ⟨rfl, hb02.trans ((hbU.trans (hUV.mono hUs)).mono (by rw [← hq2]; exact hb02.size))⟩
          · have hHH := hide (⟨hpQ, hsQ, hperm, hb02, hbU⟩ : _ ∧ _ ∧ _ ∧ _ ∧ _)
            have hXU := hide hXU
            have hEb : ((mkE Q) != 0) = true := by simp [hE]
            have hEb' : ((mkE Q) == 0) = false := by simp [hE]
            have hQl := hpQ.length_eq
            have hEE := hide (⟨hQl, hE⟩ : _ ∧ _)
            generalize hEq : mkE Q = E at *
            generalize hXq : mkR Q = XX at *
            have hEq := hide hEq
            have hXq := hide hXq
            clear hpQ hsQ hE hperm hb02 hbU hX hPz hokP hplen hQl
            go_wp2_with (first
              | (go_at_call 16; (with_reducible refine hP2.mono ?_); rintro e v1 ⟨⟨R, yv, hpR, hsR, rfl, hY⟩, hv1⟩; obtain ⟨hpQ, hsQ, hperm, hb02, hbU⟩ := hHH.out; obtain ⟨hE2, hX2⟩ := mk_same (hpQ.trans (hpR.trans hperm).symm) (hEE.out.1 ▸ hsQ) (by rw [hpR.length_eq]; exact hsR); rw [← hE2, hEq.out]; rw [← hX2, hXq.out] at hY; obtain ⟨AY, cY, rfl⟩ := hY.shape; clear hpQ hsQ hperm hb02 hbU hE2 hX2)
              | (go_at_call 10; (with_reducible refine (lawake_any _).mono ?_); rintro e v2 ⟨rfl, hv2⟩; have hU2 := hv1.trans (hv2.mono hv1.size); have hX2 := hXU.out.below hU2; have hc1 := pcompare_any _ _ XX XX v2 hX2 (hY.below hv2); rw [cmpL_cmp.refl] at hc1)
              | (go_at_call 28; (with_reducible refine hc1.mono ?_); rintro e v3 ⟨rfl, hv3⟩; have hU3 := hU2.trans (hv3.mono hU2.size)))
            go_ret
            obtain ⟨hpQ, hsQ, hperm, hb02, hbU⟩ := hHH.out
            exact ⟨rfl, hb02.trans ((hbU.trans (hU3.mono hUs)).mono (by rw [← hq2]; exact hb02.size))⟩
        · have h50b : decide ((50 : Int) ≤ (j : Int)) = true := decide_eq_true (by omega)
          have hP2 := make_any _ P U hPz hokP (by rw [hplen]; exact hnn)
          have hUs : q2 ≤ U.heap.size := by rw [← hq2]; exact (hq2 ▸ hbU : Below w2.heap.size w2 U).size
          have hXU : Pz U (.slice AX (mkR Q).length cX) (mkR Q) := hX.below (hq2 ▸ hbU)
          by_cases hE : mkE Q = 0
          · have hXQ := mkR_zero hE
            have hd := (mkE_zero.1 hE).1
            have hrt := (mkE_zero.1 hE).2
            have hQl := hpQ.length_eq
            rw [hXQ] at hXU hX
            rw [hXQ, hE]
            have hrise := dup_no (hQl ▸ hsQ) hd
            have hvaU := (ha.below hb02).below (hq2 ▸ hbU)
            have hG := fun (p : Par) (hp : p ∈ l) => getL_mem hrise.dist (hpQ.mem_iff.2 hp)
            have hHH := hide (⟨hpQ, hsQ, hE, hXQ, hd, hrt, hQl, hrise, hG, hperm, hb02, hbU⟩ : _ ∧ _ ∧ _ ∧ _ ∧ _ ∧ _ ∧ _ ∧ _ ∧ _ ∧ _ ∧ _ ∧ _)
            have hXU := hide hXU
            have hvaU := hide hvaU
            have hn0 := hide hplen
            clear hpQ hsQ hE hXQ hd hrt hQl hrise hG hperm hb02 hbU hX hPz hokP hplen
            go_wp2_with (first
              | (go_at_call 16; (with_reducible refine hP2.mono ?_); rintro e v1 ⟨⟨R, yv, hpR, hsR, rfl, hY⟩, hv1⟩; obtain ⟨hpQ, hsQ, hE, hXQ, hd, hrt, hQl, hrise, hG, hperm, hb02, hbU⟩ := hHH.out; obtain ⟨hE2, hX2⟩ := mk_same (hpQ.trans (hpR.trans hperm).symm) (hQl ▸ hsQ) (by rw [hpR.length_eq]; exact hsR); rw [← hE2, hE]; rw [← hX2, hXQ] at hY; obtain ⟨AY, cY, rfl⟩ := hY.shape; clear hpQ hsQ hE hXQ hd hrt hQl hrise hG hperm hb02 hbU hE2 hX2)
              | (go_at_call 10; (with_reducible refine (lawake_any _).mono ?_); rintro e v2 ⟨rfl, hv2⟩; have hU2 := hv1.trans (hv2.mono hv1.size); have hX2 := hXU.out.below hU2; have hc1 := pcompare_any _ _ Q Q v2 hX2 (hY.below hv2); rw [cmpL_cmp.refl] at hc1)
              | (go_at_call 28; (with_reducible refine hc1.mono ?_); rintro e v3 ⟨rfl, hv3⟩; have hU3 := hU2.trans (hv3.mono hU2.size); have hX3 := hX2.below hv3; have hm3 := make_any _ Q v3 hX3 (fun x hx => hok x (hHH.out.1.mem_iff.1 hx)) (by rw [hHH.out.2.2.2.2.2.2.1]; exact hnn))
              | (go_at_call 16; (with_reducible refine hm3.mono ?_); rintro e v4 ⟨⟨R2, zv, hpR2, hsR2, rfl, hZ⟩, hv4⟩; obtain ⟨hpQ, hsQ, hE, hXQ, hd, hrt, hQl, hrise, hG, hperm, hb02, hbU⟩ := hHH.out; obtain ⟨hE2, hX2'⟩ := mk_same hpR2 (by rw [hpR2.length_eq]; exact hsR2) (hQl ▸ hsQ); rw [hE2, hE]; rw [hX2', hXQ] at hZ; obtain ⟨AZ, cZ, rfl⟩ := hZ.shape; clear hpQ hsQ hE hXQ hd hrt hQl hrise hG hperm hb02 hbU hE2 hX2' hpR2 hsR2; have hU4 := hU3.trans (hv4.mono hU3.size)))
            have hX4 := hX3.below hv4
            have hva4 := hvaU.out.below hU4
            clear hX2 hX3 hc1 hm3 hv1 hv2 hv3 hv4 hU2 hU3 hY hpR hsR hXU hvaU hP2
            go_loopw [93] (fun s93 V => ∃ i : Nat, i ≤ l.length ∧ s93 = .int .i64 (i : Int) ∧ Pz V (.slice AX Q.length cX) Q ∧ Pz V (.slice AZ Q.length cZ) Q ∧ Pz V (.slice AL l.length cL) l ∧ Below U.heap.size U V) (fun s93 _ => ((l.length : Int) - intOf s93).toNat)
            case atStart => exact ⟨0, by omega, rfl, hX4, hZ, hva4, hU4⟩
            case round =>
              clear hX4 hZ hva4 hU4
              obtain ⟨i, hi, rfl, hX5, hZ5, hL5, hU5⟩ := hrel
              have hVs := hU5.size
              have hXl := hX5.n.2
              by_cases hlt : i < l.length
              · obtain ⟨x, hx⟩ : ∃ x, l[i]? = some x := ⟨_, List.getElem?_eq_getElem hlt⟩
                obtain ⟨bb, oo, rfl, hbb, m0, m1⟩ := hL5.at_ hx
                have hii : (i : Int) < l.length := by omega
                have hgx := hHH.out.2.2.2.2.2.2.2.2.1 x (List.mem_of_getElem? hx)
                rename_i V _ _
                have hGc := fun X => pget_any _ Q x.a _ ((hX5.alloc (.cells #[.string x.a, .string x.b] 50)).ext X)
                rw [hgx] at hGc
                have hkk := hide (⟨hX5, hZ5, hL5⟩ : _ ∧ _ ∧ _)
                clear hX5 hZ5 hL5 hgx hx
                go_wp2
                refine wp_region_ext_lit (by kernel_rfl) (by kernel_rfl) ?_
                (repeat (first | ((with_reducible refine wpQuiet_step (fun K hK => ?_)); go_simp; first | ((with_reducible refine hK _ ?_); clear hK K) | (apply Exists.intro; (with_reducible refine ⟨fun _ => ?_, hK _ ?_⟩); (go_at_call 22; exact Calls.ext_of (hGc _)); clear hK K)) | ((with_reducible refine quiet_skipN ?_ (fun K hK => ?_)); (rfl); go_simp; (with_reducible refine hK _ ?_); clear hK K)))
                (with_reducible refine wpQuiet_nil ?_); intro _ hw'; obtain ⟨X, hw''⟩ := hw'; subst hw''
                go_wp2
                go_roundw
                case rel =>
                  obtain ⟨hX5, hZ5, hL5⟩ := hkk.out
                  exact ⟨i + 1, by omega, by go_num, hX5.below (by (repeat' (first | with_reducible exact Below.refl _ _ | with_reducible refine Below.ext ?_ ?_ _ | with_reducible refine Below.alloc ?_ ?_ _ | with_reducible refine Below.setCell ?_ ?_ _ | with_reducible refine Below.drew ?_ | with_reducible assumption | (simp [World.size_ext]; done) | (simp [World.size_ext]; omega)))), hZ5.below (by (repeat' (first | with_reducible exact Below.refl _ _ | with_reducible refine Below.ext ?_ ?_ _ | with_reducible refine Below.alloc ?_ ?_ _ | with_reducible refine Below.setCell ?_ ?_ _ | with_reducible refine Below.drew ?_ | with_reducible assumption | (simp [World.size_ext]; done) | (simp [World.size_ext]; omega)))), hL5.below (by (repeat' (first | with_reducible exact Below.refl _ _ | with_reducible refine Below.ext ?_ ?_ _ | with_reducible refine Below.alloc ?_ ?_ _ | with_reducible refine Below.setCell ?_ ?_ _ | with_reducible refine Below.drew ?_ | with_reducible assumption | (simp [World.size_ext]; done) | (simp [World.size_ext]; omega)))), hU5.trans ((by (repeat' (first | with_reducible exact Below.refl _ _ | with_reducible refine Below.ext ?_ ?_ _ | with_reducible refine Below.alloc ?_ ?_ _ | with_reducible refine Below.setCell ?_ ?_ _ | with_reducible refine Below.drew ?_ | with_reducible assumption | (simp [World.size_ext]; done) | (simp [World.size_ext]; omega))) : Below _ _ _).mono hVs)⟩
                case measure => simp [intOf]; omega
              · obtain rfl : i = l.length := by omega
                have hc5 := pcompare_any _ _ Q Q _ hX5 hZ5
                rw [cmpL_cmp.refl] at hc5
                have hR5 := fun (V : World) (hV : Pz V (.slice AX Q.length cX) Q) => pright_any _ Q V hV (fun x hx => hok x (hHH.out.1.mem_iff.1 hx))
                rw [hHH.out.2.2.2.2.2.1] at hR5
                have hlen : ((Q.length : Int) == (l.length : Int)) = true := by rw [hHH.out.2.2.2.2.2.2.1]; simp
                go_wp2_with (first
                  | (go_at_call 28; (with_reducible refine hc5.mono ?_); rintro e v6 ⟨rfl, hv6⟩; have hX6 := hX5.below hv6)
                  | (go_at_call 20; (with_reducible refine (hR5 _ hX6).mono ?_); rintro e v7 ⟨rfl, hv7⟩))
                go_ret
                obtain ⟨hpQ, hsQ, hE, hXQ, hd, hrt, hQl, hrise, hG, hperm, hb02, hbU⟩ := hHH.out
                have hUV := hU5.trans ((hv6.trans (hv7.mono hv6.size)).mono hVs)
                exact ⟨rfl, hb02.trans ((hbU.trans (hUV.mono hUs)).mono (by rw [← hq2]; exact hb02.size))⟩
          · have hHH := hide (⟨hpQ, hsQ, hperm, hb02, hbU⟩ : _ ∧ _ ∧ _ ∧ _ ∧ _)
            have hXU := hide hXU
            have hEb : ((mkE Q) != 0) = true := by simp [hE]
            have hEb' : ((mkE Q) == 0) = false := by simp [hE]
            have hQl := hpQ.length_eq
            have hEE := hide (⟨hQl, hE⟩ : _ ∧ _)
            generalize hEq : mkE Q = E at *
            generalize hXq : mkR Q = XX at *
            have hEq := hide hEq
            have hXq := hide hXq
            clear hpQ hsQ hE hperm hb02 hbU hX hPz hokP hplen hQl
            go_wp2_with (first
              | (go_at_call 16; (with_reducible refine hP2.mono ?_); rintro e v1 ⟨⟨R, yv, hpR, hsR, rfl, hY⟩, hv1⟩; obtain ⟨hpQ, hsQ, hperm, hb02, hbU⟩ := hHH.out; obtain ⟨hE2, hX2⟩ := mk_same (hpQ.trans (hpR.trans hperm).symm) (hEE.out.1 ▸ hsQ) (by rw [hpR.length_eq]; exact hsR); rw [← hE2, hEq.out]; rw [← hX2, hXq.out] at hY; obtain ⟨AY, cY, rfl⟩ := hY.shape; clear hpQ hsQ hperm hb02 hbU hE2 hX2)
              | (go_at_call 10; (with_reducible refine (lawake_any _).mono ?_); rintro e v2 ⟨rfl, hv2⟩; have hU2 := hv1.trans (hv2.mono hv1.size); have hX2 := hXU.out.below hU2; have hc1 := pcompare_any _ _ XX XX v2 hX2 (hY.below hv2); rw [cmpL_cmp.refl] at hc1)
              | (go_at_call 28; (with_reducible refine hc1.mono ?_); rintro e v3 ⟨rfl, hv3⟩; have hU3 := hU2.trans (hv3.mono hU2.size)))
            go_ret
            obtain ⟨hpQ, hsQ, hperm, hb02, hbU⟩ := hHH.out
            exact ⟨rfl, hb02.trans ((hbU.trans (hU3.mono hUs)).mono (by rw [← hq2]; exact hb02.size))⟩
      · obtain rfl : j = n' := by omega
        clear hr' hok'
        have hP2 := make_any _ P U hPz hokP (by rw [hplen]; exact hnn)
        have hUs : q2 ≤ U.heap.size := by rw [← hq2]; exact (hq2 ▸ hbU : Below w2.heap.size w2 U).size
        have hXU : Pz U (.slice AX (mkR Q).length cX) (mkR Q) := hX.below (hq2 ▸ hbU)
        by_cases hE : mkE Q = 0
        · have hXQ := mkR_zero hE
          have hd := (mkE_zero.1 hE).1
          have hrt := (mkE_zero.1 hE).2
          have hQl := hpQ.length_eq
          rw [hXQ] at hXU hX
          rw [hXQ, hE]
          have hrise := dup_no (hQl ▸ hsQ) hd
          have hvaU := (ha.below hb02).below (hq2 ▸ hbU)
          have hG := fun (p : Par) (hp : p ∈ l) => getL_mem hrise.dist (hpQ.mem_iff.2 hp)
          have hHH := hide (⟨hpQ, hsQ, hE, hXQ, hd, hrt, hQl, hrise, hG, hperm, hb02, hbU⟩ : _ ∧ _ ∧ _ ∧ _ ∧ _ ∧ _ ∧ _ ∧ _ ∧ _ ∧ _ ∧ _ ∧ _)
          have hXU := hide hXU
          have hvaU := hide hvaU
          have hn0 := hide hplen
          clear hpQ hsQ hE hXQ hd hrt hQl hrise hG hperm hb02 hbU hX hPz hokP hplen
          go_wp2_with (first
            | (go_at_call 16; (with_reducible refine hP2.mono ?_); rintro e v1 ⟨⟨R, yv, hpR, hsR, rfl, hY⟩, hv1⟩; obtain ⟨hpQ, hsQ, hE, hXQ, hd, hrt, hQl, hrise, hG, hperm, hb02, hbU⟩ := hHH.out; obtain ⟨hE2, hX2⟩ := mk_same (hpQ.trans (hpR.trans hperm).symm) (hQl ▸ hsQ) (by rw [hpR.length_eq]; exact hsR); rw [← hE2, hE]; rw [← hX2, hXQ] at hY; obtain ⟨AY, cY, rfl⟩ := hY.shape; clear hpQ hsQ hE hXQ hd hrt hQl hrise hG hperm hb02 hbU hE2 hX2)
            | (go_at_call 10; (with_reducible refine (lawake_any _).mono ?_); rintro e v2 ⟨rfl, hv2⟩; have hU2 := hv1.trans (hv2.mono hv1.size); have hX2 := hXU.out.below hU2; have hc1 := pcompare_any _ _ Q Q v2 hX2 (hY.below hv2); rw [cmpL_cmp.refl] at hc1)
            | (go_at_call 28; (with_reducible refine hc1.mono ?_); rintro e v3 ⟨rfl, hv3⟩; have hU3 := hU2.trans (hv3.mono hU2.size); have hX3 := hX2.below hv3; have hm3 := make_any _ Q v3 hX3 (fun x hx => hok x (hHH.out.1.mem_iff.1 hx)) (by rw [hHH.out.2.2.2.2.2.2.1]; exact hnn))
            | (go_at_call 16; (with_reducible refine hm3.mono ?_); rintro e v4 ⟨⟨R2, zv, hpR2, hsR2, rfl, hZ⟩, hv4⟩; obtain ⟨hpQ, hsQ, hE, hXQ, hd, hrt, hQl, hrise, hG, hperm, hb02, hbU⟩ := hHH.out; obtain ⟨hE2, hX2'⟩ := mk_same hpR2 (by rw [hpR2.length_eq]; exact hsR2) (hQl ▸ hsQ); rw [hE2, hE]; rw [hX2', hXQ] at hZ; obtain ⟨AZ, cZ, rfl⟩ := hZ.shape; clear hpQ hsQ hE hXQ hd hrt hQl hrise hG hperm hb02 hbU hE2 hX2' hpR2 hsR2; have hU4 := hU3.trans (hv4.mono hU3.size)))
          have hX4 := hX3.below hv4
          have hva4 := hvaU.out.below hU4
          clear hX2 hX3 hc1 hm3 hv1 hv2 hv3 hv4 hU2 hU3 hY hpR hsR hXU hvaU hP2
          go_loopw [93] (fun s93 V => ∃ i : Nat, i ≤ l.length ∧ s93 = .int .i64 (i : Int) ∧ Pz V (.slice AX Q.length cX) Q ∧ Pz V (.slice AZ Q.length cZ) Q ∧ Pz V (.slice AL l.length cL) l ∧ Below U.heap.size U V) (fun s93 _ => ((l.length : Int) - intOf s93).toNat)
          case atStart => exact ⟨0, by omega, rfl, hX4, hZ, hva4, hU4⟩
          case round =>
            clear hX4 hZ hva4 hU4
            obtain ⟨i, hi, rfl, hX5, hZ5, hL5, hU5⟩ := hrel
            have hVs := hU5.size
            have hXl := hX5.n.2
            by_cases hlt : i < l.length
            · obtain ⟨x, hx⟩ : ∃ x, l[i]? = some x := ⟨_, List.getElem?_eq_getElem hlt⟩
              obtain ⟨bb, oo, rfl, hbb, m0, m1⟩ := hL5.at_ hx
              have hii : (i : Int) < l.length := by omega
              have hgx := hHH.out.2.2.2.2.2.2.2.2.1 x (List.mem_of_getElem? hx)
              rename_i V _ _
              have hGc := fun X => pget_any _ Q x.a _ ((hX5.alloc (.cells #[.string x.a, .string x.b] 50)).ext X)
              rw [hgx] at hGc
              have hkk := hide (⟨hX5, hZ5, hL5⟩ : _ ∧ _ ∧ _)
              clear hX5 hZ5 hL5 hgx hx
              go_wp2
              refine wp_region_ext_lit (by kernel_rfl) (by kernel_rfl) ?_
              (repeat (first | ((with_reducible refine wpQuiet_step (fun K hK => ?_)); go_simp; first | ((with_reducible refine hK _ ?_); clear hK K) | (apply Exists.intro; (with_reducible refine ⟨fun _ => ?_, hK _ ?_⟩); (go_at_call 22; exact Calls.ext_of (hGc _)); clear hK K)) | ((with_reducible refine quiet_skipN ?_ (fun K hK => ?_)); (rfl); go_simp; (with_reducible refine hK _ ?_); clear hK K)))
              (with_reducible refine wpQuiet_nil ?_); intro _ hw'; obtain ⟨X, hw''⟩ := hw'; subst hw''
              go_wp2
              go_roundw
              case rel =>
                obtain ⟨hX5, hZ5, hL5⟩ := hkk.out
                exact ⟨i + 1, by omega, by go_num, hX5.below (by (repeat' (first | with_reducible exact Below.refl _ _ | with_reducible refine Below.ext ?_ ?_ _ | with_reducible refine Below.alloc ?_ ?_ _ | with_reducible refine Below.setCell ?_ ?_ _ | with_reducible refine Below.drew ?_ | with_reducible assumption | (simp [World.size_ext]; done) | (simp [World.size_ext]; omega)))), hZ5.below (by (repeat' (first | with_reducible exact Below.refl _ _ | with_reducible refine Below.ext ?_ ?_ _ | with_reducible refine Below.alloc ?_ ?_ _ | with_reducible refine Below.setCell ?_ ?_ _ | with_reducible refine Below.drew ?_ | with_reducible assumption | (simp [World.size_ext]; done) | (simp [World.size_ext]; omega)))), hL5.below (by (repeat' (first | with_reducible exact Below.refl _ _ | with_reducible refine Below.ext ?_ ?_ _ | with_reducible refine Below.alloc ?_ ?_ _ | with_reducible refine Below.setCell ?_ ?_ _ | with_reducible refine Below.drew ?_ | with_reducible assumption | (simp [World.size_ext]; done) | (simp [World.size_ext]; omega)))), hU5.trans ((by (repeat' (first | with_reducible exact Below.refl _ _ | with_reducible refine Below.ext ?_ ?_ _ | with_reducible refine Below.alloc ?_ ?_ _ | with_reducible refine Below.setCell ?_ ?_ _ | with_reducible refine Below.drew ?_ | with_reducible assumption | (simp [World.size_ext]; done) | (simp [World.size_ext]; omega))) : Below _ _ _).mono hVs)⟩
              case measure => simp [intOf]; omega
            · obtain rfl : i = l.length := by omega
              have hc5 := pcompare_any _ _ Q Q _ hX5 hZ5
              rw [cmpL_cmp.refl] at hc5
              have hR5 := fun (V : World) (hV : Pz V (.slice AX Q.length cX) Q) => pright_any _ Q V hV (fun x hx => hok x (hHH.out.1.mem_iff.1 hx))
              rw [hHH.out.2.2.2.2.2.1] at hR5
              have hlen : ((Q.length : Int) == (l.length : Int)) = true := by rw [hHH.out.2.2.2.2.2.2.1]; simp
              go_wp2_with (first
                | (go_at_call 28; (with_reducible refine hc5.mono ?_); rintro e v6 ⟨rfl, hv6⟩; have hX6 := hX5.below hv6)
                | (go_at_call 20; (with_reducible refine (hR5 _ hX6).mono ?_); rintro e v7 ⟨rfl, hv7⟩))
              go_ret
              obtain ⟨hpQ, hsQ, hE, hXQ, hd, hrt, hQl, hrise, hG, hperm, hb02, hbU⟩ := hHH.out
              have hUV := hU5.trans ((hv6.trans (hv7.mono hv6.size)).mono hVs)
              exact ⟨rfl, hb02.trans ((hbU.trans (hUV.mono hUs)).mono (by rw [← hq2]; exact hb02.size))⟩
        · have hHH := hide (⟨hpQ, hsQ, hperm, hb02, hbU⟩ : _ ∧ _ ∧ _ ∧ _ ∧ _)
          have hXU := hide hXU
          have hEb : ((mkE Q) != 0) = true := by simp [hE]
          have hEb' : ((mkE Q) == 0) = false := by simp [hE]
          have hQl := hpQ.length_eq
          have hEE := hide (⟨hQl, hE⟩ : _ ∧ _)
          generalize hEq : mkE Q = E at *
          generalize hXq : mkR Q = XX at *
          have hEq := hide hEq
          have hXq := hide hXq
          clear hpQ hsQ hE hperm hb02 hbU hX hPz hokP hplen hQl
          go_wp2_with (first
            | (go_at_call 16; (with_reducible refine hP2.mono ?_); rintro e v1 ⟨⟨R, yv, hpR, hsR, rfl, hY⟩, hv1⟩; obtain ⟨hpQ, hsQ, hperm, hb02, hbU⟩ := hHH.out; obtain ⟨hE2, hX2⟩ := mk_same (hpQ.trans (hpR.trans hperm).symm) (hEE.out.1 ▸ hsQ) (by rw [hpR.length_eq]; exact hsR); rw [← hE2, hEq.out]; rw [← hX2, hXq.out] at hY; obtain ⟨AY, cY, rfl⟩ := hY.shape; clear hpQ hsQ hperm hb02 hbU hE2 hX2)
            | (go_at_call 10; (with_reducible refine (lawake_any _).mono ?_); rintro e v2 ⟨rfl, hv2⟩; have hU2 := hv1.trans (hv2.mono hv1.size); have hX2 := hXU.out.below hU2; have hc1 := pcompare_any _ _ XX XX v2 hX2 (hY.below hv2); rw [cmpL_cmp.refl] at hc1)
            | (go_at_call 28; (with_reducible refine hc1.mono ?_); rintro e v3 ⟨rfl, hv3⟩; have hU3 := hU2.trans (hv3.mono hU2.size)))
          go_ret
          obtain ⟨hpQ, hsQ, hperm, hb02, hbU⟩ := hHH.out
          exact ⟨rfl, hb02.trans ((hbU.trans (hU3.mono hUs)).mono (by rw [← hq2]; exact hb02.size))⟩
section
open Go.ChangeShapes Go.WideShapes Go.ChangeAt Go.Joins
variable {H : Type} {enc : TypeId × Value → H}
set_option maxRecDepth 100000 in
theorem labelSorts_walk : LawWalkS enc Try.prog 7 Try.f7 := by
  intro W base args ds ps hval hA hlt _ hs
  rw [Try.params7] at hA hval hs
  obtain ⟨v0, v1, d0, d1, p0, p1, rfl, rfl, rfl, h0, h1⟩ := trodAll_two hA
  obtain ⟨l, hl, hok, hk⟩ := pars_open (hval 0 _ v0 rfl rfl) h0
  have hb := pars_weight (weights_at hs (j := 0) rfl rfl) hk
  obtain ⟨A', n', c', ks, rfl, hnc', hcm', hr', hok', _⟩ := ints_open (hval 1 _ v1 rfl rfl) h1
  obtain ⟨AL, cL, rfl⟩ := hl.shape
  exact law_sorts AL cL l A' n' c' ks W hl hok (by omega) hr' (by unfold maxLen at hcm'; omega) hok'
set_option maxRecDepth 100000 in
theorem labelSorts_lifted (os : Os) (started : os.Started) (H : Type) (enc : TypeId × Value → H) :
    ReturnsInHanded {} Try.checked os 7 .any (Rows.labelSortsSpec.pre6 enc Try.prog Try.f7 Rows.labelSortsRow.domain false) (Rows.labelSortsSpec.post enc Try.prog Try.f7 false true false false) :=
  law_lifted_sized (C := Try.checked) own started (by kernel_rfl) Try.func7 laidOut (by kernel_rfl) rfl Try.underlying4 rfl rfl
    (fun ds h => by obtain ⟨d0, d1, rfl⟩ := list2 h; rfl)
    (ChangeSpec.witness6 (enc := enc) (C := Try.checked) false ⟨#[], #[.slice none 0 0, .slice none 0 0], []⟩ 8 (by kernel_rfl) (by kernel_rfl) (by kernel_rfl) (by kernel_rfl))
    labelSorts_walk
theorem labelSorts_holds : Rows.LabelSortsSaid :=
  OpenClaim.holds_of_wide 7 Try.f7 rfl rfl rfl rfl rfl rfl rfl ⟨rfl, rfl, rfl, rfl, rfl⟩ rfl rfl rfl rfl rfl (by kernel_rfl) Try.func7 (by kernel_rfl)
    (of_decide_eq_true (by kernel_rfl)) (by unfold Func.isWrapper; rw [if_neg (of_decide_eq_false (by kernel_rfl))]; exact ⟨rfl, rfl⟩)
    (fun os started H enc _ => labelSorts_lifted os started H enc)
#print axioms labelSorts_holds
end
end Go.Proofs.Ytmfbidhnafpkdaa
