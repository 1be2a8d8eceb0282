import Derived.Test.YtjhcgnmibnjocaaGK
/-! Laws of nodes: what is sure stands with the newest. -/
namespace Go.Proofs.Ytjhcgnmibnjocaa
open Go.RowKit Go.Maps
set_option linter.unusedVariables false
set_option linter.unusedSimpArgs false
set_option maxRecDepth 100000 in
set_option maxHeartbeats 8000000 in
theorem law_relayStands (A : Option Addr) (n c : Nat) (l : List RAct) (w : World) (hr : Reads w w.heap.size 4 A n (rowsV RAct.cells l)) (hok : ∀ x ∈ l, x.ok w) (hl : l.length = n) (hn : n ≤ 9223372036854775807) :
    Calls Try.prog 8 #[.slice A n c] w fun e w' => e = .returned (.bool true) ∧ Below w.heap.size w w' := by
  go_enter Try.func8, Try.ntmps8
  go_wp2_with (first | (go_at_call 33; (with_reducible refine (nbegun_any _).mono ?_); rintro e w1 ⟨o, g, rfl, hN1, hLo, hb1⟩) | (go_at_call 10; (with_reducible refine (rawake_any _).mono ?_); rintro e w2 ⟨rfl, hb2⟩))
  have hN2 : NdW w2 o g (leadN nd0) := by
    obtain ⟨_, _, _, _, _, _, _, _, _, hX⟩ := hN1
    exact ⟨_, _, _, _, _, _, _, _, _, hX.below hb2⟩
  have hb02 : Below w.heap.size w w2 := hb1.trans (hb2.mono hb1.size)
  clear hN1 hb1 hb2
  go_loopw [4, 22] (fun vS vi wr => ∃ (j : Nat) (o : Nat → Option Nat) (s : Nd) (G : Gh) (S : List Ent), j ≤ n ∧ vi = .int .i64 (j : Int) ∧ j ≤ 150 ∧ SuL wr (OT o) vS S ∧ NdW wr o g s ∧ (Inv G s ∧ Sz s j ∧ G.cs s.c.e S) ∧ Lo o w.heap.size ∧ Below w.heap.size w wr) (fun _ vi _ => ((n : Int) - intOf vi).toNat)
  case atStart => exact ⟨0, o, leadN nd0, gh0, [], by omega, rfl, by omega, SuL.nil _ _, hN2, ⟨inv0.lead, sz0, .inl rfl⟩, hLo, hb02⟩
  case round =>
    clear hN2 hLo hb02 o w1 w2
    obtain ⟨j, o, s, G, S, hj, rfl, hj150, hS, hN, hG, hLo, hb⟩ := hrel
    obtain ⟨wo, rfl⟩ : ∃ wo : World, wo = wr := ⟨_, rfl⟩
    have hso := hb.size
    by_cases hlt : j < n
    · obtain ⟨b, of, rfl, hbb, hc⟩ := hr.plain (by omega) (by omega)
      obtain ⟨x, hx⟩ : ∃ x, l[j]? = some x := ⟨l[j]'(by omega), List.getElem?_eq_getElem (by omega)⟩
      have hxo := hok x (List.mem_of_getElem? hx)
      have hcell : ∀ k u, x.cells[k]? = some u → wo.cell? ⟨b, of + j * 4 + k, none⟩ = some u := fun k u hu => by
        rw [hb.cell (p := ⟨b, _, none⟩) hbb, Nat.add_assoc]
        exact hc _ _ (rowsV_get RAct.len l j x hx k u hu)
      have m0 := hcell 0 _ rfl
      have m1 := hcell 1 _ rfl
      have m2 := hcell 2 _ rfl
      have m3 := hcell 3 _ rfl
      rw [Nat.add_zero] at m0
      have hbw : b < wo.heap.size := by omega
      have hlj : (j : Int) < n := by omega
      clear hc hcell hx
      obtain ⟨kd, a, b', Am, cm, ms⟩ := x
      obtain ⟨hmr, hmn⟩ := hxo
      simp only at hmr hmn m0 m1 m2 m3
      by_cases q : j < 150
      · have d0 : decide ((150 : Int) ≤ j) = false := decide_eq_false (by omega)
        have d0' : decide (150 ≤ j) = false := decide_eq_false (by omega)
        go_upto_region 8 with fail
        have hbA : Below wo.heap.size wo (wo.alloc (.cells #[.int .i64 kd, .int .i64 a, .int .i64 b', .slice Am ms.length cm] 80)) := Below.alloc (Below.refl _ _) (Nat.le_refl _) _
        have hNA : NdW (wo.alloc (.cells #[.int .i64 kd, .int .i64 a, .int .i64 b', .slice Am ms.length cm] 80)) o g s := by
          obtain ⟨_, _, _, _, _, _, _, _, _, hX⟩ := hN
          exact ⟨_, _, _, _, _, _, _, _, _, hX.below hbA⟩
        have hlt : ∀ k, OT o k → k < wo.heap.size := by
          obtain ⟨_, _, _, _, _, _, _, _, _, hX⟩ := hN
          exact hX.lt
        refine abstr (fun W => Below w.heap.size w W ∧ SuL W (OT o) u4 S ∧ NdW W o g s ∧ (∀ k, OT o k → k < W.heap.size) ∧ Blk W wo.heap.size 80 #[.int .i64 kd, .int .i64 a, .int .i64 b', .slice Am ms.length cm]) ⟨hb.alloc hso _, hS.low hbA, hNA, (fun k hk => Nat.lt_of_lt_of_le (hlt k hk) hbA.size), Blk.new _ _ _⟩ (fun W hW => ?_)
        clear hbA hNA hS hN hb m0 m1 m2 m3 hlt hbb
        generalize wo.heap.size = p at *
        clear wo
        obtain ⟨hb, hS, hN, hlt, hP⟩ := hW
        have cP := hP.cell
        have lP := hP.lt
        have hmW : Reads W W.heap.size 1 Am ms.length (ints ms) ∧ (0 < ms.length → ∀ a, Am = some a → ¬OT o a.block) ∧ ms.length * 8 ≤ 140737488355328 := ⟨(hmr.below hb).more hb.size, fun h0 a ha ht => by
          obtain ⟨a', e', hl', _⟩ := hmr.2 h0
          rw [ha] at e'; cases e'
          have := hLo _ ht
          omega, hmn⟩
        have q' : j ≤ 150 := hj150
        have hD := does_any W hN hG.1 hG.2.1 q' kd a b' Am ms.length cm ms hmW
        go_upto_region 11 with (go_at_call 34; (with_reducible refine hD.mono ?_); rintro e w1 ⟨rfl, o', s', ⟨br, bk, gc, bm, bs, cr, gr, vp, vk, hX⟩, hg', hn'⟩)
        obtain ⟨⟨G', hI', hu'⟩, hz'⟩ := hn'
        have hS' := hS.goes hg' hlt
        have hcs' := hu' _ hG.2.2
        have hLo' := hg'.lo hLo hb.size
        have hb' : Below w.heap.size w w1 := hb.trans (hg'.low hLo hb.size)
        have hs1 := hb'.size
        clear hD hmW hmr hmn hok hr hN hS hg' hu' hP cP lP hb hG hLo hlt
        have cX := hX.blk.cell
        have lX := hX.blk.lt
        go_wp2
        go_loopw [4, 38] (fun vS vi wr => ∃ (k : Nat) (S : List Ent), k ≤ 4 ∧ vi = .int .i64 (k : Int) ∧ SuL wr (OT o') vS S ∧ G'.cs s'.c.e S ∧ Below w1.heap.size w1 wr) (fun _ vi _ => ((4 : Int) - intOf vi).toNat)
        case atStart => exact ⟨0, S, by omega, rfl, hS', hcs', Below.refl _ _⟩
        case round =>
          clear hS' hcs' S cX lX
          obtain ⟨k, S, hk, rfl, hS, hcs, hbr⟩ := hrel
          obtain ⟨wo, rfl⟩ : ∃ wo : World, wo = wr := ⟨_, rfl⟩
          have hso := hbr.size
          obtain ⟨⟨SA, Sc, rfl, hSc, hSE⟩, hSn⟩ := hS
          by_cases hlt : k < 4
          · have hkI : (k : Int) < 4 := by omega
            have hXr := hX.below hbr
            obtain ⟨cs, hrb, hrc⟩ := hXr.rb
            have hcn := hrc k hlt
            have crb := hrb.cell
            have lrb := hrb.lt
            have mrb : wo.cell? ⟨br, k, none⟩ = some (.pointer (some ⟨gr k, 0, none⟩)) := by rw [crb, hcn]
            have hRl := hXr.rel k hlt
            have hLg := rlog_any wo hRl
            have hXlt : ∀ k, OT o' k → k < wo.heap.size := hXr.lt
            obtain ⟨hsu, hcl⟩ := hI'.ok.sure hlt
            have hln : (s'.rs k).log.length ≤ 4096 := hRl.1.n
            have hSn' := hSn
            generalize s'.rs k = r at *
            have hI' := hI'.ok
            clear hz' hX hlj hl
            go_upto_region 15 with (first | (go_at_call 23; (with_reducible refine hLg.mono ?_); rintro e w2 ⟨A1, c1, rfl, hOw, hb2⟩; have hBk := back2_any A1 r.log.length c1 r.log w2 (T := fun k => k < wo.heap.size) (hOw.ents rfl (fun k hk => hk) (fun k hk => .inl hk)) (fun k hk => by have := hb2.size; omega) (by omega)) | (go_at_call 35; (with_reducible refine hBk.mono ?_); rintro e w3 ⟨A2, c2, rfl, hc2, hE3, hb3⟩; have hSu := rsure_any w3 ((hRl.below hb2).below hb3); have hsc : (r.sure : Int) ≤ c2 := by omega) | (go_at_call 13; (with_reducible refine hSu.mono ?_); rintro e w4 ⟨rfl, rfl⟩))
            have hb23 : Below wo.heap.size wo w4 := hb2.trans (hb3.mono hb2.size)
            have hE : Ents w4 (OT o') A2 r.log.length r.log := hE3.sub (fun k _ hk => hXlt k hk)
            have hEt := hE.take hsu
            have hSE3 := hSE.low hb23
            have hb13 : Below w1.heap.size w1 w4 := hbr.trans (hb23.mono hbr.size)
            clear hBk hLg hOw hE3 hSE mrb crb lrb hrb hrc hcn hRl hXr hb2 hb3 hb23 hbr hE hXlt hSu
            have hTl : (r.log.take r.sure).length = r.sure := by rw [List.length_take]; omega
            generalize hLL : r.log.take r.sure = L at *
            rw [← hTl] at hEt
            have hSL : SuL w4 (OT o') (.slice A2 r.sure c2) L := ⟨⟨A2, c2, by rw [hTl], by rw [hTl]; omega, hEt⟩, by rw [hTl]; omega⟩
            have hSLo : SuL w4 (OT o') (.slice SA S.length Sc) S := ⟨⟨SA, Sc, rfl, hSc, hSE3⟩, hSn⟩
            clear hEt hSE3
            by_cases hgt : S.length < r.sure
            · have d2 : decide ((S.length : Int) < r.sure) = true := decide_eq_true (by omega)
              go_wp2
              go_roundw
              case rel => exact ⟨k + 1, L, by omega, by go_num, hSL, hcl, hb13⟩
              case measure => simp [intOf]; omega
            · have d2 : decide ((S.length : Int) < r.sure) = false := decide_eq_false (by omega)
              go_wp2
              go_roundw
              case rel => exact ⟨k + 1, S, by omega, by go_num, hSLo, hcs, hb13⟩
              case measure => simp [intOf]; omega
          · have d3 : decide ((k : Int) < 4) = false := decide_eq_false (by omega)
            have d3' : decide (k < 4) = false := decide_eq_false (by omega)
            have hXw := hX.below hbr
            have hb2 : Below w.heap.size w wo := hb'.trans (hbr.mono hs1)
            have hs2 := hb2.size
            clear hX hbr hb' hs1 hso hlj hl
            have cX := hXw.blk.cell
            have lX := hXw.blk.lt
            go_wp2
            go_loopw [60] (fun vi wr => ∃ k : Nat, k ≤ 4 ∧ vi = .int .i64 (k : Int) ∧ Below wo.heap.size wo wr) (fun vi _ => ((4 : Int) - intOf vi).toNat)
            case atStart => exact ⟨0, by omega, rfl, Below.refl _ _⟩
            case round =>
              clear cX lX
              obtain ⟨k, hk, rfl, hbr⟩ := hrel
              obtain ⟨wi, rfl⟩ : ∃ wi : World, wi = wr := ⟨_, rfl⟩
              have hso := hbr.size
              by_cases hlt : k < 4
              · have hkI : (k : Int) < 4 := by omega
                have hXr := hXw.below hbr
                obtain ⟨cs, hrb, hrc⟩ := hXr.rb
                have hcn := hrc k hlt
                have crb := hrb.cell
                have lrb := hrb.lt
                have mrb : wi.cell? ⟨br, k, none⟩ = some (.pointer (some ⟨gr k, 0, none⟩)) := by rw [crb, hcn]
                go_upto_region 21 with fail
                have hXb := hXr.blk
                obtain ⟨hok, Ar, ccr, vr, mb, hRX⟩ := hXr.rel k hlt
                clear mrb crb lrb
                refine wp_region_kp (fun _ => False) [2, 6, 8] [0, 3, 4, 5, 9] [(true, false, 0), (true, false, 3), (true, false, 4), (true, false, 5), (true, true, 6), (false, true, 1), (true, true, 2), (false, true, 7), (true, true, 8), (true, false, 9), (false, false, 10)] (by kernel_rfl) (by kernel_rfl) (fun X => ?_); simp only [List.map_cons, List.map_nil, List.getD_cons_zero, List.getD_cons_succ]
                (repeat (first | (refine First.wpF_pure (fun K hK => ?_); go_simp; first | (refine hK _ _ ?_; clear hK K) | (apply Exists.intro; refine ⟨fun _ => ?_, hK _ _ ?_⟩; fail)) | (refine First.wpF_free (fun K hK => ?_); go_simp; first | (refine hK _ _ ?_; clear hK K))))
                (refine first_readG rfl (v := .pointer (some ⟨gc, 0, none⟩)) (fun w' hw' => ?_) (fun K hK => ?_); rotate_left 1; go_simp; refine hK _ _ ?_; clear hK K; rotate_left 1; (have hB' := Blk.kp (Blk.ext hXb _) hw' id; have c' := Blk.cell hB'; go_simp))
                (repeat (first | (refine First.wpF_pure (fun K hK => ?_); go_simp; first | (refine hK _ _ ?_; clear hK K) | (apply Exists.intro; refine ⟨fun _ => ?_, hK _ _ ?_⟩; fail)) | (refine First.wpF_free (fun K hK => ?_); go_simp; first | (refine hK _ _ ?_; clear hK K))))
                have hbx : Below wi.heap.size wi (wi.ext X) := World.below_ext wi X
                have hX2 := hXr.below hbx
                have hbw2 := hbr.trans (hbx.mono hso)
                have hVw := rview_any (wi.ext X) (hRX.below hbx) hok
                generalize wi.ext X = V at *
                refine First.wpF_must (fun K hK => ?_)
                go_wp2_with (go_at_call 12; (with_reducible refine hVw.mono ?_); rintro e w5 ⟨⟨v5, rfl, ho5⟩, hb5⟩; obtain ⟨A5, c5, rfl, _⟩ := own_sl ho5)
                (refine hK _ _ (fun hnd => by first | exact Bool.noConfusion hnd | exact Kp.of_below hb5) ?_; clear hK K)
                have hX5 := hX2.below hb5
                have hbw5 := hbw2.trans (hb5.mono hbw2.size)
                have hfd : ∀ w, (Instr.field 39 (.agg #[.int .i64 (s'.rs k).v.e, .int .i64 (s'.rs k).v.p, .slice A5 (s'.rs k).v.l.length c5]) 0).run Try.prog w = .ok (.int .i64 (s'.rs k).v.e) w := fun _ => by kernel_rfl
                have hNw := now_any gc bm bs s'.c w5 hX5.ct hX5.ck.mb
                (repeat (first | (refine First.wpF_pure (fun K hK => ?_); go_simp; first | (refine hK _ _ ?_; clear hK K) | (apply Exists.intro; refine ⟨fun _ => ?_, hK _ _ ?_⟩; fail)) | (refine First.wpF_free (fun K hK => ?_); go_simp; first | (refine hK _ _ ?_; clear hK K))))
                (refine first_readG rfl (v := .int .i64 (s'.rs k).v.e) (fun w' hw' => ?_) (fun K hK => ?_); rotate_left 1; go_simp; refine hK _ _ ?_; clear hK K; rotate_left 1; go_simp)
                (repeat (first | (refine First.wpF_pure (fun K hK => ?_); go_simp; first | (refine hK _ _ ?_; clear hK K) | (apply Exists.intro; refine ⟨fun _ => ?_, hK _ _ ?_⟩; fail)) | (refine First.wpF_free (fun K hK => ?_); go_simp; first | (refine hK _ _ ?_; clear hK K))))
                refine First.wpF_must (fun K hK => ?_)
                go_wp2_with (go_at_call 37; (with_reducible refine hNw.mono ?_); rintro e w6 ⟨⟨v6, rfl, ho6⟩, hb6⟩; obtain ⟨A6, c6, rfl, _⟩ := own_sl ho6)
                (refine hK _ _ (fun hnd => by first | exact Bool.noConfusion hnd | exact Kp.of_below hb6) ?_; clear hK K)
                have hX6 := hX5.below hb6
                have hbw6 := hbw5.trans (hb6.mono hbw5.size)
                have hfe : ∀ w, (Instr.field 39 (.agg #[.int .i64 s'.c.e, .int .i64 s'.c.p, .slice A6 s'.c.ms.length c6]) 0).run Try.prog w = .ok (.int .i64 s'.c.e) w := fun _ => by kernel_rfl
                (repeat (first | (refine First.wpF_pure (fun K hK => ?_); go_simp; first | (refine hK _ _ ?_; clear hK K) | (apply Exists.intro; refine ⟨fun _ => ?_, hK _ _ ?_⟩; fail)) | (refine First.wpF_free (fun K hK => ?_); go_simp; first | (refine hK _ _ ?_; clear hK K))))
                (refine first_readG rfl (v := .int .i64 s'.c.e) (fun w' hw' => ?_) (fun K hK => ?_); rotate_left 1; go_simp; refine hK _ _ ?_; clear hK K; rotate_left 1; go_simp)
                (repeat (first | (refine First.wpF_pure (fun K hK => ?_); go_simp; first | (refine hK _ _ ?_; clear hK K) | (apply Exists.intro; refine ⟨fun _ => ?_, hK _ _ ?_⟩; fail)) | (refine First.wpF_free (fun K hK => ?_); go_simp; first | (refine hK _ _ ?_; clear hK K))))
                refine First.wpF_must (fun K hK => ?_)
                go_wp2
                (refine hK _ _ (fun hnd => by first | exact Bool.noConfusion hnd | exact Kp.refl _ _) ?_; clear hK K)
                refine First.wpF_nil ?_
                have hAc := ractive_any w6 (hX6.rel k hlt)
                have hSf := safe_any gc bm bs s'.c w6 hX6.ct hX6.ck.sb
                have hLg := fun W (hW : Below w6.heap.size w6 W) => rlog_any W ((hX6.below hW).rel k hlt)
                have hln : (s'.rs k).log.length ≤ 4096 := (hX6.rel k hlt).1.n
                have hssl : s'.c.ss.length ≤ 9223372036854775807 := by have := hX6.ck.sb; omega
                have hSE6 := hSE.low hbw6
                have hb66 : Below w6.heap.size w6 w6 := Below.refl _ _
                have kX6 := hX6.blk.cell
                have lX6 := hX6.blk.lt
                clear hXr hXw hX2 hX5 hNw hVw hfd hfe ho5 ho6 hRX hrb hrc hcn hXb hbw2 hbw5 hb5 hb6 hbx hbr hSE
                rcases hh : hasB s'.c.ss (k : Int) with _ | _
                · by_cases hnw : (s'.rs k).v.e = s'.c.e
                  · have qn : ((s'.rs k).v.e == s'.c.e) = true := by rw [hnw]; simp
                    rcases hac : (s'.rs k).act with _ | _
                    · rw [hac] at hAc
                      go_wp2_with (first | (go_at_call 21; (with_reducible refine hAc.mono ?_); rintro e w7 ⟨rfl, hw7⟩; obtain rfl : w6 = w7 := hw7.symm) | (go_at_call 39; (with_reducible refine hSf.mono ?_); rintro e w7 ⟨⟨v7, rfl, ho7⟩, hb7⟩; obtain ⟨A7, c7, rfl, _⟩ := own_sl ho7; have hHs := rhas_any A7 s'.c.ss.length c7 s'.c.ss (k : Int) w7 (Reads.of_own ho7) hssl; rw [hh] at hHs) | (go_at_call 38; (with_reducible refine hHs.mono ?_); rintro e w8 ⟨rfl, hw8⟩; obtain rfl : w7 = w8 := hw8.symm))
                      go_roundw
                      case rel => exact ⟨k + 1, by omega, by go_num, hbw6.trans (hb7.mono hbw6.size)⟩
                      case measure => simp [intOf]; omega
                    · rw [hac] at hAc
                      have hp : S <+: (s'.rs k).log := hI'.ok.newest hlt hnw hac hcs
                      go_wp2_with (first | (go_at_call 21; (with_reducible refine hAc.mono ?_); rintro e w7 ⟨rfl, hw7⟩; obtain rfl : w6 = w7 := hw7.symm) | (go_at_call 23; (with_reducible refine (hLg w6 hb66).mono ?_); rintro e w9 ⟨A1, c1, rfl, hOw, hb9⟩; have hBk := back2_any A1 _ c1 _ w9 (T := fun k => k < (World.heap w6).size) (hOw.ents rfl (fun k hk => hk) (fun k hk => .inl hk)) (fun k hk => by have := hb9.size; omega) (by omega); have hb69 := Below.trans hb66 (hb9.mono (Below.size hb66))) | (go_at_call 35; (with_reducible refine hBk.mono ?_); rintro e w10 ⟨A2, c2, rfl, hc2, hE3, hb10⟩; have hb610 := hb69.trans (hb10.mono hb69.size); have hBg := begins_yes SA A2 S.length (s'.rs k).log.length Sc c2 S (s'.rs k).log w10 (hSE6.low hb610) hE3 hSn (by omega) hc2 hp) | (go_at_call 36; (with_reducible refine hBg.mono ?_); rintro e w11 ⟨rfl, hb11⟩; have hb611 := hb610.trans (hb11.mono hb610.size)))
                      go_roundw
                      case rel => exact ⟨k + 1, by omega, by go_num, hbw6.trans (hb611.mono hbw6.size)⟩
                      case measure => simp [intOf]; omega
                  · have qn : ((s'.rs k).v.e == s'.c.e) = false := by simpa using hnw
                    go_wp2_with (first | (go_at_call 39; (with_reducible refine hSf.mono ?_); rintro e w7 ⟨⟨v7, rfl, ho7⟩, hb7⟩; obtain ⟨A7, c7, rfl, _⟩ := own_sl ho7; have hHs := rhas_any A7 s'.c.ss.length c7 s'.c.ss (k : Int) w7 (Reads.of_own ho7) hssl; rw [hh] at hHs) | (go_at_call 38; (with_reducible refine hHs.mono ?_); rintro e w8 ⟨rfl, hw8⟩; obtain rfl : w7 = w8 := hw8.symm))
                    go_roundw
                    case rel => exact ⟨k + 1, by omega, by go_num, hbw6.trans (hb7.mono hbw6.size)⟩
                    case measure => simp [intOf]; omega
                · have hp : S <+: (s'.rs k).log := hI'.safe (hasB_mem.1 hh) hcs
                  by_cases hnw : (s'.rs k).v.e = s'.c.e
                  · have qn : ((s'.rs k).v.e == s'.c.e) = true := by rw [hnw]; simp
                    rcases hac : (s'.rs k).act with _ | _
                    · rw [hac] at hAc
                      go_wp2_with (first | (go_at_call 21; (with_reducible refine hAc.mono ?_); rintro e w7 ⟨rfl, hw7⟩; obtain rfl : w6 = w7 := hw7.symm) | (go_at_call 39; (with_reducible refine hSf.mono ?_); rintro e w7 ⟨⟨v7, rfl, ho7⟩, hb7⟩; obtain ⟨A7, c7, rfl, _⟩ := own_sl ho7; have hHs := rhas_any A7 s'.c.ss.length c7 s'.c.ss (k : Int) w7 (Reads.of_own ho7) hssl; rw [hh] at hHs) | (go_at_call 38; (with_reducible refine hHs.mono ?_); rintro e w8 ⟨rfl, hw8⟩; obtain rfl : w7 = w8 := hw8.symm) | (go_at_call 23; (with_reducible refine (hLg w7 hb7).mono ?_); rintro e w9 ⟨A1, c1, rfl, hOw, hb9⟩; have hBk := back2_any A1 _ c1 _ w9 (T := fun k => k < (World.heap w7).size) (hOw.ents rfl (fun k hk => hk) (fun k hk => .inl hk)) (fun k hk => by have := hb9.size; omega) (by omega); have hb69 := Below.trans hb7 (hb9.mono (Below.size hb7))) | (go_at_call 35; (with_reducible refine hBk.mono ?_); rintro e w10 ⟨A2, c2, rfl, hc2, hE3, hb10⟩; have hb610 := hb69.trans (hb10.mono hb69.size); have hBg := begins_yes SA A2 S.length (s'.rs k).log.length Sc c2 S (s'.rs k).log w10 (hSE6.low hb610) hE3 hSn (by omega) hc2 hp) | (go_at_call 36; (with_reducible refine hBg.mono ?_); rintro e w11 ⟨rfl, hb11⟩; have hb611 := hb610.trans (hb11.mono hb610.size)))
                      go_roundw
                      case rel => exact ⟨k + 1, by omega, by go_num, hbw6.trans (hb611.mono hbw6.size)⟩
                      case measure => simp [intOf]; omega
                    · rw [hac] at hAc
                      go_wp2_with (first | (go_at_call 21; (with_reducible refine hAc.mono ?_); rintro e w7 ⟨rfl, hw7⟩; obtain rfl : w6 = w7 := hw7.symm) | (go_at_call 23; (with_reducible refine (hLg w6 hb66).mono ?_); rintro e w9 ⟨A1, c1, rfl, hOw, hb9⟩; have hBk := back2_any A1 _ c1 _ w9 (T := fun k => k < (World.heap w6).size) (hOw.ents rfl (fun k hk => hk) (fun k hk => .inl hk)) (fun k hk => by have := hb9.size; omega) (by omega); have hb69 := Below.trans hb66 (hb9.mono (Below.size hb66))) | (go_at_call 35; (with_reducible refine hBk.mono ?_); rintro e w10 ⟨A2, c2, rfl, hc2, hE3, hb10⟩; have hb610 := hb69.trans (hb10.mono hb69.size); have hBg := begins_yes SA A2 S.length (s'.rs k).log.length Sc c2 S (s'.rs k).log w10 (hSE6.low hb610) hE3 hSn (by omega) hc2 hp) | (go_at_call 36; (with_reducible refine hBg.mono ?_); rintro e w11 ⟨rfl, hb11⟩; have hb611 := hb610.trans (hb11.mono hb610.size)))
                      go_roundw
                      case rel => exact ⟨k + 1, by omega, by go_num, hbw6.trans (hb611.mono hbw6.size)⟩
                      case measure => simp [intOf]; omega
                  · have qn : ((s'.rs k).v.e == s'.c.e) = false := by simpa using hnw
                    go_wp2_with (first | (go_at_call 39; (with_reducible refine hSf.mono ?_); rintro e w7 ⟨⟨v7, rfl, ho7⟩, hb7⟩; obtain ⟨A7, c7, rfl, _⟩ := own_sl ho7; have hHs := rhas_any A7 s'.c.ss.length c7 s'.c.ss (k : Int) w7 (Reads.of_own ho7) hssl; rw [hh] at hHs) | (go_at_call 38; (with_reducible refine hHs.mono ?_); rintro e w8 ⟨rfl, hw8⟩; obtain rfl : w7 = w8 := hw8.symm) | (go_at_call 23; (with_reducible refine (hLg w7 hb7).mono ?_); rintro e w9 ⟨A1, c1, rfl, hOw, hb9⟩; have hBk := back2_any A1 _ c1 _ w9 (T := fun k => k < (World.heap w7).size) (hOw.ents rfl (fun k hk => hk) (fun k hk => .inl hk)) (fun k hk => by have := hb9.size; omega) (by omega); have hb69 := Below.trans hb7 (hb9.mono (Below.size hb7))) | (go_at_call 35; (with_reducible refine hBk.mono ?_); rintro e w10 ⟨A2, c2, rfl, hc2, hE3, hb10⟩; have hb610 := hb69.trans (hb10.mono hb69.size); have hBg := begins_yes SA A2 S.length (s'.rs k).log.length Sc c2 S (s'.rs k).log w10 (hSE6.low hb610) hE3 hSn (by omega) hc2 hp) | (go_at_call 36; (with_reducible refine hBg.mono ?_); rintro e w11 ⟨rfl, hb11⟩; have hb611 := hb610.trans (hb11.mono hb610.size)))
                    go_roundw
                    case rel => exact ⟨k + 1, by omega, by go_num, hbw6.trans (hb611.mono hbw6.size)⟩
                    case measure => simp [intOf]; omega
              · obtain rfl : k = 4 := by omega
                go_wp2
                go_roundw
                case rel => exact ⟨j + 1, o', s', G', S, by omega, by go_num, by omega, (⟨⟨SA, Sc, rfl, hSc, hSE⟩, hSn⟩ : SuL wo _ _ _).low hbr, ⟨_, _, _, _, _, _, _, _, _, hXw.below hbr⟩, ⟨hI', hz', hcs⟩, hLo', hb2.trans (hbr.mono hs2)⟩
                case measure => simp [intOf]; omega
      · have d0 : decide ((150 : Int) ≤ j) = true := decide_eq_true (by omega)
        have d0' : decide (150 ≤ j) = true := decide_eq_true (by omega)
        go_wp2
        go_ret
        exact ⟨rfl, hb.alloc hso _⟩
    · go_wp2
      go_ret
      exact ⟨rfl, hb⟩
end Go.Proofs.Ytjhcgnmibnjocaa
