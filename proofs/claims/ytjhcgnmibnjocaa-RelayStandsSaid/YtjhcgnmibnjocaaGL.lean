import Derived.Test.YtjhcgnmibnjocaaY46
import Derived.Test.YtjhcgnmibnjocaaY21
import Derived.Test.YtjhcgnmibnjocaaY17
import Derived.Test.YtjhcgnmibnjocaaY33
/-! Several texts in one. -/
/-! What records tell, in plain words. -/
namespace Go.Proofs.Ytjhcgnmibnjocaa
open Go.RowKit Go.Maps
set_option linter.unusedVariables false
set_option linter.unusedSimpArgs false
def rest1 (r : Rl) (G : Gv) : Option Rl := if (endP G.r).e ≠ 0 ∨ (⟨G.e, G.p, G.l⟩ : Vi).right = false ∨ G.e ≤ r.v.e then none else some (promiseP r ⟨G.e, G.p, G.l⟩)
def rest2 (r : Rl) (n : Int) (L : List Ent × Rest) : Option Rl := if (endP L.2).e ≠ 0 ∨ L.1.length ≠ 1 ∨ n ≠ (r.log.length : Int) + 1 ∨ 4096 < n then none else some { r with log := r.log ++ L.1 }
def rest3 (r : Rl) (n : Int) (L : List Ent × Rest) : Option Rl := if (endP L.2).e ≠ 0 ∨ n < 0 ∨ r.v.e < n then none else some { r with joined := n, log := L.1 }
def restoreP (r : Rl) (bs : List Nat) : Option Rl :=
  if (numP ⟨bs, 0⟩).1 = 1 then rest1 r (getV (numP ⟨bs, 0⟩).2)
  else if (numP ⟨bs, 0⟩).1 = 2 then rest2 r (zag (numP (numP ⟨bs, 0⟩).2).1) (getL (numP (numP ⟨bs, 0⟩).2).2)
  else if (numP ⟨bs, 0⟩).1 = 3 then rest3 r (zag (numP (numP ⟨bs, 0⟩).2).1) (getL (numP (numP ⟨bs, 0⟩).2).2)
  else none
def restores (r : Rl) : List (List Nat) → Option Rl
  | [] => some r
  | b :: l => match restoreP r b with | none => none | some r' => restores r' l
def loadedP (r : Rl) : Rl := settleP (if r.leads then { r with sure := 0, act := false, acks := ackedL r.id r.log.length [] } else { r with sure := 0, act := false, acks := [] })
theorem restore_ok {r : Rl} (h : r.ok) {bs : List Nat} (hby : ∀ x ∈ bs, x < 256) : ∀ r', restoreP r bs = some r' → r'.ok := fun r' hr => by
  have hb1 := numP_by (r := ⟨bs, 0⟩) hby
  have hb2 := getL_by (numP_by hb1)
  have hvb : r.v.e ≤ 4611686018427387904 := by
    rcases h.v with e | e
    · rw [e]; decide
    · exact (right_bd e).2.1
  unfold restoreP at hr
  split at hr
  · unfold rest1 at hr
    split at hr
    · cases hr
    · rename_i hc
      cases hr
      exact promise_ok h (by
        rcases hv : (⟨(getV (numP ⟨bs, 0⟩).2).e, (getV (numP ⟨bs, 0⟩).2).p, (getV (numP ⟨bs, 0⟩).2).l⟩ : Vi).right with _ | _
        · exact absurd (.inr (.inl hv)) hc
        · rfl)
  split at hr
  · unfold rest2 at hr
    split at hr
    · cases hr
    · rename_i hc
      cases hr
      have h1 : (getL (numP (numP ⟨bs, 0⟩).2).2).1.length = 1 := Classical.byContradiction fun h => hc (.inr (.inl h))
      have h2 : zag (numP (numP ⟨bs, 0⟩).2).1 = (r.log.length : Int) + 1 := Classical.byContradiction fun h => hc (.inr (.inr (.inl h)))
      have h3 : ¬4096 < zag (numP (numP ⟨bs, 0⟩).2).1 := fun h => hc (.inr (.inr (.inr h)))
      exact ⟨h.id, h.v, by simp only [List.length_append]; omega, fun x hx => (List.mem_append.1 hx).elim (h.log x) (hb2.1 x), h.j, h.s, h.ak, h.an⟩
  split at hr
  · unfold rest3 at hr
    split at hr
    · cases hr
    · rename_i hc
      cases hr
      have h2 : ¬zag (numP (numP ⟨bs, 0⟩).2).1 < 0 := fun h => hc (.inr (.inl h))
      have h3 : ¬r.v.e < zag (numP (numP ⟨bs, 0⟩).2).1 := fun h => hc (.inr (.inr h))
      exact ⟨h.id, h.v, hb2.2.2, hb2.1, ⟨by simp only; omega, by simp only; omega⟩, h.s, h.ak, h.an⟩
  · cases hr
theorem loaded_ok {r : Rl} (h : r.ok) : (loadedP r).ok := by
  unfold loadedP
  have hn := h.n
  have hid := h.id
  refine settle_ok ?_
  split
  · exact ⟨h.id, h.v, h.n, h.log, h.j, by simp, fun x hx => by
      simp only [ackedL, List.filter_nil, List.mem_cons, List.not_mem_nil, or_false] at hx
      rw [hx]
      exact ⟨by simp only; omega, by simp only; omega, by simp only; omega⟩, by simp [ackedL]⟩
  · exact ⟨h.id, h.v, h.n, h.log, h.j, by simp, (fun x hx => by cases hx), List.nodup_nil⟩
theorem restore_id {r : Rl} {bs : List Nat} {r' : Rl} (h : restoreP r bs = some r') : r'.id = r.id := by
  unfold restoreP rest1 rest2 rest3 at h
  repeat' split at h
  all_goals first | (cases h; done) | (cases h; rfl) | skip
  cases h
  unfold promiseP
  split <;> exact (settle_v _).2.1
end Go.Proofs.Ytjhcgnmibnjocaa

/-! A relay does what a record tells. -/
namespace Go.Proofs.Ytjhcgnmibnjocaa
open Go.RowKit Go.Maps
set_option linter.unusedVariables false
set_option linter.unusedSimpArgs false
theorem rdend_ok (g b : Nat) (r : Rest) (w : World) (h : Rdr w g b r.xs r.e) (he : (endP r).e = 0) :
    Calls Try.prog 59 #[.pointer (some ⟨g, 0, none⟩)] w fun e' w' => e' = .returned (.int .i64 0) ∧ Below w.heap.size w w' := by
  have hr := h
  obtain ⟨⟨A, c, h1, h2, h3, h4⟩, hn⟩ := h
  have c1 := h1.cell
  have h0 : r.e = 0 ∧ ¬0 < r.xs.length := by
    unfold endP at he
    by_cases h0 : r.e = 0
    · refine ⟨h0, fun hl => ?_⟩
      rw [if_pos ⟨h0, hl⟩] at he
      simp [failP, h0] at he
    · rw [if_neg (fun h => h0 h.1)] at he
      exact absurd he h0
  rw [h0.1] at hr c1
  have hl' : (r.xs.length : Int) ≤ 0 := by have := h0.2; omega
  clear h0 he h1
  go_enter Try.func59, Try.ntmps59
  go_wp2_with (first | (go_at_call 98; (with_reducible refine (rderr_any _ _ _ _ _ hr).mono ?_); rintro e w2 ⟨rfl, rfl⟩))
  go_ret
  exact ⟨rfl, Below.refl _ _⟩
attribute [local irreducible] First.wpF
set_option maxRecDepth 100000 in
set_option maxHeartbeats 4000000 in
theorem restore_any {S T T0 : Nat → Prop} {g : Nat} {r : Rl} (u : Value) (bs : List Nat) (w : World) (h : RelW w S T g r) (hu : Bsl w T0 u bs) (hn : bs.length ≤ 1000000) :
    Calls Try.prog 75 #[.pointer (some ⟨g, 0, none⟩), u] w fun e w' => Aft w w' S T g ((restoreP r bs).getD r) fun _ => e = .returned (.bool (restoreP r bs).isSome) := by
  obtain ⟨hok, Am, cm, vl, mb, hX⟩ := h
  have hXo := hX.own
  obtain ⟨ms0, _, hown0, _⟩ := hXo
  obtain ⟨Al, cl, hvl, _⟩ := own_sl hown0
  clear hown0
  subst hvl
  obtain ⟨A, c, rfl, hr, hnil⟩ := hu.exR
  have hby := hu.by_
  have hRd := read_any A c bs w hr hby hnil (by omega)
  rcases hq : numP ⟨bs, 0⟩ with ⟨kd, r1⟩
  have hN := fun g2 b2 W (h : Rdr W g2 b2 bs 0) => rdnum_any g2 b2 bs 0 W h
  rw [hq] at hN
  simp only at hN
  obtain ⟨RP, hRP⟩ : ∃ RP, RP = restoreP r bs := ⟨_, rfl⟩
  rw [← hRP]
  have hRP0 := hide hRP
  unfold restoreP at hRP
  rw [hq] at hRP
  simp only at hRP
  go_enter Try.func75, Try.ntmps75
  go_upto_region 4 with (first | (go_at_call 55; (with_reducible refine hRd.mono ?_); rintro e w1 ⟨g2, b2, rfl, hr1, hg2, hb2, hb1⟩) | (go_at_call 96; (with_reducible refine (hN _ _ _ hr1).mono ?_); rintro e w2 ⟨rfl, hr2, ho2⟩))
  have hs1 := hb1.size
  have hb02 : Below w.heap.size w w2 := hb1.trans (ho2.below hg2 hs1)
  have hl2 := hr2.lt
  have hne2 := hr2.ne
  clear hRd hN hr1 hb1 ho2 hs1
  generalize hkq : (kd : Int) = ki at *
  by_cases k1 : kd = 1
  · rw [if_pos k1] at hRP
    obtain rfl : ki = 1 := by omega
    clear hq
    have hg := pget_any g2 b2 r1 w2 hr2
    have hv64 := getV_bd r1
    generalize getV r1 = G at *
    go_upto_region 6 with (go_at_call 57; (with_reducible refine hg.mono ?_); rintro e w3 ⟨⟨v3, rfl, ho3⟩, hr3, hO3⟩; obtain ⟨A3, c3, rfl, _⟩ := own_sl ho3)
    have hs2 := hb02.size
    have hs3 := hO3.size
    have hb03 : Below w.heap.size w w3 := hb02.trans (hO3.below hg2 hs2)
    have hrd3 := Reads.of_own ho3
    refine abstr (fun W => Below w.heap.size w W ∧ Rdr W g2 b2 G.r.xs G.r.e ∧ Blk W w3.heap.size 39 #[.int .i64 G.e, .int .i64 G.p, .slice A3 G.l.length c3] ∧ Reads W W.heap.size 1 A3 G.l.length (ints G.l) ∧ (∀ a, A3 = some a → a.block ≠ g2)) ⟨hb03.alloc (by omega) _, hr3.below (Below.alloc (Below.refl _ _) (Nat.le_refl _) _), Blk.new _ _ _, Reads.kp hrd3 (Kp.of_below (S := fun _ => False) (Below.alloc (Below.refl _ _) (Nat.le_refl _) _)) (fun _ _ _ h => h), fun a ha => by have := (own_addr ho3 a ha).1; omega⟩ (fun W hW => ?_)
    have hpv : w3.heap.size ≠ g2 ∧ w3.heap.size ≠ b2 := ⟨by omega, by omega⟩
    generalize w3.heap.size = pv at *
    clear hg ho3 hr3 hO3 hrd3 hb03 hs3 hr2 hb02 hs2 hl2
    obtain ⟨hbW, hrW, hVW, hqW, hA3⟩ := hW
    have hXW := hX.below hbW
    have hgl := hX.blk.lt
    have hgl' : g < W.heap.size := hXW.blk.lt
    have cX := hXW.blk.cell
    have cV := hVW.cell
    have lV := hVW.lt
    have ng : ¬(g = g2) := by omega
    unfold rest1 at hRP
    by_cases he : (endP G.r).e = 0
    · have hEo := fun X : Ext => rdend_ok g2 b2 G.r (W.ext X) (hrW.below (World.below_ext W X)) he
      have hRi := fun X : Ext => vright_any G.e G.p A3 G.l.length c3 G.l (W.ext X) (hqW.grown X) (by have := hv64; omega)
      rcases hrt : (⟨G.e, G.p, G.l⟩ : Vi).right with _ | _
      · rw [if_pos (.inr (.inl hrt))] at hRP
        unfold Vi.right at hrt
        rw [hrt] at hRi
        clear he
        refine wp_region_ext_lit (by kernel_rfl) (by kernel_rfl) ?_
        (repeat (first | ((with_reducible refine wpQuiet_step (fun K hK => ?_)); go_simp; first | ((with_reducible refine hK _ ?_); clear hK K) | (apply Exists.intro; (with_reducible refine ⟨fun _ => ?_, hK _ ?_⟩); (first | (go_at_call 59; exact Calls.ext_of (hEo _)) | (go_at_call 41; exact Calls.ext_of (hRi _))); clear hK K)) | ((with_reducible refine quiet_skipN ?_ (fun K hK => ?_)); (rfl); go_simp; (with_reducible refine hK _ ?_); clear hK K)))
        (with_reducible refine wpQuiet_nil ?_); intro _ hw'; obtain ⟨Y, hw''⟩ := hw'; subst hw''
        go_wp2
        go_ret
        (try rw [hRP])
        refine Aft.mk' hok (hXW.below (World.below_ext W Y)) ((Kp.of_below hbW).trans (Kp.of_below (World.below_ext W Y))) ?_
        exact rfl
      · have hrt' := hide hrt
        unfold Vi.right at hrt
        rw [hrt] at hRi
        have hE' := hide he
        clear hrt he
        by_cases hle : G.e ≤ r.v.e
        · have d1 : decide (G.e ≤ r.v.e) = true := by simpa using hle
          rw [if_pos (.inr (.inr hle))] at hRP
          clear hle
          refine wp_region_ext_lit (by kernel_rfl) (by kernel_rfl) ?_
          (repeat (first | ((with_reducible refine wpQuiet_step (fun K hK => ?_)); go_simp; first | ((with_reducible refine hK _ ?_); clear hK K) | (apply Exists.intro; (with_reducible refine ⟨fun _ => ?_, hK _ ?_⟩); (first | (go_at_call 59; exact Calls.ext_of (hEo _)) | (go_at_call 41; exact Calls.ext_of (hRi _))); clear hK K)) | ((with_reducible refine quiet_skipN ?_ (fun K hK => ?_)); (rfl); go_simp; (with_reducible refine hK _ ?_); clear hK K)))
          (with_reducible refine wpQuiet_nil ?_); intro _ hw'; obtain ⟨Y, hw''⟩ := hw'; subst hw''
          go_wp2
          go_ret
          (try rw [hRP])
          refine Aft.mk' hok (hXW.below (World.below_ext W Y)) ((Kp.of_below hbW).trans (Kp.of_below (World.below_ext W Y))) ?_
          exact rfl
        · have d1 : decide (G.e ≤ r.v.e) = false := by simpa using hle
          rw [if_neg (by rintro (h | h | h); exact h hE'.out; (rw [hrt'.out] at h; cases h); exact hle h)] at hRP
          clear hle
          refine wp_region_ext_lit (by kernel_rfl) (by kernel_rfl) ?_
          (repeat (first | ((with_reducible refine wpQuiet_step (fun K hK => ?_)); go_simp; first | ((with_reducible refine hK _ ?_); clear hK K) | (apply Exists.intro; (with_reducible refine ⟨fun _ => ?_, hK _ ?_⟩); (first | (go_at_call 59; exact Calls.ext_of (hEo _)) | (go_at_call 41; exact Calls.ext_of (hRi _))); clear hK K)) | ((with_reducible refine quiet_skipN ?_ (fun K hK => ?_)); (rfl); go_simp; (with_reducible refine hK _ ?_); clear hK K)))
          (with_reducible refine wpQuiet_nil ?_); intro _ hw'; obtain ⟨Y, hw''⟩ := hw'; subst hw''
          have hX5 := hXW.below (World.below_ext W Y)
          have hb05 : Below w.heap.size w (W.ext Y) := hbW.trans ((World.below_ext W Y).mono hbW.size)
          go_wp2_with (go_at_call 42; (with_reducible refine (promise_any A3 c3 ⟨G.e, G.p, G.l⟩ (W.ext Y) hX5 hok hrt'.out (hqW.grown Y)).mono ?_); rintro e w6 ⟨rfl, ⟨A6, c6, m6, hX6, hm6⟩, hO6⟩)
          go_ret
          rw [hRP]
          have hs5 := hb05.size
          refine ⟨_, ⟨promise_ok hok hrt'.out, A6, c6, _, m6, hX6.widen (fun k hk => hk.elim (fun h => .inl h) (fun h => h.imp (hX5.sub k) id)) (fun k hk => .inr hk)⟩, (Kp.of_below hb05).trans (Kp.of_only hO6 hX.g), fun k hk => hk.imp id (fun e => by omega), ?_⟩
          exact rfl
    · rw [if_pos (.inl he)] at hRP
      have he' : ((endP G.r).e != 0) = true := by simpa using he
      have hEn := fun Y : Ext => rdend_any g2 b2 G.r.xs G.r.e (W.ext Y) (hrW.below (World.below_ext W Y))
      rw [show (⟨G.r.xs, G.r.e⟩ : Rest) = G.r from rfl] at hEn
      generalize (endP G.r).e = EPe at *
      have hH := hide (⟨hX, hbW, hg2, hRP, hok⟩ : _ ∧ _ ∧ _ ∧ _ ∧ _)
      clear he hXW hVW hqW hA3 hrW cX cV lV ng hgl' hgl hv64 hpv hb2 hne2 hX hRP hok hbW hg2 hr hu hnil hby hn
      refine wp_region_kp (fun k => k = g2) [4, 10, 15] [0, 2, 3, 6, 7, 8, 9, 11, 12, 13, 14, 16, 17] [(true, false, 0), (false, true, 1), (true, false, 2), (true, false, 3), (true, true, 4), (false, true, 5), (true, false, 6), (true, false, 7), (true, false, 8), (true, false, 9), (true, true, 10), (true, false, 11), (true, false, 12), (true, false, 13), (true, false, 14), (true, true, 15), (true, false, 16), (true, false, 17)] (by kernel_rfl) (by kernel_rfl) (fun Y => ?_); simp only [List.map_cons, List.map_nil, List.getD_cons_zero, List.getD_cons_succ]
      (repeat (first | (refine First.wpF_pure (fun K hK => ?_); go_simp; first | (refine hK _ _ ?_; clear hK K) | (apply Exists.intro; refine ⟨fun _ => ?_, hK _ _ ?_⟩; fail)) | (refine First.wpF_free (fun K hK => ?_); go_simp; first | (refine hK _ _ ?_; clear hK K))))
      refine First.wpF_must (fun K hK => ?_)
      go_wp2_with (go_at_call 59; (with_reducible refine (hEn _).mono ?_); rintro e w4 ⟨rfl, hr4, hO4⟩)
      (refine hK _ _ (fun _ => Kp.of_only hO4 rfl) ?_; clear hK K)
      clear hr4 hEn
      (repeat (first | (refine First.wpF_pure (fun K hK => ?_); go_simp; first | (refine hK _ _ ?_; clear hK K) | (apply Exists.intro; refine ⟨fun _ => ?_, hK _ _ ?_⟩; fail)) | (refine First.wpF_free (fun K hK => ?_); go_simp; first | (refine hK _ _ ?_; clear hK K))))
      refine First.wpF_must (fun K hK => ?_)
      go_wp2
      (refine hK _ _ (fun _ => Kp.refl _ _) ?_; clear hK K)
      (repeat (first | (refine First.wpF_pure (fun K hK => ?_); go_simp; first | (refine hK _ _ ?_; clear hK K) | (apply Exists.intro; refine ⟨fun _ => ?_, hK _ _ ?_⟩; fail)) | (refine First.wpF_free (fun K hK => ?_); go_simp; first | (refine hK _ _ ?_; clear hK K))))
      refine First.wpF_nil ?_
      go_wp2
      go_ret
      obtain ⟨hX, hbW, hg2, hRP, hok⟩ := hH.out
      have hbY : Below w.heap.size w (W.ext Y) := hbW.trans ((World.below_ext W Y).mono hbW.size)
      have hb4 : Below w.heap.size w w4 := hbY.trans (hO4.below hg2 hbY.size)
      rw [hRP]
      refine Aft.mk' hok (hX.below hb4) (Kp.of_below hb4) ?_
      exact rfl
  rw [if_neg k1] at hRP
  have k1' : (ki == 1) = false := by simp; omega
  have hgl := hX.blk.lt
  have hs2 := hb02.size
  have hX2 := hX.below hb02
  rcases hq2 : numP r1 with ⟨n2, r2⟩
  rw [hq2] at hRP
  simp only at hRP
  have hI := rint_at g2 b2 r1 w2 hr2 hq2
  have hGl := fun W h => getlog_any g2 b2 r2 W h
  generalize getL r2 = L at *
  by_cases k3 : kd = 3
  · rw [if_neg (by omega), if_pos k3] at hRP
    obtain rfl : ki = 3 := by omega
    unfold rest3 at hRP
    generalize zag n2 = N at *
    go_upto_region 16 with (first | (go_at_call 56; (with_reducible refine hI.mono ?_); rintro e w3 ⟨rfl, hr3, hO3⟩) | (go_at_call 58; (with_reducible refine (hGl _ hr3).mono ?_); rintro e w4 ⟨⟨A4, c4, rfl, ho4⟩, hr4, hO4⟩))
    have hs3 := hO3.size
    have hs4 := hO4.size
    have hb04 : Below w.heap.size w w4 := (hb02.trans (hO3.below hg2 hs2)).trans (hO4.below hg2 (by omega))
    have hX4 := hX.below hb04
    have hEn := rdend_any g2 b2 L.2.xs L.2.e w4 hr4
    rw [show (⟨L.2.xs, L.2.e⟩ : Rest) = L.2 from rfl] at hEn
    clear hI hGl hr2 hr3 hO3 hO4 hr4 hX2
    generalize endP L.2 = EP at *
    by_cases he : EP.e = 0
    · have he' : (EP.e != 0) = false := by simp [he]
      by_cases hn0 : N < 0
      · have d0 : decide (N < 0) = true := by simpa using hn0
        rw [if_pos (.inr (.inl hn0))] at hRP
        clear he hn0
        go_wp2_with (go_at_call 59; (with_reducible refine hEn.mono ?_); rintro e w5 ⟨rfl, hr5, hO5⟩; have hb5 : Below w.heap.size w w5 := hb04.trans (hO5.below hg2 (by omega)))
        go_ret
        (try rw [hRP])
        refine Aft.mk' hok (hX.below hb5) (Kp.of_below hb5) ?_
        exact rfl
      · have d0 : decide (N < 0) = false := by simpa using hn0
        by_cases hle : r.v.e < N
        · have d1 : decide (r.v.e < N) = true := by simpa using hle
          rw [if_pos (.inr (.inr hle))] at hRP
          clear he hn0 hle
          go_wp2_with (go_at_call 59; (with_reducible refine hEn.mono ?_); rintro e w5 ⟨rfl, hr5, hO5⟩; have hb5 : Below w.heap.size w w5 := hb04.trans (hO5.below hg2 (by omega)); have c5 := (hX.below hb5).blk.cell; have l5 := (hX.below hb5).blk.lt)
          go_ret
          (try rw [hRP])
          refine Aft.mk' hok (hX.below hb5) (Kp.of_below hb5) ?_
          exact rfl
        · have d1 : decide (r.v.e < N) = false := by simpa using hle
          rw [if_neg (by rintro (h | h | h); exact h he; exact hn0 h; exact hle h)] at hRP
          have hrok := restore_ok hok hby _ (hRP0.out.symm.trans hRP)
          clear he hn0 hle
          go_wp2_with (go_at_call 59; (with_reducible refine hEn.mono ?_); rintro e w5 ⟨rfl, hr5, hO5⟩; have hb5 : Below w.heap.size w w5 := hb04.trans (hO5.below hg2 (by omega)); have c5 := (hX.below hb5).blk.cell; have f5 := (hX.below hb5).blk.frozen; have l5 := (hX.below hb5).blk.lt)
          go_ret
          (try rw [hRP])
          have ho5 : OwnE w5 (Old w.heap.size (.slice A4 L.1.length c4)) w.heap.size (.slice A4 L.1.length c4) L.1 := by
            have h0 := ho4.only hO5 (by omega)
            obtain ⟨ms, e, hown, hms⟩ := h0.sub (T' := Old w.heap.size (.slice A4 L.1.length c4)) (fun k _ hk => hk.imp (fun h => by omega) id)
            exact ⟨ms, e, own_low hown (by omega), hms⟩
          obtain ⟨hX6, hk6, hn6⟩ := hX.fresh hb5 L.1 N ho5
          refine ⟨_, ⟨hrok, Am, cm, _, mb, hX6.widen (fun k hk => hk.elim (fun h => .inl h) (fun h => h.imp (hX.sub k) id)) (fun k hk => .inr hk)⟩, hk6, fun k hk => hk.imp id (hn6 k), ?_⟩
          exact rfl
    · have he' : (EP.e != 0) = true := by simpa using he
      rw [if_pos (.inl he)] at hRP
      clear he
      go_wp2_with (go_at_call 59; (with_reducible refine hEn.mono ?_); rintro e w5 ⟨rfl, hr5, hO5⟩; have hb5 : Below w.heap.size w w5 := hb04.trans (hO5.below hg2 (by omega)))
      go_ret
      (try rw [hRP])
      refine Aft.mk' hok (hX.below hb5) (Kp.of_below hb5) ?_
      exact rfl
  have k3' : (ki == 3) = false := by simp; omega
  by_cases k2 : kd = 2
  · rw [if_pos k2] at hRP
    obtain rfl : ki = 2 := by omega
    unfold rest2 at hRP
    generalize zag n2 = N at *
    go_upto_region 11 with (first | (go_at_call 56; (with_reducible refine hI.mono ?_); rintro e w3 ⟨rfl, hr3, hO3⟩) | (go_at_call 58; (with_reducible refine (hGl _ hr3).mono ?_); rintro e w4 ⟨⟨A4, c4, rfl, ho4⟩, hr4, hO4⟩))
    have hs3 := hO3.size
    have hs4 := hO4.size
    have hb04 : Below w.heap.size w w4 := (hb02.trans (hO3.below hg2 hs2)).trans (hO4.below hg2 (by omega))
    have hX4 := hX.below hb04
    have hEn := rdend_any g2 b2 L.2.xs L.2.e w4 hr4
    rw [show (⟨L.2.xs, L.2.e⟩ : Rest) = L.2 from rfl] at hEn
    clear hI hGl hr2 hr3 hO3 hO4 hr4 hX2
    generalize endP L.2 = EP at *
    have hll := hok.n
    have hwr : IntKind.i64.wrap ((r.log.length : Int) + 1) = (r.log.length : Int) + 1 := IntWalk.i64_in _ (by omega)
    by_cases hbad : EP.e ≠ 0 ∨ L.1.length ≠ 1 ∨ N ≠ (r.log.length : Int) + 1 ∨ 4096 < N
    · rw [if_pos hbad] at hRP
      by_cases he : EP.e = 0
      · have he' : (EP.e != 0) = false := by simp [he]
        by_cases hl1 : L.1.length = 1
        · have d1 : ((L.1.length : Int) != 1) = false := by simp; omega
          by_cases hN1 : N = (r.log.length : Int) + 1
          · have d2 : (N != (r.log.length : Int) + 1) = false := by simpa using hN1
            have d3 : decide ((4096 : Int) < N) = true := by
              rcases hbad with h | h | h | h
              · exact absurd he h
              · exact absurd hl1 h
              · exact absurd hN1 h
              · simpa using h
            clear hbad he hl1 hN1
            go_wp2_with (go_at_call 59; (with_reducible refine hEn.mono ?_); rintro e w5 ⟨rfl, hr5, hO5⟩; have hb5 : Below w.heap.size w w5 := hb04.trans (hO5.below hg2 (by omega)); have c5 := (hX.below hb5).blk.cell; have l5 := (hX.below hb5).blk.lt)
            go_ret
            (try rw [hRP])
            refine Aft.mk' hok (hX.below hb5) (Kp.of_below hb5) ?_
            exact rfl
          · have d2 : (N != (r.log.length : Int) + 1) = true := by simpa using hN1
            clear hbad he hl1 hN1
            go_wp2_with (go_at_call 59; (with_reducible refine hEn.mono ?_); rintro e w5 ⟨rfl, hr5, hO5⟩; have hb5 : Below w.heap.size w w5 := hb04.trans (hO5.below hg2 (by omega)); have c5 := (hX.below hb5).blk.cell; have l5 := (hX.below hb5).blk.lt)
            go_ret
            (try rw [hRP])
            refine Aft.mk' hok (hX.below hb5) (Kp.of_below hb5) ?_
            exact rfl
        · have d1 : ((L.1.length : Int) != 1) = true := by simp; omega
          clear hbad he hl1
          go_wp2_with (go_at_call 59; (with_reducible refine hEn.mono ?_); rintro e w5 ⟨rfl, hr5, hO5⟩; have hb5 : Below w.heap.size w w5 := hb04.trans (hO5.below hg2 (by omega)); have c5 := (hX.below hb5).blk.cell; have l5 := (hX.below hb5).blk.lt)
          go_ret
          (try rw [hRP])
          refine Aft.mk' hok (hX.below hb5) (Kp.of_below hb5) ?_
          exact rfl
      · have he' : (EP.e != 0) = true := by simpa using he
        clear hbad he
        go_wp2_with (go_at_call 59; (with_reducible refine hEn.mono ?_); rintro e w5 ⟨rfl, hr5, hO5⟩; have hb5 : Below w.heap.size w w5 := hb04.trans (hO5.below hg2 (by omega)); have c5 := (hX.below hb5).blk.cell; have l5 := (hX.below hb5).blk.lt)
        go_ret
        (try rw [hRP])
        refine Aft.mk' hok (hX.below hb5) (Kp.of_below hb5) ?_
        exact rfl
    · rw [if_neg hbad] at hRP
      have hrok := restore_ok hok hby _ (hRP0.out.symm.trans hRP)
      have he : EP.e = 0 := Classical.byContradiction fun h => hbad (.inl h)
      have he' : (EP.e != 0) = false := by simp [he]
      have hl1 : L.1.length = 1 := Classical.byContradiction fun h => hbad (.inr (.inl h))
      have d1 : ((L.1.length : Int) != 1) = false := by simp; omega
      have hN1 : N = (r.log.length : Int) + 1 := Classical.byContradiction fun h => hbad (.inr (.inr (.inl h)))
      have d2 : (N != (r.log.length : Int) + 1) = false := by simpa using hN1
      have hN2 : ¬4096 < N := fun h => hbad (.inr (.inr (.inr h)))
      have d3 : decide ((4096 : Int) < N) = false := by simpa using hN2
      have hlt : r.log.length < 4096 := by omega
      clear hbad he hN1 hN2
      go_upto_region 13 with (go_at_call 59; (with_reducible refine hEn.mono ?_); rintro e w5 ⟨rfl, hr5, hO5⟩; have hb5 : Below w.heap.size w w5 := hb04.trans (hO5.below hg2 (by omega)); have c5 := (hX.below hb5).blk.cell; have l5 := (hX.below hb5).blk.lt)
      obtain ⟨x, hx⟩ := List.length_eq_one_iff.1 hl1
      have ho5 := ho4.only hO5 (by omega)
      have hs5 := hO5.size
      rw [hx] at ho5 hRP
      have hrok' : ({ r with log := r.log ++ [x] } : Rl).ok := by rw [← hx]; exact hrok
      obtain ⟨ms3, hms3, ho3, hE3⟩ := ho5
      obtain ⟨m3, rfl⟩ : ∃ m3, ms3 = [m3] := by
        cases ms3 with
        | nil => cases hms3
        | cons a l =>
          cases l with
          | nil => exact ⟨a, rfl⟩
          | cons b l => cases hms3
      simp only [List.map_cons, List.map_nil, List.cons.injEq, and_true] at hms3
      have hone : [x].length = 1 := rfl
      rw [hone] at ho3
      obtain ⟨b3, hb3⟩ := own_some ho3 (show 0 < 1 by omega)
      subst hb3
      obtain ⟨hB3, hxo⟩ := hE3 m3 (by simp)
      obtain ⟨q1, qf, ql⟩ := own_cellE ho3 (emV_get (ms := [m3]) (i := 0) (m := m3) rfl).1
      obtain ⟨q2, _, _⟩ := own_cellE ho3 (emV_get (ms := [m3]) (i := 0) (m := m3) rfl).2
      rw [hms3] at q1 hB3 hxo
      obtain ⟨a4, n4, c4', hv4⟩ := hB3.sl
      rw [hv4] at q2 hB3
      simp only [Nat.zero_mul, Nat.zero_add] at q1 q2
      have hX5 := hX.below hb5
      have lT := hX.lt
      have hsS := hX.sub
      have hBT : ∀ V : Ext, Bsl (w5.ext V) T (.slice a4 n4 c4') x.t := fun V => (hB3.sub (T' := T) (fun k _ hk => .inl (by have := lT k hk; omega))).kp (Kp.of_below (World.below_ext w5 V))
      clear hEn ho4 hr5 hO5 hl1 d1 d2 d3 he' hE3 ho3 hX4 c5 l5 hB3
      have hX0 := hX
      have c5 := hX5.blk.cell
      have l5 := hX5.blk.lt
      have f5 := hX5.blk.frozen
      refine First.wp_region_first_ext [4, 7] [0, 1, 2, 3, 5, 6, 10, 11] [(true, false, 0), (true, false, 1), (true, false, 2), (true, false, 3), (true, true, 4), (true, false, 5), (true, false, 6), (true, true, 7), (false, true, 8), (false, false, 9), (true, false, 10), (true, false, 11), (false, false, 12)] (by kernel_rfl) (by kernel_rfl) (fun V => ?_); simp only [List.map_cons, List.map_nil, List.getD_cons_zero, List.getD_cons_succ]
      have hXV := hX5.below (World.below_ext w5 V)
      (repeat (first | (refine First.wpF_pure (fun K hK => ?_); go_simp; first | (refine hK _ _ ?_; clear hK K) | (apply Exists.intro; refine ⟨fun _ => ?_, hK _ _ ?_⟩; fail)) | (refine First.wpF_free (fun K hK => ?_); go_simp; first | (refine hK _ _ ?_; clear hK K))))
      refine First.wpF_must (fun K hK => ?_)
      go_wp2
      (refine hK _ _ (fun hnd => by first | exact Bool.noConfusion hnd | assumption | with_reducible exact grown_alloc _ _ | with_reducible exact First.Grown.refl _ | with_reducible exact First.Grown.cat _ _ _ | with_reducible exact First.Grown.ext _ _) ?_; clear hK K)
      refine First.wpF_must (fun K hK => ?_)
      go_wp2_with (at_builtin; refine app_ent rfl (.tmp 72) (.tmp 76) rfl T 0 (.slice Al r.log.length cl) r.log ⟨x, .slice a4 n4 c4'⟩ _ rfl rfl hXV.own ⟨hBT V, hxo⟩ (fun k hk => hsS k (hXV.vs k hk)) _ (by simp only [World.size_ext]) rfl (by omega) (Nat.zero_le _) (fun v' w6 ho6 hc6 _ => ?_))
      (refine hK _ _ (fun hnd => by first | exact Bool.noConfusion hnd | assumption | with_reducible exact grown_alloc _ _ | with_reducible exact First.Grown.refl _ | with_reducible exact First.Grown.cat _ _ _ | with_reducible exact First.Grown.ext _ _) ?_; clear hK K)
      obtain ⟨Bl, bl, rfl⟩ : ∃ Bl bl, v' = .slice Bl (r.log.length + 1) bl := by
        obtain ⟨ns, _, ho', _⟩ := ho6
        obtain ⟨A', c', e', _⟩ := own_sl ho'
        exact ⟨A', c', by rw [e', List.length_append]; rfl⟩
      have hB6 : Blk w6 g 95 #[.int .i64 r.id, .int .i64 r.v.e, .int .i64 r.v.p, .slice Am r.v.l.length cm, (.slice Al r.log.length cl), .int .i64 r.joined, .int .i64 (r.sure : Int), .map (some mb), .bool r.act] := (hc6.block g hXV.blk.lt hXV.vg).trans hXV.blk
      have c6 := hB6.cell
      have f6 := hB6.frozen
      have l6 := hB6.lt
      obtain ⟨hX7, hk7, hn7⟩ := hXV.log hc6 _ ho6
      (repeat (first | (refine First.wpF_pure (fun K hK => ?_); go_simp; first | (refine hK _ _ ?_; clear hK K) | (apply Exists.intro; refine ⟨fun _ => ?_, hK _ _ ?_⟩; fail)) | (refine First.wpF_free (fun K hK => ?_); go_simp; first | (refine hK _ _ ?_; clear hK K))))
      refine First.wpF_must (fun K hK => ?_)
      go_wp2
      (refine hK _ _ (fun hnd => by first | exact Bool.noConfusion hnd | assumption | with_reducible exact grown_alloc _ _ | with_reducible exact First.Grown.refl _ | with_reducible exact First.Grown.cat _ _ _ | with_reducible exact First.Grown.ext _ _) ?_; clear hK K)
      refine First.wpF_nil ?_
      go_wp2
      go_ret
      (try rw [hRP])
      refine ⟨_, ⟨hrok', Am, cm, _, mb, hX7.widen (fun k hk => hk.elim (fun h => .inl h) (fun h => h.imp (hX.sub k) id)) (fun k hk => .inr hk)⟩, ((Kp.of_below hb5).trans (Kp.of_below (World.below_ext w5 V))).trans hk7, fun k hk => hk.elim .inl (fun e => (hn7 k e).imp id (fun h => by have := (World.below_ext w5 V).size; have := hb5.size; omega)), ?_⟩
      exact rfl
  · have k2' : (ki == 2) = false := by simp; omega
    rw [if_neg k2, if_neg k3] at hRP
    clear hI hGl hq2
    go_wp2
    go_ret
    (try rw [hRP])
    refine Aft.mk' hok hX2 (Kp.of_below hb02) ?_
    exact rfl
end Go.Proofs.Ytjhcgnmibnjocaa

/-! A relay as its records tell it. -/
namespace Go.Proofs.Ytjhcgnmibnjocaa
open Go.RowKit Go.Maps
set_option linter.unusedVariables false
set_option linter.unusedSimpArgs false
/-- The members stay, the map is new. -/
theorem RelX.remap {w W : World} {S T : Nat → Prop} {g : Nat} {r r1 : Rl} {Am : Option Addr} {cm : Nat} {vl : Value} {mb : Nat} (h : RelX w S T g r Am cm vl mb) (ho : Only w W g) {m1 : Nat} (hB : Blk W g 95 #[.int .i64 r1.id, .int .i64 r1.v.e, .int .i64 r1.v.p, .slice Am r1.v.l.length cm, vl, .int .i64 r1.joined, .int .i64 (r1.sure : Int), .map (some m1), .bool r1.act])
    (e1 : r1.v.l = r.v.l) (e2 : r1.log = r.log) (mp : Mp W m1 r1.acks) (hm : w.heap.size ≤ m1) :
    RelX W (fun k => S k ∨ k = m1) (fun k => T k ∨ k = m1) g r1 Am cm vl m1 := by
  have hk : Kp T w W := Kp.of_only ho (h.sub _ h.g)
  have hg := h.blk.lt
  refine ⟨hB, by rw [e1]; exact Reads.kp h.rd hk h.mt, fun h0 a ha ht => ?_, ?_, fun k hv => .inl (h.vs k hv), mp, .inr rfl, by omega, h.vg, fun hv => ?_, .inl h.g, fun k hs => hs.elim (fun hs => .inl (h.sub k hs)) .inr, fun k ht => ?_⟩
  · rw [e1] at h0
    rcases ht with ht | ht
    · exact h.mt h0 a ha ht
    · obtain ⟨a', e', hl, _⟩ := h.rd.2 h0
      rw [ha] at e'; cases e'
      omega
  · rw [e2]
    exact (h.own.sub (fun k hk ht => ht.elim id (fun e => by omega))).keep (hk.weaken fun k => .inl) (fun k hv hl => ho.block k hl fun e => h.vg (e ▸ hv))
  · have := h.lt _ (h.sub _ (h.vs _ hv)); omega
  · rcases ht with ht | rfl
    · exact Nat.lt_of_lt_of_le (h.lt _ ht) hk.size
    · exact mp.lt
def Loaded (o : Option Rl) (w' : World) (base : Nat) (e : Ending) : Prop := match o with
  | none => e = .returned (.tuple #[.pointer none, .int .i64 200])
  | some r => ∃ g, e = .returned (.tuple #[.pointer (some ⟨g, 0, none⟩), .int .i64 0]) ∧ Rly w' base g (loadedP r)
attribute [local irreducible] First.wpF
set_option maxRecDepth 100000 in
set_option maxHeartbeats 4000000 in
theorem load_no (id : Int) (A : Option Addr) (n c : Nat) (w : World) (h : ¬(0 ≤ id ∧ id < 8)) :
    Calls Try.prog 30 #[.int .i64 id, .slice A n c] w fun e w' => e = .returned (.tuple #[.pointer none, .int .i64 1]) ∧ Below w.heap.size w w' := by
  have hN := rnew_no id w h
  go_enter Try.func30, Try.ntmps30
  go_wp2_with (go_at_call 9; (with_reducible refine hN.mono ?_); rintro e w1 ⟨rfl, rfl⟩)
  refine bodyPost_ret (v := .tuple #[.pointer none, .int .i64 1]) (by simp [results, Try.results30, go_sem] <;> rfl) rfl ?_
  exact ⟨rfl, Below.refl _ _⟩
set_option maxRecDepth 100000 in
set_option maxHeartbeats 4000000 in
theorem load_any {T0 : Nat → Prop} (id : Int) (A : Option Addr) (n c : Nat) (l : List (List Nat)) (w : World) (h : 0 ≤ id ∧ id < 8) (hR : Recs w T0 A n l) (hT0 : ∀ k, w.heap.size ≤ k → T0 k) (hn : n ≤ 9223372036854775807) (hb : ∀ b ∈ l, b.length ≤ 1000000) :
    Calls Try.prog 30 #[.int .i64 id, .slice A n c] w fun e w' => Below w.heap.size w w' ∧ Loaded (restores (newP id) l) w' w.heap.size e := by
  have hN := rnew_yes id w h
  have hmm := @run_makeMap Try.prog
  obtain ⟨RS, hRS⟩ : ∃ RS, RS = restores (newP id) l := ⟨_, rfl⟩
  rw [← hRS]
  go_enter Try.func30, Try.ntmps30
  go_wp2_with (go_at_call 9; (with_reducible refine hN.mono ?_); rintro e w1 ⟨rfl, hX1, hb1⟩)
  have hR1 : Rly w1 w.heap.size (w.heap.size + 1) (newP id) := ⟨_, _, ⟨newP_ok h, _, _, _, _, hX1⟩, fun k hk => by omega⟩
  clear hX1 hN
  generalize w.heap.size + 1 = g at *
  go_loopw [20] (fun vi wr => ∃ (j : Nat) (r : Rl), j ≤ n ∧ vi = .int .i64 (j : Int) ∧ Rly wr w.heap.size g r ∧ RS = restores r (l.drop j) ∧ Below w.heap.size w wr) (fun vi _ => ((n : Int) - intOf vi).toNat)
  case atStart => exact ⟨0, newP id, by omega, rfl, hR1, hRS, hb1⟩
  case round =>
    clear hR1 hRS hb1
    obtain ⟨j, r, hj, rfl, hRl, hE, hbo⟩ := hrel
    obtain ⟨wo, rfl⟩ : ∃ wo : World, wo = wr := ⟨_, rfl⟩
    have hso := hbo.size
    obtain ⟨S, T, hW, hT⟩ := hRl
    by_cases hlt : j < n
    · have hlj : (j : Int) < n := by omega
      obtain ⟨⟨ms, hms, hr, hm⟩, hln, hnt⟩ := hR
      obtain ⟨b, o, rfl, hbl, hcc⟩ := hr.plain (by omega) (by omega)
      have hml : ms.length = n := by rw [← hln, ← hms, List.length_map]
      have hjm : j < ms.length := by omega
      have hg : ms[j]? = some (ms[j]'hjm) := List.getElem?_eq_getElem hjm
      have hB := hm _ (List.getElem_mem hjm)
      have m1 : wo.cell? ⟨b, o + j, none⟩ = some (ms[j]'hjm).2 := by
        rw [hbo.cell (p := ⟨b, o + j, none⟩) hbl]
        exact hcc _ _ (by rw [List.getElem?_map, hg]; rfl)
      have hdr : l.drop j = (ms[j]'hjm).1 :: l.drop (j + 1) := by
        have hlt2 : j < l.length := by omega
        rw [List.drop_eq_getElem_cons hlt2]
        congr 1
        have : l[j]? = some (ms[j]'hjm).1 := by rw [← hms, List.getElem?_map, hg]; rfl
        rw [List.getElem?_eq_getElem hlt2] at this
        exact Option.some.inj this
      have hbn := hb (ms[j]'hjm).1 (by rw [← hms]; exact List.mem_map_of_mem (List.getElem_mem hjm))
      generalize ms[j]'hjm = y at *
      obtain ⟨bs, u⟩ := y
      simp only at hB m1 hdr hbn
      have hBo := hB.kp (Kp.of_below hbo)
      have hRes := restore_any u bs wo hW hBo hbn
      rw [hdr] at hE
      unfold restores at hE
      obtain ⟨uA, un, uc, hu⟩ := hB.sl
      have hbw : b < wo.heap.size := by omega
      rw [hu] at m1 hRes
      clear hr hm hcc hg hms hB hBo
      rcases hrp : restoreP r bs with _ | r'
      · rw [hrp] at hRes
        have hE' : RS = none := by rw [hE, hrp]
        clear hE
        simp only [Option.isSome_none, Option.getD_none] at hRes
        go_wp2_with (go_at_call 75; (with_reducible refine hRes.mono ?_); rintro e w5 hA5; obtain ⟨_, hb5, _, rfl⟩ := hA5.rly (base := w.heap.size) hW hT hso)
        refine bodyPost_ret (v := .tuple #[.pointer none, .int .i64 200]) (by simp [results, Try.results30, go_sem] <;> rfl) rfl ?_
        rw [hE']
        exact ⟨hbo.trans hb5, rfl⟩
      · rw [hrp] at hRes hE
        simp only [Option.isSome_some, Option.getD_some] at hRes hE
        have hE' := hide hE
        clear hE
        go_wp2_with (go_at_call 75; (with_reducible refine hRes.mono ?_); rintro e w5 hA5; obtain ⟨hR5, hb5, _, rfl⟩ := hA5.rly (base := w.heap.size) hW hT hso)
        go_roundw
        case rel => exact ⟨j + 1, r', by omega, by go_num, hR5, hE'.out, hbo.trans hb5⟩
        case measure => simp [intOf]; omega
    · obtain rfl : j = n := by omega
      rw [List.drop_eq_nil_of_le (by rw [hR.len]; omega)] at hE
      simp only [restores] at hE
      have hE' := hide hE
      clear hE
      obtain ⟨hok, Am, cm, vl, mb, hX⟩ := hW
      have hXo := hX.own
      obtain ⟨ms0, _, hown0, _⟩ := hXo
      obtain ⟨Al, cl, hvl, _⟩ := own_sl hown0
      clear hown0
      subst hvl
      have c0 := hX.blk.cell
      have f0 := hX.blk.frozen
      have l0 := hX.blk.lt
      have hoA : Only wo ((((wo.setCell ⟨g, 6, none⟩ (.int .i64 0)).setCell ⟨g, 8, none⟩ (.bool false)).setCell ⟨g, 7, none⟩ (.map (some wo.heap.size))).alloc (Obj.map #[] 0)) g := (((Only.setCell wo g 6 _).trans (Only.setCell _ g 8 _)).trans (Only.setCell _ g 7 _)).alloc _
      have hXA : RelX ((((wo.setCell ⟨g, 6, none⟩ (.int .i64 0)).setCell ⟨g, 8, none⟩ (.bool false)).setCell ⟨g, 7, none⟩ (.map (some wo.heap.size))).alloc (Obj.map #[] 0)) (fun k => S k ∨ k = wo.heap.size) (fun k => T k ∨ k = wo.heap.size) g { r with sure := 0, act := false, acks := [] } Am cm (.slice Al r.log.length cl) wo.heap.size :=
        hX.remap hoA ((((hX.blk.set_ 6 (.int .i64 0)).set_ 8 (.bool false)).set_ 7 (.map (some wo.heap.size))).alloc _) rfl rfl (by
          have := Mp.made (((wo.setCell ⟨g, 6, none⟩ (.int .i64 0)).setCell ⟨g, 8, none⟩ (.bool false)).setCell ⟨g, 7, none⟩ (.map (some wo.heap.size)))
          simpa using this) (Nat.le_refl _)
      go_upto_region 11 with fail
      refine abstr (fun W => RelX W (fun k => S k ∨ k = wo.heap.size) (fun k => T k ∨ k = wo.heap.size) g { r with sure := 0, act := false, acks := [] } Am cm (.slice Al r.log.length cl) wo.heap.size ∧ Only wo W g) ⟨hXA, hoA⟩ (fun W hW => ?_)
      obtain ⟨hX1, ho1⟩ := hW
      have hgb : w.heap.size ≤ g := hT _ (hX.sub _ hX.g)
      have hid := hok.id
      have hln := hok.n
      obtain ⟨r1, hr1⟩ : ∃ r1 : Rl, r1 = { r with sure := 0, act := false, acks := [] } := ⟨_, rfl⟩
      have hok1 : r1.ok := by rw [hr1]; exact ⟨hok.id, hok.v, hok.n, hok.log, hok.j, by simp, (fun x hx => by cases hx), List.nodup_nil⟩
      have hLP : loadedP r = settleP (if r1.leads then { r1 with acks := ackedL r1.id r1.log.length [] } else r1) := by rw [hr1]; rfl
      have hlok := loaded_ok hok
      have hT1 : ∀ k, (T k ∨ k = wo.heap.size) → w.heap.size ≤ k := fun k hk => hk.elim (hT k) (fun e => by omega)
      have hlog : r.log.length = r1.log.length := by rw [hr1]
      rw [← hr1] at hX1
      have hbW : Below w.heap.size w W := hbo.trans (ho1.below hgb hso)
      generalize hm1 : wo.heap.size = mw at *
      have hr1' := hide hr1
      clear hXA hoA hX c0 f0 l0 hr1 hm1
      have hLd := leads_any W hX1
      rcases hl : r1.leads with _ | _
      · rw [hl] at hLd hLP
        simp only [Bool.false_eq_true, if_false] at hLP
        go_wp2_with (first | (go_at_call 44; (with_reducible refine hLd.mono ?_); rintro e w2 ⟨rfl, hb2⟩; have hX2 := hX1.below hb2) | (go_at_call 46; (with_reducible refine (settle_any w2 hX2 hok1).mono ?_); rintro e w3 ⟨rfl, hX3, ho3⟩))
        refine bodyPost_ret (v := .tuple #[.pointer (some ⟨g, 0, none⟩), .int .i64 0]) (by simp [results, Try.results30, go_sem] <;> rfl) rfl ?_
        rw [hE'.out]
        have hs2 := hb2.size
        refine ⟨(hbW.trans (hb2.mono hbW.size)).trans (ho3.below hgb (by have := hbW.size; omega)), g, rfl, (fun k => S k ∨ k = mw), (fun k => T k ∨ k = mw), ⟨hlok, Am, cm, (.slice Al r.log.length cl), mw, ?_⟩, hT1⟩
        rw [hLP]
        exact hX3
      · rw [hl] at hLd hLP
        simp only [if_true] at hLP
        go_upto_region 12 with (go_at_call 44; (with_reducible refine hLd.mono ?_); rintro e w2 ⟨rfl, hb2⟩; have hX2 := hX1.below hb2)
        have c2 := hX2.blk.cell
        have l2 := hX2.blk.lt
        have hs2 := hb2.size
        refine First.wp_region_first_ext [3, 7, 11] [0, 1, 2, 4, 5, 6, 8, 9, 10, 12] [(true, false, 0), (true, false, 1), (true, false, 2), (true, true, 3), (true, false, 4), (true, false, 5), (true, false, 6), (true, true, 7), (true, false, 8), (true, false, 9), (true, false, 10), (true, true, 11), (true, false, 12), (false, false, 13)] (by kernel_rfl) (by kernel_rfl) (fun X => ?_); simp only [List.map_cons, List.map_nil, List.getD_cons_zero, List.getD_cons_succ]
        have hmp : Mp (w2.ext X) mw [] := by
          have := hX2.mp.kp (Kp.of_below (S := fun _ => False) (World.below_ext w2 X)) (fun h => h)
          rwa [show r1.acks = [] by rw [hr1'.out]] at this
        (repeat (first | (refine First.wpF_pure (fun K hK => ?_); go_simp; first | (refine hK _ _ ?_; clear hK K) | (apply Exists.intro; refine ⟨fun _ => ?_, hK _ _ ?_⟩; fail)) | (refine First.wpF_free (fun K hK => ?_); go_simp; first | (refine hK _ _ ?_; clear hK K))))
        refine First.wpF_must (fun K hK => ?_)
        go_wp2_with (at_mapUpdate; refine wpList_put rfl _ _ _ rfl mw [] rfl hmp r1.id r1.log.length rfl rfl (by have := hok1.id; unfold I64; omega) (by have := hok1.n; omega) (by simp) List.nodup_nil (fun w5 hm5 ho5 => ?_))
        (refine hK _ _ (fun hnd => by first | exact Bool.noConfusion hnd | assumption | with_reducible exact grown_alloc _ _ | with_reducible exact First.Grown.refl _ | with_reducible exact First.Grown.cat _ _ _ | with_reducible exact First.Grown.ext _ _) ?_; clear hK K)
        refine First.wpF_nil ?_
        have hX5 : RelX w5 (fun k => S k ∨ k = mw) (fun k => T k ∨ k = mw) g { r1 with acks := ackedL r1.id r1.log.length [] } Am cm (.slice Al r.log.length cl) mw := (hX2.below (World.below_ext w2 X)).acks ho5 hm5 rfl
        have hok5 : ({ r1 with acks := ackedL r1.id r1.log.length [] } : Rl).ok := ⟨hok1.id, hok1.v, hok1.n, hok1.log, hok1.j, hok1.s, acked_ok (fun x hx => by cases hx) hok1.n hok1.id, acked_nodup List.nodup_nil⟩
        have hmb : w.heap.size ≤ mw := hT1 mw (.inr rfl)
        have hb05 : Below w.heap.size w w5 := ((hbW.trans (hb2.mono hbW.size)).trans ((World.below_ext w2 X).mono (by have := hbW.size; omega))).trans (ho5.below hmb (by have := hbW.size; simp only [World.size_ext]; omega))
        have hcs := settle_any w5 hX5 hok5
        go_wp2_with (go_at_call 46; (with_reducible refine hcs.mono ?_); rintro e w6 ⟨rfl, hX6, ho6⟩)
        refine bodyPost_ret (v := .tuple #[.pointer (some ⟨g, 0, none⟩), .int .i64 0]) (by simp [results, Try.results30, go_sem] <;> rfl) rfl ?_
        rw [hE'.out]
        refine ⟨hb05.trans (ho6.below hgb hb05.size), g, rfl, (fun k => S k ∨ k = mw), (fun k => T k ∨ k = mw), ⟨hlok, Am, cm, (.slice Al r.log.length cl), mw, ?_⟩, hT1⟩
        rw [hLP]
        exact hX6
end Go.Proofs.Ytjhcgnmibnjocaa

/-! A relay's log, one entry of it. -/
namespace Go.Proofs.Ytjhcgnmibnjocaa
open Go.RowKit Go.Maps
set_option linter.unusedVariables false
set_option linter.unusedSimpArgs false
attribute [local irreducible] First.wpF
/-- A row of one entry. -/
theorem ownE_one {w : World} {base c : Nat} {A : Option Addr} {x : Ent} (h : OwnE w (Old base (.slice A 1 c)) base (.slice A 1 c) [x]) :
    ∃ (b : Nat) (m : Em), A = some ⟨b, 0, none⟩ ∧ m.x = x ∧ x.ok ∧ Bsl w (Old base (.slice A 1 c)) m.v x.t ∧ w.cell? ⟨b, 0, none⟩ = some (.int .i64 x.e) ∧ w.cell? ⟨b, 1, none⟩ = some m.v ∧ base ≤ b ∧ b < w.heap.size := by
  obtain ⟨ms, hms, ho, hE⟩ := h
  obtain ⟨m, rfl⟩ : ∃ m, ms = [m] := by
    cases ms with
    | nil => cases hms
    | cons a l =>
      cases l with
      | nil => exact ⟨a, rfl⟩
      | cons b l => cases hms
  simp only [List.map_cons, List.map_nil, List.cons.injEq, and_true] at hms
  have hone : [x].length = 1 := rfl
  rw [hone] at ho
  obtain ⟨b, rfl⟩ := own_some ho (show 0 < 1 by omega)
  obtain ⟨hB, hok⟩ := hE m (by simp)
  obtain ⟨q1, _, ql⟩ := own_cellE ho (emV_get (ms := [m]) (i := 0) (m := m) rfl).1
  obtain ⟨q2, _, _⟩ := own_cellE ho (emV_get (ms := [m]) (i := 0) (m := m) rfl).2
  rw [hms] at q1 hB hok
  simp only [Nat.zero_mul, Nat.zero_add] at q1 q2
  exact ⟨b, m, rfl, hms, hok, hB, q1, q2, (own_addr ho _ rfl).1, ql⟩
set_option maxRecDepth 100000 in
set_option maxHeartbeats 4000000 in
theorem rlog_any {S T : Nat → Prop} {g : Nat} {r : Rl} (w : World) (h : RelW w S T g r) :
    Calls Try.prog 23 #[.pointer (some ⟨g, 0, none⟩)] w fun e w' => ∃ A1 c1, e = .returned (.slice A1 r.log.length c1) ∧ OwnE w' (Old w.heap.size (.slice A1 r.log.length c1)) w.heap.size (.slice A1 r.log.length c1) r.log ∧ Below w.heap.size w w' := by
  obtain ⟨hok, Am, cm, vl, mb, hX⟩ := h
  have hXo := hX.own
  obtain ⟨ms0, _, hown0, _⟩ := hXo
  obtain ⟨Al, cl, hvl, _⟩ := own_sl hown0
  clear hown0
  subst hvl
  have htw := twins_any Al r.log.length cl r.log w hX.ents hok.n
  have c0 := hX.blk.cell
  have l0 := hX.blk.lt
  go_enter Try.func23, Try.ntmps23
  go_wp2_with (go_at_call 48; (with_reducible refine htw.mono ?_); rintro e w2 ⟨A3, c3, rfl, hO3, hb3⟩)
  go_ret
  exact ⟨A3, c3, rfl, hO3, hb3⟩
set_option maxRecDepth 100000 in
set_option maxHeartbeats 4000000 in
theorem rentry_no {S T : Nat → Prop} {g : Nat} {r : Rl} (i : Int) (w : World) (h : RelW w S T g r) (hi : i < 0 ∨ (r.log.length : Int) ≤ i) :
    Calls Try.prog 80 #[.pointer (some ⟨g, 0, none⟩), .int .i64 i] w fun e w' => e = .returned (.tuple #[.agg #[.int .i64 0, .slice none 0 0], .bool false]) ∧ Below w.heap.size w w' := by
  obtain ⟨hok, Am, cm, vl, mb, hX⟩ := h
  have hXo := hX.own
  obtain ⟨ms0, _, hown0, _⟩ := hXo
  obtain ⟨Al, cl, hvl, _⟩ := own_sl hown0
  clear hown0
  subst hvl
  have c0 := hX.blk.cell
  have l0 := hX.blk.lt
  have hZ := Blk.new w 103 #[.int .i64 0, .slice none 0 0]
  rcases hi with hi | hi
  · have d0 : decide (i < 0) = true := by simpa using hi
    clear hi
    go_enter Try.func80, Try.ntmps80
    go_wp2
    refine bodyPost_cell_tmp Try.results80 rfl hZ Try.underlying103 rfl (by kernel_rfl) rfl ⟨rfl, ?_⟩
    (repeat' (first | with_reducible exact Below.refl _ _ | with_reducible refine Below.ext ?_ ?_ _ | with_reducible refine Below.alloc ?_ ?_ _ | with_reducible refine Below.setCell ?_ ?_ _ | with_reducible refine Below.drew ?_ | with_reducible assumption | (simp [World.size_ext]; done) | (simp [World.size_ext]; omega)))
  · have d0 : decide (i < 0) = false := by simp; omega
    have d1 : decide ((r.log.length : Int) ≤ i) = true := by simpa using hi
    clear hi
    go_enter Try.func80, Try.ntmps80
    go_wp2
    refine bodyPost_cell_tmp Try.results80 rfl hZ Try.underlying103 rfl (by kernel_rfl) rfl ⟨rfl, ?_⟩
    (repeat' (first | with_reducible exact Below.refl _ _ | with_reducible refine Below.ext ?_ ?_ _ | with_reducible refine Below.alloc ?_ ?_ _ | with_reducible refine Below.setCell ?_ ?_ _ | with_reducible refine Below.drew ?_ | with_reducible assumption | (simp [World.size_ext]; done) | (simp [World.size_ext]; omega)))
set_option maxRecDepth 100000 in
set_option maxHeartbeats 4000000 in
theorem rentry_yes {S T : Nat → Prop} {g : Nat} {r : Rl} (k : Nat) (x : Ent) (w : World) (h : RelW w S T g r) (hk : r.log[k]? = some x) :
    Calls Try.prog 80 #[.pointer (some ⟨g, 0, none⟩), .int .i64 (k : Int)] w fun e w' => ∃ u, e = .returned (.tuple #[.agg #[.int .i64 x.e, u], .bool true]) ∧ Bsl w' (fun k => k < w.heap.size) u x.t ∧ Below w.heap.size w w' := by
  obtain ⟨hok, Am, cm, vl, mb, hX⟩ := h
  have hkl : k < r.log.length := (List.getElem?_eq_some_iff.1 hk).1
  have hXo := hX.own
  obtain ⟨ms0, _, hown0, _⟩ := hXo
  obtain ⟨Al, cl, hvl, hcl⟩ := own_sl hown0
  subst hvl
  obtain ⟨bl, hbl⟩ := own_some hown0 (by omega)
  clear hown0
  subst hbl
  have c0 := hX.blk.cell
  have l0 := hX.blk.lt
  have hZ := Blk.new w 103 #[.int .i64 0, .slice none 0 0]
  have d0 : decide ((k : Int) < 0) = false := by simp
  have d1 : decide ((r.log.length : Int) ≤ k) = false := by simp; omega
  have d1' : decide (r.log.length ≤ k) = false := by simp; omega
  have hn := hok.n
  have hwr : IntKind.i64.wrap ((k : Int) + 1) = (k : Int) + 1 := IntWalk.i64_in _ (by omega)
  have zi : (0 : Int) ≤ k := by omega
  have zj : (k : Int) ≤ k + 1 := by omega
  have zc : (k : Int) + 1 ≤ cl := by omega
  have hE0 := hX.ents.part hk
  rw [Nat.zero_add] at hE0
  have hbA : Below w.heap.size w (w.alloc (.cells #[.int .i64 0, .slice none 0 0] 103)) := Below.alloc (Below.refl _ _) (Nat.le_refl _) _
  have htw := twins_any (some ⟨bl, k * 2, none⟩) 1 (cl - k) [x] _ (hE0.kp (Kp.of_below hbA)) (by omega)
  go_enter Try.func80, Try.ntmps80
  go_wp2_with (go_at_call 48; (with_reducible refine htw.mono ?_); rintro e w2 ⟨A3, c3, rfl, hO3, hb2⟩; obtain ⟨b3, m3, hA3, hms3, hok3, hB3, q1, q2, hb3n, hl3⟩ := ownE_one hO3; subst hA3; obtain ⟨a4, n4, c4, hv4⟩ := hB3.sl; rw [hv4] at q2; have hZ2 := hZ.below hb2 hZ.lt; have cZ := hZ2.cell; have fZ := hZ2.frozen; have lZ := hZ2.lt)
  have hs2 := hb2.size
  simp only [World.size_alloc] at hs2
  refine bodyPost_cell_tmp Try.results80 rfl (Blk.two hZ2) Try.underlying103 rfl (by kernel_rfl) rfl ⟨_, rfl, ?_, ?_⟩
  · rw [hv4] at hB3
    have h0 := hB3.sub (T' := fun k => k < w.heap.size + 1) (fun k _ hk => .inl (by simp; exact hk))
    exact (h0.kp (((Kp.put w2 w.heap.size 0 _).trans (Kp.put _ w.heap.size 1 _)).weaken (fun k hk => by omega))).sub fun k _ hk => by omega
  · exact (hbA.trans (hb2.mono (by simp))).trans (Kp.below ((Kp.put w2 w.heap.size 0 _).trans (Kp.put _ w.heap.size 1 _)) (by omega) (fun k hk => by omega))
end Go.Proofs.Ytjhcgnmibnjocaa

/-! A relay's records. -/
namespace Go.Proofs.Ytjhcgnmibnjocaa
open Go.RowKit Go.Maps
set_option linter.unusedVariables false
set_option linter.unusedSimpArgs false
attribute [local irreducible] First.wpF
theorem OwnR.sl {w : World} {T : Nat → Prop} {base : Nat} {v : Value} {l : List (List Nat)} (h : OwnR w T base v l) : ∃ A c, v = .slice A l.length c := by
  obtain ⟨ms, _, ho, _⟩ := h
  obtain ⟨A, c, e, _⟩ := own_sl ho
  exact ⟨A, c, e⟩
theorem ownR_ge {w : World} {T : Nat → Prop} {base : Nat} {v : Value} {l : List (List Nat)} (h : OwnR w T base v l) : ∀ k, v.ownBlock = some k → base ≤ k ∧ k < w.heap.size := fun k hk => by
  obtain ⟨ms, _, ho, _⟩ := h
  obtain ⟨A, c, rfl, _⟩ := own_sl ho
  cases A with
  | none => cases hk
  | some ad => cases hk; exact own_addr ho _ rfl
set_option maxRecDepth 100000 in
set_option maxHeartbeats 4000000 in
theorem rsave_any {S T : Nat → Prop} {g : Nat} {r : Rl} (w : World) (h : RelW w S T g r) :
    Calls Try.prog 22 #[.pointer (some ⟨g, 0, none⟩)] w fun e w' => ∃ A c, e = .returned (.slice A (saveP r).length c) ∧ Recs w' (fun k => k < w.heap.size) A (saveP r).length (saveP r) ∧ Below w.heap.size w w' := by
  obtain ⟨hok, Am, cm, vl, mb, hX⟩ := h
  have hXo := hX.own
  obtain ⟨ms0, _, hown0, _⟩ := hXo
  obtain ⟨Al, cl, hvl, hcl⟩ := own_sl hown0
  clear hown0
  subst hvl
  have c0 := hX.blk.cell
  have l0 := hX.blk.lt
  have hj := hok.j
  have hji : I64 r.joined := by unfold I64; omega
  have hrl := fun W h => recLog_any (T := fun _ => False) r.joined Al r.log.length cl r.log W h hok.n hji
  have hrb := recLog_by hji hok.log hok.n
  obtain ⟨SP, hSP⟩ : ∃ SP, SP = saveP r := ⟨_, rfl⟩
  rw [← hSP]
  unfold saveP at hSP
  obtain ⟨R2, hR2⟩ : ∃ R2, R2 = if 0 < r.log.length ∨ 0 < r.joined then [recLogP r.joined r.log] else [] := ⟨_, rfl⟩
  rw [← hR2] at hSP
  by_cases hv : 0 < r.v.e
  · have d1 : decide ((0 : Int) < r.v.e) = true := by simpa using hv
    have hvr : r.v.right = true := by
      rcases hok.v with e | e
      · rw [e] at hv; exact absurd hv (by decide)
      · exact e
    have hpb := recPromise_by hvr
    rw [if_pos hv] at hSP
    have hSP' := hide hSP
    clear hv hSP
    go_enter Try.func22, Try.ntmps22
    go_upto_region 6 with (first | (go_at_call 43; (with_reducible refine (recPromise_any Am cm r.v w hX.rd hvr).mono ?_); rintro e w1 ⟨u1, rfl, hu1, hb1⟩; obtain ⟨uA, un, uc, rfl⟩ := hu1.shape; have hbs1 : Bsl w1 (fun k => k < w.heap.size ∨ (Value.slice none 0 0).ownBlock = some k) (.slice uA un uc) (recPromiseP r.v) := (Bsl.row hu1 (T := fun k => k < w.heap.size) (fun k hk => hk) hpb).sub (fun k _ hk => hk.elim id (fun e => by cases e))) | (at_builtin; refine app_rec rfl (.tmp 12) (.tmp 18) rfl (fun k => k < w.heap.size) w.heap.size (.slice none 0 0) [] (recPromiseP r.v, .slice uA un uc) _ rfl rfl (OwnR.nil _ _ _) hbs1 _ rfl rfl (by simp) (by have := hb1.size; omega) (fun v' w2 hR2' hc2 hk2 => ?_)))
    have hb02 : Below w.heap.size w w2 := hb1.trans (hc2.low (base := w.heap.size) (fun k hk => by cases hk) hb1.size)
    rw [List.nil_append] at hR2'
    refine abstr (fun W => Below w.heap.size w W ∧ OwnR W (fun k => k < w.heap.size) w.heap.size v' [recPromiseP r.v]) ⟨hb02, hR2'⟩ (fun W hW => ?_)
    clear hb1 hu1 hbs1 hc2 hk2 hb02 hR2'
    obtain ⟨hbW, hRW⟩ := hW
    have hL1 : Hid (([recPromiseP r.v] : List (List Nat)).length ≤ 1) := hide (by simp)
    generalize [recPromiseP r.v] = L1 at *
    generalize v' = v1 at *
    have hXW := hX.below hbW
    have cW := hXW.blk.cell
    have lW := hXW.blk.lt
    have hgl := hX.blk.lt
    have hsW := hbW.size
    by_cases hl : 0 < r.log.length ∨ 0 < r.joined
    · rw [if_pos hl] at hR2
      have hR2' := hide hR2
      clear hR2
      obtain ⟨vA, vc, hvs⟩ := hRW.sl
      subst hvs
      by_cases hl0 : 0 < r.log.length
      · have d2 : decide ((0 : Int) < r.log.length) = true := decide_eq_true (by omega)
        have d2' : decide (0 < r.log.length) = true := decide_eq_true hl0
        clear hl hl0
        go_upto_region 7 with fail
        refine wp_region_kp (fun k => w.heap.size ≤ k) [4, 8] [0, 1, 2, 3, 5, 6, 7] [(true, false, 0), (true, false, 1), (true, false, 2), (true, false, 3), (true, true, 4), (true, false, 5), (true, false, 6), (true, false, 7), (true, true, 8), (false, false, 9), (false, false, 10), (false, false, 11), (false, false, 12)] (by kernel_rfl) (by kernel_rfl) (fun X => ?_); simp only [List.map_cons, List.map_nil, List.getD_cons_zero, List.getD_cons_succ]
        have hXX := hXW.below (World.below_ext W X)
        have hBX := hXX.blk
        have ng : ¬(w.heap.size ≤ g) := by omega
        have hEX : Ents (W.ext X) (fun _ => False) Al r.log.length r.log := hXX.ents
        have hRX := hRW.below (World.below_ext W X)
        have hsX := (World.below_ext W X).size
        (repeat (first | (refine First.wpF_pure (fun K hK => ?_); go_simp; first | (refine hK _ _ ?_; clear hK K) | (apply Exists.intro; refine ⟨fun _ => ?_, hK _ _ ?_⟩; fail)) | (refine First.wpF_free (fun K hK => ?_); go_simp; first | (refine hK _ _ ?_; clear hK K))))
        (refine first_readG rfl (v := .int .i64 r.joined) (fun w' hw' => ?_) (fun K hK => ?_); rotate_left 1; go_simp; refine hK _ _ ?_; clear hK K; rotate_left 1; (have hB' := Blk.kp hBX hw' ng; have c' := Blk.cell hB'; go_simp))
        (repeat (first | (refine First.wpF_pure (fun K hK => ?_); go_simp; first | (refine hK _ _ ?_; clear hK K) | (apply Exists.intro; refine ⟨fun _ => ?_, hK _ _ ?_⟩; fail)) | (refine First.wpF_free (fun K hK => ?_); go_simp; first | (refine hK _ _ ?_; clear hK K))))
        (refine first_readG rfl (v := .slice Al r.log.length cl) (fun w' hw' => ?_) (fun K hK => ?_); rotate_left 1; go_simp; refine hK _ _ ?_; clear hK K; rotate_left 1; (have hB' := Blk.kp hBX hw' ng; have c' := Blk.cell hB'; go_simp))
        (repeat (first | (refine First.wpF_pure (fun K hK => ?_); go_simp; first | (refine hK _ _ ?_; clear hK K) | (apply Exists.intro; refine ⟨fun _ => ?_, hK _ _ ?_⟩; fail)) | (refine First.wpF_free (fun K hK => ?_); go_simp; first | (refine hK _ _ ?_; clear hK K))))
        refine First.wpF_must (fun K hK => ?_)
        go_wp2_with (go_at_call 54; (with_reducible refine (hrl _ hEX).mono ?_); rintro e w5 ⟨u5, rfl, hu5, hb5⟩; obtain ⟨uA5, un5, uc5, rfl⟩ := hu5.shape)
        (refine hK _ _ (fun _ => Kp.of_below hb5) ?_; clear hK K)
        have hs5 := hb5.size
        have hR5 := hRX.below hb5
        have hge := ownR_ge hR5
        have hgeX := ownR_ge hRX
        have hbs5 : Bsl w5 (fun k => k < w.heap.size ∨ (Value.slice vA L1.length vc).ownBlock = some k) (.slice uA5 un5 uc5) (recLogP r.joined r.log) := (Bsl.row hu5 (fun k hk => hk) hrb).sub (fun k _ hk => hk.elim (fun h => by omega) (fun e => by have := (hgeX k e).2; omega))
        (repeat (first | (refine First.wpF_pure (fun K hK => ?_); go_simp; first | (refine hK _ _ ?_; clear hK K) | (apply Exists.intro; refine ⟨fun _ => ?_, hK _ _ ?_⟩; fail)) | (refine First.wpF_free (fun K hK => ?_); go_simp; first | (refine hK _ _ ?_; clear hK K))))
        refine First.wpF_must (fun K hK => ?_)
        go_wp2
        (refine hK _ _ (fun _ => Kp.of_below (Below.alloc (Below.refl _ _) (Nat.le_refl _) _)) ?_; clear hK K)
        (repeat (first | (refine First.wpF_pure (fun K hK => ?_); go_simp; first | (refine hK _ _ ?_; clear hK K) | (apply Exists.intro; refine ⟨fun _ => ?_, hK _ _ ?_⟩; fail)) | (refine First.wpF_free (fun K hK => ?_); go_simp; first | (refine hK _ _ ?_; clear hK K))))
        refine First.wpF_must (fun K hK => ?_)
        go_wp2_with (at_builtin; refine app_rec rfl (.tmp 33) (.tmp 43) rfl (fun k => k < w.heap.size) w.heap.size (.slice vA L1.length vc) L1 (recLogP r.joined r.log, .slice uA5 un5 uc5) _ rfl rfl hR5 hbs5 _ rfl rfl (by have := hL1.out; omega) (by omega) (fun v' w6 hR6 hc6 hk6 => ?_))
        (refine hK _ _ (fun _ => hk6.weaken (fun k hk => (hge k hk).1)) ?_; clear hK K)
        (repeat (first | (refine First.wpF_pure (fun K hK => ?_); go_simp; first | (refine hK _ _ ?_; clear hK K) | (apply Exists.intro; refine ⟨fun _ => ?_, hK _ _ ?_⟩; fail)) | (refine First.wpF_free (fun K hK => ?_); go_simp; first | (refine hK _ _ ?_; clear hK K))))
        refine First.wpF_must (fun K hK => ?_)
        go_wp2
        (refine hK _ _ (fun _ => Kp.refl _ _) ?_; clear hK K)
        refine First.wpF_nil ?_
        obtain ⟨vA6, vc6, hv6⟩ := hR6.sl
        go_wp2
        go_ret
        subst hv6
        rw [hSP'.out, hR2'.out]
        obtain ⟨A', c', e', hRc⟩ := hR6.recs (T := fun k => k < w.heap.size) (fun k hk ht => by omega)
        simp only [Value.slice.injEq] at e'
        obtain ⟨rfl, -, rfl⟩ := e'
        exact ⟨_, _, rfl, hRc, ((hbW.trans ((World.below_ext W X).mono hsW)).trans (hb5.mono (by omega))).trans (hc6.low (fun k hk => (hge k hk).1) (by omega))⟩
      · have d2 : decide ((0 : Int) < r.log.length) = false := decide_eq_false (by omega)
        have d2' : decide (0 < r.log.length) = false := decide_eq_false hl0
        have d3 : decide ((0 : Int) < r.joined) = true := decide_eq_true (hl.resolve_left hl0)
        clear hl hl0
        go_upto_region 7 with fail
        refine wp_region_kp (fun k => w.heap.size ≤ k) [4, 8] [0, 1, 2, 3, 5, 6, 7] [(true, false, 0), (true, false, 1), (true, false, 2), (true, false, 3), (true, true, 4), (true, false, 5), (true, false, 6), (true, false, 7), (true, true, 8), (false, false, 9), (false, false, 10), (false, false, 11), (false, false, 12)] (by kernel_rfl) (by kernel_rfl) (fun X => ?_); simp only [List.map_cons, List.map_nil, List.getD_cons_zero, List.getD_cons_succ]
        have hXX := hXW.below (World.below_ext W X)
        have hBX := hXX.blk
        have ng : ¬(w.heap.size ≤ g) := by omega
        have hEX : Ents (W.ext X) (fun _ => False) Al r.log.length r.log := hXX.ents
        have hRX := hRW.below (World.below_ext W X)
        have hsX := (World.below_ext W X).size
        (repeat (first | (refine First.wpF_pure (fun K hK => ?_); go_simp; first | (refine hK _ _ ?_; clear hK K) | (apply Exists.intro; refine ⟨fun _ => ?_, hK _ _ ?_⟩; fail)) | (refine First.wpF_free (fun K hK => ?_); go_simp; first | (refine hK _ _ ?_; clear hK K))))
        (refine first_readG rfl (v := .int .i64 r.joined) (fun w' hw' => ?_) (fun K hK => ?_); rotate_left 1; go_simp; refine hK _ _ ?_; clear hK K; rotate_left 1; (have hB' := Blk.kp hBX hw' ng; have c' := Blk.cell hB'; go_simp))
        (repeat (first | (refine First.wpF_pure (fun K hK => ?_); go_simp; first | (refine hK _ _ ?_; clear hK K) | (apply Exists.intro; refine ⟨fun _ => ?_, hK _ _ ?_⟩; fail)) | (refine First.wpF_free (fun K hK => ?_); go_simp; first | (refine hK _ _ ?_; clear hK K))))
        (refine first_readG rfl (v := .slice Al r.log.length cl) (fun w' hw' => ?_) (fun K hK => ?_); rotate_left 1; go_simp; refine hK _ _ ?_; clear hK K; rotate_left 1; (have hB' := Blk.kp hBX hw' ng; have c' := Blk.cell hB'; go_simp))
        (repeat (first | (refine First.wpF_pure (fun K hK => ?_); go_simp; first | (refine hK _ _ ?_; clear hK K) | (apply Exists.intro; refine ⟨fun _ => ?_, hK _ _ ?_⟩; fail)) | (refine First.wpF_free (fun K hK => ?_); go_simp; first | (refine hK _ _ ?_; clear hK K))))
        refine First.wpF_must (fun K hK => ?_)
        go_wp2_with (go_at_call 54; (with_reducible refine (hrl _ hEX).mono ?_); rintro e w5 ⟨u5, rfl, hu5, hb5⟩; obtain ⟨uA5, un5, uc5, rfl⟩ := hu5.shape)
        (refine hK _ _ (fun _ => Kp.of_below hb5) ?_; clear hK K)
        have hs5 := hb5.size
        have hR5 := hRX.below hb5
        have hge := ownR_ge hR5
        have hgeX := ownR_ge hRX
        have hbs5 : Bsl w5 (fun k => k < w.heap.size ∨ (Value.slice vA L1.length vc).ownBlock = some k) (.slice uA5 un5 uc5) (recLogP r.joined r.log) := (Bsl.row hu5 (fun k hk => hk) hrb).sub (fun k _ hk => hk.elim (fun h => by omega) (fun e => by have := (hgeX k e).2; omega))
        (repeat (first | (refine First.wpF_pure (fun K hK => ?_); go_simp; first | (refine hK _ _ ?_; clear hK K) | (apply Exists.intro; refine ⟨fun _ => ?_, hK _ _ ?_⟩; fail)) | (refine First.wpF_free (fun K hK => ?_); go_simp; first | (refine hK _ _ ?_; clear hK K))))
        refine First.wpF_must (fun K hK => ?_)
        go_wp2
        (refine hK _ _ (fun _ => Kp.of_below (Below.alloc (Below.refl _ _) (Nat.le_refl _) _)) ?_; clear hK K)
        (repeat (first | (refine First.wpF_pure (fun K hK => ?_); go_simp; first | (refine hK _ _ ?_; clear hK K) | (apply Exists.intro; refine ⟨fun _ => ?_, hK _ _ ?_⟩; fail)) | (refine First.wpF_free (fun K hK => ?_); go_simp; first | (refine hK _ _ ?_; clear hK K))))
        refine First.wpF_must (fun K hK => ?_)
        go_wp2_with (at_builtin; refine app_rec rfl (.tmp 33) (.tmp 43) rfl (fun k => k < w.heap.size) w.heap.size (.slice vA L1.length vc) L1 (recLogP r.joined r.log, .slice uA5 un5 uc5) _ rfl rfl hR5 hbs5 _ rfl rfl (by have := hL1.out; omega) (by omega) (fun v' w6 hR6 hc6 hk6 => ?_))
        (refine hK _ _ (fun _ => hk6.weaken (fun k hk => (hge k hk).1)) ?_; clear hK K)
        (repeat (first | (refine First.wpF_pure (fun K hK => ?_); go_simp; first | (refine hK _ _ ?_; clear hK K) | (apply Exists.intro; refine ⟨fun _ => ?_, hK _ _ ?_⟩; fail)) | (refine First.wpF_free (fun K hK => ?_); go_simp; first | (refine hK _ _ ?_; clear hK K))))
        refine First.wpF_must (fun K hK => ?_)
        go_wp2
        (refine hK _ _ (fun _ => Kp.refl _ _) ?_; clear hK K)
        refine First.wpF_nil ?_
        obtain ⟨vA6, vc6, hv6⟩ := hR6.sl
        go_wp2
        go_ret
        subst hv6
        rw [hSP'.out, hR2'.out]
        obtain ⟨A', c', e', hRc⟩ := hR6.recs (T := fun k => k < w.heap.size) (fun k hk ht => by omega)
        simp only [Value.slice.injEq] at e'
        obtain ⟨rfl, -, rfl⟩ := e'
        exact ⟨_, _, rfl, hRc, ((hbW.trans ((World.below_ext W X).mono hsW)).trans (hb5.mono (by omega))).trans (hc6.low (fun k hk => (hge k hk).1) (by omega))⟩
    · rw [if_neg hl] at hR2
      have h1 : ¬0 < r.log.length := fun h => hl (.inl h)
      have h2 : ¬0 < r.joined := fun h => hl (.inr h)
      have d2 : decide ((0 : Int) < r.log.length) = false := decide_eq_false (by omega)
      have d2' : decide (0 < r.log.length) = false := decide_eq_false h1
      have d3 : decide ((0 : Int) < r.joined) = false := decide_eq_false h2
      clear h1 h2
      have hR2' := hide hR2
      clear hl hR2
      obtain ⟨vA, vc, hvs⟩ := hRW.sl
      go_wp2
      go_ret
      subst hvs
      rw [hSP'.out, hR2'.out, List.append_nil]
      obtain ⟨A', c', e', hRc⟩ := hRW.recs (T := fun k => k < w.heap.size) (fun k hk ht => by omega)
      simp only [Value.slice.injEq] at e'
      obtain ⟨rfl, -, rfl⟩ := e'
      exact ⟨_, _, rfl, hRc, hbW⟩
  · have d1 : decide ((0 : Int) < r.v.e) = false := by simpa using hv
    rw [if_neg hv] at hSP
    have hSP' := hide hSP
    clear hv hSP
    go_enter Try.func22, Try.ntmps22
    go_upto_region 6 with fail
    obtain ⟨v1, hv1⟩ : ∃ v1 : Value, v1 = .slice none 0 0 := ⟨_, rfl⟩
    have hbW : Below w.heap.size w w := Below.refl _ _
    have hRW : OwnR w (fun k => k < w.heap.size) w.heap.size v1 [] := by rw [hv1]; exact OwnR.nil _ _ _
    rw [← hv1]
    clear hv1
    obtain ⟨L1, hLe⟩ : ∃ L1 : List (List Nat), L1 = [] := ⟨_, rfl⟩
    rw [← hLe] at hSP' hRW
    have hL1 : Hid (L1.length ≤ 1) := hide (by rw [hLe]; simp)
    clear hLe
    refine abstr (fun W => Below w.heap.size w W ∧ OwnR W (fun k => k < w.heap.size) w.heap.size v1 L1) ⟨hbW, hRW⟩ (fun W hW => ?_)
    clear hbW hRW
    obtain ⟨hbW, hRW⟩ := hW
    have hXW := hX.below hbW
    have cW := hXW.blk.cell
    have lW := hXW.blk.lt
    have hgl := hX.blk.lt
    have hsW := hbW.size
    by_cases hl : 0 < r.log.length ∨ 0 < r.joined
    · rw [if_pos hl] at hR2
      have hR2' := hide hR2
      clear hR2
      obtain ⟨vA, vc, hvs⟩ := hRW.sl
      subst hvs
      by_cases hl0 : 0 < r.log.length
      · have d2 : decide ((0 : Int) < r.log.length) = true := decide_eq_true (by omega)
        have d2' : decide (0 < r.log.length) = true := decide_eq_true hl0
        clear hl hl0
        go_upto_region 7 with fail
        refine wp_region_kp (fun k => w.heap.size ≤ k) [4, 8] [0, 1, 2, 3, 5, 6, 7] [(true, false, 0), (true, false, 1), (true, false, 2), (true, false, 3), (true, true, 4), (true, false, 5), (true, false, 6), (true, false, 7), (true, true, 8), (false, false, 9), (false, false, 10), (false, false, 11), (false, false, 12)] (by kernel_rfl) (by kernel_rfl) (fun X => ?_); simp only [List.map_cons, List.map_nil, List.getD_cons_zero, List.getD_cons_succ]
        have hXX := hXW.below (World.below_ext W X)
        have hBX := hXX.blk
        have ng : ¬(w.heap.size ≤ g) := by omega
        have hEX : Ents (W.ext X) (fun _ => False) Al r.log.length r.log := hXX.ents
        have hRX := hRW.below (World.below_ext W X)
        have hsX := (World.below_ext W X).size
        (repeat (first | (refine First.wpF_pure (fun K hK => ?_); go_simp; first | (refine hK _ _ ?_; clear hK K) | (apply Exists.intro; refine ⟨fun _ => ?_, hK _ _ ?_⟩; fail)) | (refine First.wpF_free (fun K hK => ?_); go_simp; first | (refine hK _ _ ?_; clear hK K))))
        (refine first_readG rfl (v := .int .i64 r.joined) (fun w' hw' => ?_) (fun K hK => ?_); rotate_left 1; go_simp; refine hK _ _ ?_; clear hK K; rotate_left 1; (have hB' := Blk.kp hBX hw' ng; have c' := Blk.cell hB'; go_simp))
        (repeat (first | (refine First.wpF_pure (fun K hK => ?_); go_simp; first | (refine hK _ _ ?_; clear hK K) | (apply Exists.intro; refine ⟨fun _ => ?_, hK _ _ ?_⟩; fail)) | (refine First.wpF_free (fun K hK => ?_); go_simp; first | (refine hK _ _ ?_; clear hK K))))
        (refine first_readG rfl (v := .slice Al r.log.length cl) (fun w' hw' => ?_) (fun K hK => ?_); rotate_left 1; go_simp; refine hK _ _ ?_; clear hK K; rotate_left 1; (have hB' := Blk.kp hBX hw' ng; have c' := Blk.cell hB'; go_simp))
        (repeat (first | (refine First.wpF_pure (fun K hK => ?_); go_simp; first | (refine hK _ _ ?_; clear hK K) | (apply Exists.intro; refine ⟨fun _ => ?_, hK _ _ ?_⟩; fail)) | (refine First.wpF_free (fun K hK => ?_); go_simp; first | (refine hK _ _ ?_; clear hK K))))
        refine First.wpF_must (fun K hK => ?_)
        go_wp2_with (go_at_call 54; (with_reducible refine (hrl _ hEX).mono ?_); rintro e w5 ⟨u5, rfl, hu5, hb5⟩; obtain ⟨uA5, un5, uc5, rfl⟩ := hu5.shape)
        (refine hK _ _ (fun _ => Kp.of_below hb5) ?_; clear hK K)
        have hs5 := hb5.size
        have hR5 := hRX.below hb5
        have hge := ownR_ge hR5
        have hgeX := ownR_ge hRX
        have hbs5 : Bsl w5 (fun k => k < w.heap.size ∨ (Value.slice vA L1.length vc).ownBlock = some k) (.slice uA5 un5 uc5) (recLogP r.joined r.log) := (Bsl.row hu5 (fun k hk => hk) hrb).sub (fun k _ hk => hk.elim (fun h => by omega) (fun e => by have := (hgeX k e).2; omega))
        (repeat (first | (refine First.wpF_pure (fun K hK => ?_); go_simp; first | (refine hK _ _ ?_; clear hK K) | (apply Exists.intro; refine ⟨fun _ => ?_, hK _ _ ?_⟩; fail)) | (refine First.wpF_free (fun K hK => ?_); go_simp; first | (refine hK _ _ ?_; clear hK K))))
        refine First.wpF_must (fun K hK => ?_)
        go_wp2
        (refine hK _ _ (fun _ => Kp.of_below (Below.alloc (Below.refl _ _) (Nat.le_refl _) _)) ?_; clear hK K)
        (repeat (first | (refine First.wpF_pure (fun K hK => ?_); go_simp; first | (refine hK _ _ ?_; clear hK K) | (apply Exists.intro; refine ⟨fun _ => ?_, hK _ _ ?_⟩; fail)) | (refine First.wpF_free (fun K hK => ?_); go_simp; first | (refine hK _ _ ?_; clear hK K))))
        refine First.wpF_must (fun K hK => ?_)
        go_wp2_with (at_builtin; refine app_rec rfl (.tmp 33) (.tmp 43) rfl (fun k => k < w.heap.size) w.heap.size (.slice vA L1.length vc) L1 (recLogP r.joined r.log, .slice uA5 un5 uc5) _ rfl rfl hR5 hbs5 _ rfl rfl (by have := hL1.out; omega) (by omega) (fun v' w6 hR6 hc6 hk6 => ?_))
        (refine hK _ _ (fun _ => hk6.weaken (fun k hk => (hge k hk).1)) ?_; clear hK K)
        (repeat (first | (refine First.wpF_pure (fun K hK => ?_); go_simp; first | (refine hK _ _ ?_; clear hK K) | (apply Exists.intro; refine ⟨fun _ => ?_, hK _ _ ?_⟩; fail)) | (refine First.wpF_free (fun K hK => ?_); go_simp; first | (refine hK _ _ ?_; clear hK K))))
        refine First.wpF_must (fun K hK => ?_)
        go_wp2
        (refine hK _ _ (fun _ => Kp.refl _ _) ?_; clear hK K)
        refine First.wpF_nil ?_
        obtain ⟨vA6, vc6, hv6⟩ := hR6.sl
        go_wp2
        go_ret
        subst hv6
        rw [hSP'.out, hR2'.out]
        obtain ⟨A', c', e', hRc⟩ := hR6.recs (T := fun k => k < w.heap.size) (fun k hk ht => by omega)
        simp only [Value.slice.injEq] at e'
        obtain ⟨rfl, -, rfl⟩ := e'
        exact ⟨_, _, rfl, hRc, ((hbW.trans ((World.below_ext W X).mono hsW)).trans (hb5.mono (by omega))).trans (hc6.low (fun k hk => (hge k hk).1) (by omega))⟩
      · have d2 : decide ((0 : Int) < r.log.length) = false := decide_eq_false (by omega)
        have d2' : decide (0 < r.log.length) = false := decide_eq_false hl0
        have d3 : decide ((0 : Int) < r.joined) = true := decide_eq_true (hl.resolve_left hl0)
        clear hl hl0
        go_upto_region 7 with fail
        refine wp_region_kp (fun k => w.heap.size ≤ k) [4, 8] [0, 1, 2, 3, 5, 6, 7] [(true, false, 0), (true, false, 1), (true, false, 2), (true, false, 3), (true, true, 4), (true, false, 5), (true, false, 6), (true, false, 7), (true, true, 8), (false, false, 9), (false, false, 10), (false, false, 11), (false, false, 12)] (by kernel_rfl) (by kernel_rfl) (fun X => ?_); simp only [List.map_cons, List.map_nil, List.getD_cons_zero, List.getD_cons_succ]
        have hXX := hXW.below (World.below_ext W X)
        have hBX := hXX.blk
        have ng : ¬(w.heap.size ≤ g) := by omega
        have hEX : Ents (W.ext X) (fun _ => False) Al r.log.length r.log := hXX.ents
        have hRX := hRW.below (World.below_ext W X)
        have hsX := (World.below_ext W X).size
        (repeat (first | (refine First.wpF_pure (fun K hK => ?_); go_simp; first | (refine hK _ _ ?_; clear hK K) | (apply Exists.intro; refine ⟨fun _ => ?_, hK _ _ ?_⟩; fail)) | (refine First.wpF_free (fun K hK => ?_); go_simp; first | (refine hK _ _ ?_; clear hK K))))
        (refine first_readG rfl (v := .int .i64 r.joined) (fun w' hw' => ?_) (fun K hK => ?_); rotate_left 1; go_simp; refine hK _ _ ?_; clear hK K; rotate_left 1; (have hB' := Blk.kp hBX hw' ng; have c' := Blk.cell hB'; go_simp))
        (repeat (first | (refine First.wpF_pure (fun K hK => ?_); go_simp; first | (refine hK _ _ ?_; clear hK K) | (apply Exists.intro; refine ⟨fun _ => ?_, hK _ _ ?_⟩; fail)) | (refine First.wpF_free (fun K hK => ?_); go_simp; first | (refine hK _ _ ?_; clear hK K))))
        (refine first_readG rfl (v := .slice Al r.log.length cl) (fun w' hw' => ?_) (fun K hK => ?_); rotate_left 1; go_simp; refine hK _ _ ?_; clear hK K; rotate_left 1; (have hB' := Blk.kp hBX hw' ng; have c' := Blk.cell hB'; go_simp))
        (repeat (first | (refine First.wpF_pure (fun K hK => ?_); go_simp; first | (refine hK _ _ ?_; clear hK K) | (apply Exists.intro; refine ⟨fun _ => ?_, hK _ _ ?_⟩; fail)) | (refine First.wpF_free (fun K hK => ?_); go_simp; first | (refine hK _ _ ?_; clear hK K))))
        refine First.wpF_must (fun K hK => ?_)
        go_wp2_with (go_at_call 54; (with_reducible refine (hrl _ hEX).mono ?_); rintro e w5 ⟨u5, rfl, hu5, hb5⟩; obtain ⟨uA5, un5, uc5, rfl⟩ := hu5.shape)
        (refine hK _ _ (fun _ => Kp.of_below hb5) ?_; clear hK K)
        have hs5 := hb5.size
        have hR5 := hRX.below hb5
        have hge := ownR_ge hR5
        have hgeX := ownR_ge hRX
        have hbs5 : Bsl w5 (fun k => k < w.heap.size ∨ (Value.slice vA L1.length vc).ownBlock = some k) (.slice uA5 un5 uc5) (recLogP r.joined r.log) := (Bsl.row hu5 (fun k hk => hk) hrb).sub (fun k _ hk => hk.elim (fun h => by omega) (fun e => by have := (hgeX k e).2; omega))
        (repeat (first | (refine First.wpF_pure (fun K hK => ?_); go_simp; first | (refine hK _ _ ?_; clear hK K) | (apply Exists.intro; refine ⟨fun _ => ?_, hK _ _ ?_⟩; fail)) | (refine First.wpF_free (fun K hK => ?_); go_simp; first | (refine hK _ _ ?_; clear hK K))))
        refine First.wpF_must (fun K hK => ?_)
        go_wp2
        (refine hK _ _ (fun _ => Kp.of_below (Below.alloc (Below.refl _ _) (Nat.le_refl _) _)) ?_; clear hK K)
        (repeat (first | (refine First.wpF_pure (fun K hK => ?_); go_simp; first | (refine hK _ _ ?_; clear hK K) | (apply Exists.intro; refine ⟨fun _ => ?_, hK _ _ ?_⟩; fail)) | (refine First.wpF_free (fun K hK => ?_); go_simp; first | (refine hK _ _ ?_; clear hK K))))
        refine First.wpF_must (fun K hK => ?_)
        go_wp2_with (at_builtin; refine app_rec rfl (.tmp 33) (.tmp 43) rfl (fun k => k < w.heap.size) w.heap.size (.slice vA L1.length vc) L1 (recLogP r.joined r.log, .slice uA5 un5 uc5) _ rfl rfl hR5 hbs5 _ rfl rfl (by have := hL1.out; omega) (by omega) (fun v' w6 hR6 hc6 hk6 => ?_))
        (refine hK _ _ (fun _ => hk6.weaken (fun k hk => (hge k hk).1)) ?_; clear hK K)
        (repeat (first | (refine First.wpF_pure (fun K hK => ?_); go_simp; first | (refine hK _ _ ?_; clear hK K) | (apply Exists.intro; refine ⟨fun _ => ?_, hK _ _ ?_⟩; fail)) | (refine First.wpF_free (fun K hK => ?_); go_simp; first | (refine hK _ _ ?_; clear hK K))))
        refine First.wpF_must (fun K hK => ?_)
        go_wp2
        (refine hK _ _ (fun _ => Kp.refl _ _) ?_; clear hK K)
        refine First.wpF_nil ?_
        obtain ⟨vA6, vc6, hv6⟩ := hR6.sl
        go_wp2
        go_ret
        subst hv6
        rw [hSP'.out, hR2'.out]
        obtain ⟨A', c', e', hRc⟩ := hR6.recs (T := fun k => k < w.heap.size) (fun k hk ht => by omega)
        simp only [Value.slice.injEq] at e'
        obtain ⟨rfl, -, rfl⟩ := e'
        exact ⟨_, _, rfl, hRc, ((hbW.trans ((World.below_ext W X).mono hsW)).trans (hb5.mono (by omega))).trans (hc6.low (fun k hk => (hge k hk).1) (by omega))⟩
    · rw [if_neg hl] at hR2
      have h1 : ¬0 < r.log.length := fun h => hl (.inl h)
      have h2 : ¬0 < r.joined := fun h => hl (.inr h)
      have d2 : decide ((0 : Int) < r.log.length) = false := decide_eq_false (by omega)
      have d2' : decide (0 < r.log.length) = false := decide_eq_false h1
      have d3 : decide ((0 : Int) < r.joined) = false := decide_eq_false h2
      clear h1 h2
      have hR2' := hide hR2
      clear hl hR2
      obtain ⟨vA, vc, hvs⟩ := hRW.sl
      go_wp2
      go_ret
      subst hvs
      rw [hSP'.out, hR2'.out, List.append_nil]
      obtain ⟨A', c', e', hRc⟩ := hRW.recs (T := fun k => k < w.heap.size) (fun k hk ht => by omega)
      simp only [Value.slice.injEq] at e'
      obtain ⟨rfl, -, rfl⟩ := e'
      exact ⟨_, _, rfl, hRc, hbW⟩
end Go.Proofs.Ytjhcgnmibnjocaa
