import Derived.Test.YtjhcgnmibnjocaaY35
/-! A log off the program's reader. -/
namespace Go.Proofs.Ytjhcgnmibnjocaa
open Go.RowKit Go.Maps
set_option linter.unusedVariables false
set_option linter.unusedSimpArgs false
theorem Rdr.rby {w : World} {g b : Nat} {r : Rest} (h : Rdr w g b r.xs r.e) : ∀ x ∈ r.xs, x < 256 := h.by_
theorem OwnE.only {w w' : World} {base g : Nat} {v : Value} {l : List Ent} (h : OwnE w (Old base v) base v l) (ho : Only w w' g) (hg : g < base) : OwnE w' (Old base v) base v l :=
  h.keep (Kp.of_only ho (.inl hg)) fun k hk hl => ho.block k hl (fun e => by have := (own_ge h k hk).1; omega)
theorem textP_by {m : Int} {r : Rest} (h : ∀ x ∈ r.xs, x < 256) (hm : 0 ≤ m) : (∀ x ∈ (textP m r).1, x < 256) ∧ (∀ x ∈ (textP m r).2.xs, x < 256) ∧ ((textP m r).1.length : Int) ≤ m := by
  have h2 := countP_by (m := m) h
  have h3 := takeP_by (n := (countP m r).1) h2
  have h4 := countP_bd (m := m) (r := r) hm
  exact ⟨h3.1, h3.2.1, by unfold textP; omega⟩
theorem run_conv_strE (w : World) (s : List Nat) (hs : ∀ x ∈ s, x < 256) (hn : s.length ≤ maxLen) :
    ∃ A c w', (convert 9 32 (.string (strOf s))).run Try.prog w = .ok (.slice A s.length c) w' ∧ Bsl w' (fun k => k < w.heap.size) (.slice A s.length c) s ∧ Below w.heap.size w w' :=
  ⟨_, _, _, run_conv_str w s hs hn⟩
set_option maxRecDepth 100000 in
set_option maxHeartbeats 4000000 in
theorem getlog_any (g b : Nat) (r : Rest) (w : World) (h : Rdr w g b r.xs r.e) :
    Calls Try.prog 58 #[.pointer (some ⟨g, 0, none⟩)] w fun o w' => (∃ A1 c1, o = .returned (.slice A1 (getL r).1.length c1) ∧ OwnE w' (Old w.heap.size (.slice A1 (getL r).1.length c1)) w.heap.size (.slice A1 (getL r).1.length c1) (getL r).1) ∧ Rdr w' g b (getL r).2.xs (getL r).2.e ∧ Only w w' g := by
  have hlt := h.lt
  have hC := rdcount_any g b r.xs r.e 4096 w h (by unfold I64; omega)
  have hbd := countP_bd (m := 4096) (r := r) (by omega)
  have hrr : (⟨r.xs, r.e⟩ : Rest) = r := rfl
  rw [hrr] at hC
  obtain ⟨GL, hGL⟩ : ∃ GL, GL = getL r := ⟨_, rfl⟩
  rw [← hGL]
  have hGL' := hide hGL
  unfold getL at hGL
  generalize countP 4096 r = R0 at *
  obtain ⟨n0, r0⟩ := R0
  simp only at hC hbd hGL
  go_enter Try.func58, Try.ntmps58
  go_wp2_with (go_at_call 97; (with_reducible refine hC.mono ?_); rintro e w1 ⟨rfl, hr1, ho1⟩)
  have hs1 := ho1.size
  go_loopw [3, 4] (fun vo vi wr => ∃ (k : Nat) (D : List Ent) (R : Rest), vi = .int .i64 (k : Int) ∧ D.length + k ≤ 4096 ∧ GL = (D ++ (glE k R).1, (glE k R).2) ∧ OwnE wr (Old w.heap.size vo) w.heap.size vo D ∧ Rdr wr g b R.xs R.e ∧ Only w wr g) (fun _ vi _ => (intOf vi).toNat)
  case atStart => exact ⟨n0, [], r0, rfl, by simp; omega, hGL, OwnE.nil _ _ _, hr1, ho1⟩
  case round =>
    clear hr1 ho1 hC hGL
    obtain ⟨k, D, R, rfl, hk, hG, hO, hR, hOn⟩ := hrel
    obtain ⟨wo, rfl⟩ : ∃ wo : World, wo = wr := ⟨_, rfl⟩
    have hso := hOn.size
    have hRb := Rdr.rby hR
    obtain ⟨vA, vn, vc, hv⟩ : ∃ A n c, u3 = .slice A n c := by
      obtain ⟨ms, _, ho, _⟩ := hO
      obtain ⟨A, c, rfl, _⟩ := own_sl ho
      exact ⟨_, _, _, rfl⟩
    have hE := rderr_any g b R.xs R.e wo hR
    by_cases hk0 : 0 < k
    · have d0 : decide ((0 : Int) < k) = true := by simp; omega
      by_cases he : R.e = 0
      · have he' : (R.e == 0) = true := by simpa using he
        obtain ⟨k', rfl⟩ : ∃ k', k = k' + 1 := ⟨k - 1, by omega⟩
        have hI := rdint_any g b R.xs R.e wo hR
        rw [show (⟨R.xs, R.e⟩ : Rest) = R from rfl] at hI
        have hgn := glE_next k' he
        have hst := glStep_ok hRb
        have hnb := numP_by hRb
        rw [hgn] at hG
        unfold glStep at hG hst
        obtain ⟨mq, hmq⟩ : ∃ mq, mq = numP R := ⟨_, rfl⟩
        rw [← hmq] at hI hG hst hnb
        obtain ⟨m, r1⟩ := mq
        simp only at hI hG hst hnb
        have htb := textP_by (m := 262144) hnb (by omega)
        have hT := fun W (h : Rdr W g b r1.xs r1.e) => rdtext_any g b r1.xs r1.e 262144 W h (by unfold I64; omega)
        rw [show (⟨r1.xs, r1.e⟩ : Rest) = r1 from rfl] at hT
        generalize textP 262144 r1 = tq at *
        obtain ⟨t, r2⟩ := tq
        simp only at hT hG hst htb
        generalize zag m = y at *
        clear hmq hgn hnb
        have HG := hide hG
        clear hG
        subst hv
        go_wp2_with (first | (go_at_call 98; (with_reducible refine hE.mono ?_); rintro e w2 ⟨rfl, rfl⟩) | (go_at_call 56; (with_reducible refine hI.mono ?_); rintro e w3 ⟨rfl, hr3, ho3⟩; have hO3 := hO.only ho3 hlt.1) | (go_at_call 99; (with_reducible refine (hT _ hr3).mono ?_); rintro e w4 ⟨rfl, hr4, ho4⟩; have hs3 := ho3.size; have hs4 := ho4.size; have hO4 := hO3.only ho4 hlt.1; obtain ⟨A5, c5, w5, hcv, hB5, hb5⟩ := run_conv_strE w4 t htb.1 (by unfold maxLen; omega); have hs5 := hb5.size; have hO5 := hO4.below hb5; have hBT : Bsl w5 (Old w.heap.size (.slice vA vn vc)) (.slice A5 t.length c5) t := hB5.sub fun k _ hk => hk.elim (fun h => by omega) (fun h => (own_ge hO4 k h).2)) | (at_builtin; refine app_ent rfl (.tmp 19) (.tmp 25) rfl (Old w.heap.size (.slice vA vn vc)) w.heap.size (.slice vA vn vc) D ⟨⟨y, t⟩, .slice A5 t.length c5⟩ _ rfl rfl hO5 ⟨hBT, hst.1⟩ (fun k hk => .inr hk) _ rfl rfl (by omega) (by omega) (fun v' w6 ho6 hc6 hs6 => ?_)))
        go_roundw
        case rel =>
          have hr5 := hr4.below hb5
          have hlow := hc6.low (base := w.heap.size) (fun k hk => (own_ge hO5 k hk).1) (by omega)
          refine ⟨k', D ++ [⟨y, t⟩], r2, by go_num, by simp; omega, ?_, ho6.sub fun k _ hk => hk.elim (fun h => .inl (.inl h)) .inr, hr5.low hlow hlt.1 hlt.2, (((hOn.trans ho3).trans ho4).trans (Only.of_below hb5)).low hlow (Nat.le_refl _)⟩
          rw [HG.out]
          simp
        case measure => simp [intOf]
      · have he' : (R.e == 0) = false := by simpa using he
        rw [glE_zero k he] at hG
        simp only [List.append_nil] at hG
        have hG' := hide hG
        clear hG
        go_wp2_with (go_at_call 98; (with_reducible refine hE.mono ?_); rintro e w2 ⟨rfl, rfl⟩)
        go_ret
        subst hv
        rw [hG'.out]
        obtain ⟨ms, _, ho, _⟩ := id hO
        obtain ⟨A, c, e, _⟩ := own_sl ho
        simp only [Value.slice.injEq] at e
        obtain ⟨rfl, rfl, rfl⟩ := e
        exact ⟨⟨_, _, rfl, hO⟩, hR, hOn⟩
    · obtain rfl : k = 0 := by omega
      simp only [glE, List.append_nil] at hG
      have hG' := hide hG
      clear hG
      go_wp2
      go_ret
      subst hv
      rw [hG'.out]
      obtain ⟨ms, _, ho, _⟩ := id hO
      obtain ⟨A, c, e, _⟩ := own_sl ho
      simp only [Value.slice.injEq] at e
      obtain ⟨rfl, rfl, rfl⟩ := e
      exact ⟨⟨_, _, rfl, hO⟩, hR, hOn⟩
end Go.Proofs.Ytjhcgnmibnjocaa
