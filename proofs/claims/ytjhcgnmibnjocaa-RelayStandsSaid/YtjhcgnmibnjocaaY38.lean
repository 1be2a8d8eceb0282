import Derived.Test.YtjhcgnmibnjocaaY37
/-! A log off the document's reader. -/
namespace Go.Proofs.Ytjhcgnmibnjocaa
open Go.RowKit Go.Maps
set_option linter.unusedVariables false
set_option linter.unusedSimpArgs false
theorem rest_by {l : List Nat} (hby : ∀ x ∈ l, x < 256) {w : World} {q : Nat} {A : Option Addr} {c : Nat} {r : Rest} (h : Mst w q A c l r) : ∀ x ∈ r.xs, x < 256 := by
  obtain ⟨a, e, hm, rfl⟩ := h
  exact restP_by hby
set_option maxRecDepth 100000 in
set_option maxHeartbeats 4000000 in
theorem dgetlog_any (q : Nat) (A : Option Addr) (c : Nat) (l : List Nat) (r : Rest) (hby : ∀ x ∈ l, x < 256) (hlen : l.length ≤ 140737488355328) (hc : l.length ≤ c ∧ c ≤ maxLen ∧ (A = none → c = 0)) (w : World) (h : Mst w q A c l r) (hq : q < w.heap.size) (hA : 0 < l.length → ∀ b, A = some b → b.block < w.heap.size) :
    Calls Try.prog 62 #[.pointer (some ⟨q, 0, none⟩)] w fun o w' => (∃ A1 c1, o = .returned (.slice A1 (getL r).1.length c1) ∧ OwnD w' (Old w.heap.size (.slice A1 (getL r).1.length c1)) w.heap.size (.slice A1 (getL r).1.length c1) (getL r).1) ∧ Mst w' q A c l (getL r).2 ∧ Only w w' q := by
  have hC := dcM q A c l r 4096 (by omega) hby hlen w h
  have hbd := countP_bd (m := 4096) (r := r) (by omega)
  obtain ⟨GL, hGL⟩ : ∃ GL, GL = getL r := ⟨_, rfl⟩
  rw [← hGL]
  have hGL' := hide hGL
  unfold getL at hGL
  generalize countP 4096 r = R0 at *
  obtain ⟨n0, r0⟩ := R0
  simp only at hC hbd hGL
  go_enter Try.func62, Try.ntmps62
  go_wp2_with (go_at_call 102; (with_reducible refine hC.mono ?_); rintro e w1 ⟨rfl, hr1, ho1⟩)
  have hs1 := ho1.size
  go_loopw [4, 5] (fun vo vi wr => ∃ (k i : Nat) (D : List Ent) (R : Rest), vi = .int .i64 (i : Int) ∧ i + k = n0 ∧ D.length + k ≤ 4096 ∧ GL = (D ++ (glE k R).1, (glE k R).2) ∧ OwnD wr (Old w.heap.size vo) w.heap.size vo D ∧ Mst wr q A c l R ∧ Only w wr q) (fun _ vi _ => ((n0 : Int) - intOf vi).toNat)
  case atStart => exact ⟨n0, 0, [], r0, rfl, by omega, by simp; omega, hGL, OwnD.nil _ _ _, hr1, ho1⟩
  case round =>
    clear hr1 ho1 hC hGL
    obtain ⟨k, i, D, R, rfl, hik, hk, hG, hO, hR, hOn⟩ := hrel
    obtain ⟨wo, rfl⟩ : ∃ wo : World, wo = wr := ⟨_, rfl⟩
    have hso := hOn.size
    have hRb := rest_by hby hR
    obtain ⟨vA, vc, hv⟩ := hO.sl
    obtain ⟨ra, hRB⟩ := hR.e
    have cR := hRB.cell
    have lR := hRB.lt
    by_cases hk0 : 0 < k
    · have d0 : decide ((i : Int) < n0) = true := by simp; omega
      have d0' : decide (i < n0) = true := by simp; omega
      by_cases he : R.e = 0
      · have he' : (R.e == 0) = true := by simpa using he
        obtain ⟨k', rfl⟩ : ∃ k', k = k' + 1 := ⟨k - 1, by omega⟩
        have hI := di_any q A c l R hby hlen wo hR
        have hgn := glE_next k' he
        have hst := glStep_ok hRb
        have hnb := numP_by hRb
        rw [hgn] at hG
        unfold glStep at hG hst
        obtain ⟨mq, hmq⟩ : ∃ mq, mq = numP R := ⟨_, rfl⟩
        rw [← hmq] at hI hG hst hnb
        obtain ⟨m, r1⟩ := mq
        simp only at hI hG hst hnb
        have htb := textP_by (m := 262144) hnb (by omega)
        have hT := fun W (h : Mst W q A c l r1) => dtM q A c l r1 262144 (by omega) hby hlen hc W h
        generalize textP 262144 r1 = tq at *
        obtain ⟨t, r2⟩ := tq
        simp only at hT hG hst htb
        generalize zag m = y at *
        clear hmq hgn hnb
        have HG := hide hG
        clear hG
        subst hv
        go_wp2_with (first | (go_at_call 60; (with_reducible refine hI.mono ?_); rintro e w3 ⟨rfl, hr3, ho3⟩; have hO3 := hO.only ho3 hq) | (go_at_call 103; (with_reducible refine (hT _ hr3).mono ?_); rintro e w4 ⟨rfl, hr4, ho4⟩; have hs3 := ho3.size; have hs4 := ho4.size; have hO4 := hO3.only ho4 hq; obtain ⟨A5, c5, w5, hcv, hB5, hb5⟩ := run_conv_strE w4 t htb.1 (by unfold maxLen; omega); have hs5 := hb5.size; have hO5 := hO4.below hb5; have hBT : Bsl w5 (Old w.heap.size (.slice vA D.length vc)) (.slice A5 t.length c5) t := hB5.sub fun k _ hk => hk.elim (fun h => by omega) (fun h => (ownD_ge hO4 k h).2)) | (at_builtin; refine app_entD rfl (.tmp 27) (.tmp 31) rfl (Old w.heap.size (.slice vA D.length vc)) w.heap.size (.slice vA D.length vc) D ⟨⟨y, t⟩, .slice A5 t.length c5⟩ _ rfl rfl hO5 ⟨hBT, hst.1⟩ (fun k hk => .inr hk) _ rfl rfl (by omega) (by omega) (fun v' w6 ho6 hc6 hs6 => ?_)))
        go_roundw
        case rel =>
          have hr5 := hr4.below hb5
          have hlow := hc6.low (base := w.heap.size) (fun k hk => (ownD_ge hO5 k hk).1) (by omega)
          refine ⟨k', i + 1, D ++ [⟨y, t⟩], r2, by go_num, by omega, by simp; omega, ?_, ho6.sub fun k _ hk => hk.elim (fun h => .inl (.inl h)) .inr, hr5.low hlow hq hA, (((hOn.trans ho3).trans ho4).trans (Only.of_below hb5)).low hlow (Nat.le_refl _)⟩
          rw [HG.out]
          simp
        case measure => simp [intOf]; omega
      · have he' : (R.e == 0) = false := by simpa using he
        rw [glE_zero k he] at hG
        simp only [List.append_nil] at hG
        have hG' := hide hG
        clear hG
        go_wp2
        go_ret
        subst hv
        rw [hG'.out]
        exact ⟨⟨_, _, rfl, hO⟩, hR, hOn⟩
    · obtain rfl : k = 0 := by omega
      simp only [glE, List.append_nil] at hG
      have hG' := hide hG
      clear hG
      have d0 : decide ((i : Int) < n0) = false := by simp; omega
      have d0' : decide (i < n0) = false := by simp; omega
      go_wp2
      go_ret
      subst hv
      rw [hG'.out]
      exact ⟨⟨_, _, rfl, hO⟩, hR, hOn⟩
end Go.Proofs.Ytjhcgnmibnjocaa
