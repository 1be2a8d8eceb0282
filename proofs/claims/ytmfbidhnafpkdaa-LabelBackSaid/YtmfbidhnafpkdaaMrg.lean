import Derived.Test.YtmfbidhnafpkdaaMg
import Derived.Test.YtmfbidhnafpkdaaStb
/-! The merge of two parts. -/
namespace Go.Proofs.Ytmfbidhnafpkdaa
open Go.RowKit
set_option linter.unusedVariables false
set_option linter.unusedSimpArgs false
theorem back_le {P : List Par} {a m b pp q pc c : Nat} {x y x' y' : Par} (hs1 : SrtS P a m) (hs2 : SrtS P m b) (hx : P[q]? = some x) (hy : P[pc]? = some y) (hpc : pc = pp - q) (hle : leN y x)
    (h1 : a ≤ q) (h2 : c < m) (h3 : m ≤ pp - c) (h4 : pp - q < b) (h5 : c ≤ pp) (hqc : q ≤ c) (hx' : P[c]? = some x') (hy' : P[pp - c]? = some y') : leN y' x' := by
  rcases Nat.lt_or_ge q c with h | h
  · have e1 := hs1 q c x x' h1 h h2 hx hx'
    have e2 := hs2 (pp - c) pc y' y h3 (by omega) (by omega) hy' hy
    exact (e2.trans hle).trans e1
  · obtain rfl : q = c := by omega
    subst hpc
    rw [hx] at hx'; rw [hy] at hy'
    cases hx'; cases hy'
    exact hle
theorem fore_le {P : List Par} {a m b pp q pc c : Nat} {x y x' y' : Par} (hs1 : SrtS P a m) (hs2 : SrtS P m b) (hx : P[q]? = some x) (hy : P[pc]? = some y) (hpc : pc = pp - q) (hle : leN x y)
    (h1 : a ≤ c) (h2 : q < m) (h3 : m ≤ pp - q) (h4 : pp - c < b) (h5 : q ≤ pp) (hcq : c ≤ q) (hx' : P[c]? = some x') (hy' : P[pp - c]? = some y') : leN x' y' := by
  rcases Nat.lt_or_ge c q with h | h
  · have e1 := hs1 c q x' x h1 h h2 hx' hx
    have e2 := hs2 pc (pp - c) y y' (by omega) (by omega) (by omega) hy hy'
    exact (e1.trans hle).trans e2
  · obtain rfl : q = c := by omega
    subst hpc
    rw [hx] at hx'; rw [hy] at hy'
    cases hx'; cases hy'
    exact hle
set_option maxRecDepth 100000 in
set_option maxHeartbeats 40000000 in
theorem merge_any (g n c : Nat) (hn : n ≤ 4398046511104) (d : Nat) : ∀ (a m b : Nat) (P : List Par) (w : World), b - a ≤ d → Row2 w g n P → a < m → m < b → b ≤ n → SrtS P a m → SrtS P m b →
    Calls Try.prog 52 #[.slice (some ⟨g, 0, none⟩) n c, .int .i64 (a : Int), .int .i64 (m : Int), .int .i64 (b : Int), .func (.func 36) #[] #[]] w
      fun e w' => e = .returned (.tuple #[]) ∧ (∃ R, Row2 w' g n R ∧ Seg a b P R ∧ SrtS R a b) ∧ Only w w' g := by
  induction d with
  | zero => intro a m b P w hd _ h1 h2; omega
  | succ d ih =>
    intro a m b P w hd hrow ham hmb hbn hs1 hs2
    have hql := hrow.len
    by_cases h1 : m = a + 1
    · subst h1
      obtain ⟨x, hx⟩ : ∃ x, P[a]? = some x := ⟨_, List.getElem?_eq_getElem (by omega)⟩
      have ec : ((a + 1 : Nat) : Int) = (a : Int) + 1 := by omega
      rw [ec]
      have ed : ((a : Int) + 1 - (a : Int) == 1) = true := by simp; omega
      have hql' := hide hql
      clear hql ih ec
      go_enter Try.func52, Try.ntmps52
      have ex0 : (0 : Int) ≤ a := by omega
      have exn : (a : Int) < n := by omega
      go_wp2
      go_loopw [10, 11] (fun s10 s11 wr => ∃ i j : Nat, a + 1 ≤ i ∧ i ≤ j ∧ j ≤ b ∧ s10 = .int .i64 (i : Int) ∧ s11 = .int .i64 (j : Int) ∧ (∀ (c : Nat) (y : Par), a + 1 ≤ c → c < i → P[c]? = some y → leN y x) ∧ (∀ (c : Nat) (y : Par), j ≤ c → c < b → P[c]? = some y → leN x y) ∧ Row2 wr g n P ∧ Only w wr g) (fun s10 s11 _ => (intOf s11 - intOf s10).toNat)
      case atStart => exact ⟨a + 1, b, by omega, by omega, by omega, by go_num, rfl, fun c y h1 h2 => by omega, fun c y h1 h2 => by omega, hrow, Only.refl _ _⟩
      case round =>
        clear hrow
        obtain ⟨i, j, hmi, hij, hjb, rfl, rfl, hL, hR, hrow, hon⟩ := hrel
        have lg := hrow.lt
        by_cases hlt : i < j
        · have hql := hql'.out
          obtain ⟨y, hy⟩ : ∃ y, P[(i + j) / 2]? = some y := ⟨_, List.getElem?_eq_getElem (by omega)⟩
          obtain ⟨m0, m1⟩ := hrow.at_ hx
          obtain ⟨n0, n1⟩ := hrow.at_ hy
          have hii : (i : Int) < j := by omega
          have hC := fun w => pmk_any y x w
          have hsw := cmpB_cmp.swap y.a x.a
          have hpl : cmpB y.a x.a < 0 → leN y x := fun h => by unfold leN; omega
          have hpg : ¬ cmpB y.a x.a < 0 → leN x y := fun h => by unfold leN; omega
          clear hsw
          generalize cmpB y.a x.a = p at *
          have hlo : i ≤ (i + j) / 2 := by omega
          have hhi : (i + j) / 2 < j := by omega
          have H := hide (⟨hL, hR, hrow, hon, hy⟩ : _ ∧ _ ∧ _ ∧ _ ∧ _)
          have hmd : ((i : Int) + (j : Int)) / 2 = (((i + j) / 2 : Nat) : Int) := by omega
          clear hL hR hrow hon hy
          have hH : (((i + j) / 2 : Nat) : Int) < n := by omega
          clear hql
          generalize (i + j) / 2 = q at *
          by_cases hp : p < 0
          · have hle := hide (hpl hp)
            have hpd : decide (p < 0) = true := decide_eq_true hp
            clear hpl hpg
            go_wp2
            refine wp_region_ext_lit (by kernel_rfl) (by kernel_rfl) ?_
            (repeat (first | ((with_reducible refine wpQuiet_step (fun K hK => ?_)); go_simp; first | ((with_reducible refine hK _ ?_); clear hK K) | (apply Exists.intro; (with_reducible refine ⟨fun _ => ?_, hK _ ?_⟩); (go_at_call 36; exact Calls.ext_of (hC _)); clear hK K)) | ((with_reducible refine quiet_skipN ?_ (fun K hK => ?_)); (rfl); go_simp; (with_reducible refine hK _ ?_); clear hK K)))
            (with_reducible refine wpQuiet_nil ?_); intro _ hw'; obtain ⟨X, hw''⟩ := hw'; subst hw''
            go_wp2
            go_roundw
            case rel =>
              obtain ⟨hL, hR, hrow, hon, hy⟩ := H.out
              refine ⟨q + 1, j, by omega, by omega, hjb, by go_num, rfl, fun c y' h1 h2 hy' => ?_, hR, hrow.below (World.below_ext _ X) lg, hon.ext X⟩
              rcases Nat.lt_or_ge c q with h3 | h3
              · obtain ⟨t, ht⟩ : ∃ t, P[q]? = some t := ⟨_, hy⟩
                exact (hs2 c q y' y h1 h3 (by omega) hy' hy).trans hle.out
              · obtain rfl : c = q := by omega
                rw [hy] at hy'; cases hy'; exact hle.out
            case measure => simp [intOf]; omega
          · have hle := hide (hpg hp)
            have hpd : decide (p < 0) = false := decide_eq_false hp
            clear hpl hpg
            go_wp2
            refine wp_region_ext_lit (by kernel_rfl) (by kernel_rfl) ?_
            (repeat (first | ((with_reducible refine wpQuiet_step (fun K hK => ?_)); go_simp; first | ((with_reducible refine hK _ ?_); clear hK K) | (apply Exists.intro; (with_reducible refine ⟨fun _ => ?_, hK _ ?_⟩); (go_at_call 36; exact Calls.ext_of (hC _)); clear hK K)) | ((with_reducible refine quiet_skipN ?_ (fun K hK => ?_)); (rfl); go_simp; (with_reducible refine hK _ ?_); clear hK K)))
            (with_reducible refine wpQuiet_nil ?_); intro _ hw'; obtain ⟨X, hw''⟩ := hw'; subst hw''
            go_wp2
            go_roundw
            case rel =>
              obtain ⟨hL, hR, hrow, hon, hy⟩ := H.out
              refine ⟨i, q, hmi, hlo, by omega, rfl, rfl, hL, fun c y' h1 h2 hy' => ?_, hrow.below (World.below_ext _ X) lg, hon.ext X⟩
              rcases Nat.lt_or_ge q c with h3 | h3
              · exact hle.out.trans (hs2 q c y y' (by omega) h3 h2 hy hy')
              · obtain rfl : c = q := by omega
                rw [hy] at hy'; cases hy'; exact hle.out
            case measure => simp [intOf]; omega
        · obtain rfl : i = j := by omega
          have HS := hide (⟨hL, hR⟩ : _ ∧ _)
          clear hL hR
          have hwi : IntKind.i64.wrap ((i : Int) - 1) = (i : Int) - 1 := by rw [IntKind.wrap_i64]; omega
          go_wp2
          go_loopw [13] (fun s13 wr => ∃ (k : Nat) (Q : List Par), a ≤ k ∧ k ≤ i - 1 ∧ s13 = .int .i64 (k : Int) ∧ Row2 wr g n Q ∧ (∀ c, Q[c]? = P[mvL a k c]?) ∧ Seg a b P Q ∧ Only w wr g) (fun s13 _ => ((i : Int) - intOf s13).toNat)
          case atStart => exact ⟨a, P, by omega, by omega, rfl, hrow, fun c => by rw [mvL_start], Seg.refl _ _ _, hon⟩
          case round =>
            clear hrow hon
            obtain ⟨k, Q, hak, hki, rfl, hrow, hg, hseg, hon⟩ := hrel
            have hql := hrow.len
            have lg := hrow.lt
            by_cases hkl : k < i - 1
            · obtain ⟨x2, hx'⟩ : ∃ x', Q[k]? = some x' := ⟨_, List.getElem?_eq_getElem (by omega)⟩
              obtain ⟨y2, hy⟩ : ∃ y, Q[k + 1]? = some y := ⟨_, List.getElem?_eq_getElem (by omega)⟩
              obtain ⟨m0, m1⟩ := hrow.at_ hx'
              obtain ⟨n0, n1⟩ := hrow.at_ hy
              have hkk : (k : Int) < (i : Int) - 1 := by omega
              have hk0 : (0 : Int) ≤ (k : Int) + 1 := by omega
              have hk1 : (k : Int) + 1 < n := by omega
              have hwk1 : IntKind.i64.wrap ((k : Int) + 1) = (k : Int) + 1 := by rw [IntKind.wrap_i64]; omega
              have hk2 : (k : Int) < n := by omega
              have hs' := swp_seg (P := Q) (i := k) (j := k + 1) (a := a) (b := b) (by omega) (by omega) (by omega)
              have hst := hide (mvL_step (by omega) hak hg)
              have H := hide (⟨hrow, hx', hy, hon⟩ : _ ∧ _ ∧ _ ∧ _)
              have hseg' := hide (hseg.trans hs')
              clear hql
              clear hrow hx' hy hon hseg hs' hg
              go_wp2
              refine First.wp_region_first_ext [9, 13] [0, 1, 2, 3, 4, 5, 6, 7, 8, 10, 11, 12, 14, 16] [(true, false, 0), (true, false, 1), (true, false, 2), (true, false, 3), (true, false, 4), (true, false, 5), (true, false, 6), (true, false, 7), (true, false, 8), (true, true, 9), (true, false, 10), (true, false, 11), (true, false, 12), (true, true, 13), (true, false, 14), (false, false, 15), (true, false, 16), (false, false, 17)] (by kernel_rfl) (by kernel_rfl) (fun Z => ?_); simp only [List.map_cons, List.map_nil, List.getD_cons_zero, List.getD_cons_succ]
              (repeat (first | (refine First.wpF_pure (fun K hK => ?_); go_simp; first | (refine hK _ _ ?_; clear hK K) | (apply Exists.intro; refine ⟨fun _ => ?_, hK _ _ ?_⟩; fail)) | (refine First.wpF_free (fun K hK => ?_); go_simp; first | (refine hK _ _ ?_; clear hK K))))
              have hrZ : Row2 (wr.ext Z) g n Q := H.out.1.below (World.below_ext _ _) lg
              have hoZ : Only w (wr.ext Z) g := H.out.2.2.2.ext _
              generalize wr.ext Z = W0 at *
              refine First.wpF_must (fun K hK => ?_)
              refine wpList_storeP rfl (.tmp 75) (.tmp 70) rfl g (k * 2) y2 rfl rfl (fun j hj => hrZ.some (by omega)) (fun j hj => hrZ.frozen _) ?_
              have hr1 := hrZ.set (a := k) (by omega) y2
              have ho1 := hoZ.trans (only_setCells y2.cells (k * 2) W0)
              have hsw := hrZ.swap H.out.2.1 H.out.2.2.1
              generalize W0.setCells g (k * 2) y2.cells = W1 at *
              refine hK _ _ (fun hnd => Bool.noConfusion hnd) ?_
              clear hK K
              (repeat (first | (refine First.wpF_pure (fun K hK => ?_); go_simp; first | (refine hK _ _ ?_; clear hK K) | (apply Exists.intro; refine ⟨fun _ => ?_, hK _ _ ?_⟩; fail)) | (refine First.wpF_free (fun K hK => ?_); go_simp; first | (refine hK _ _ ?_; clear hK K))))
              refine First.wpF_must (fun K hK => ?_)
              refine wpList_storeP rfl (.tmp 76) (.tmp 74) rfl g ((k + 1) * 2) x2 rfl rfl (fun j hj => hr1.some (by omega)) (fun j hj => hr1.frozen _) ?_
              have ho2 := ho1.trans (only_setCells x2.cells ((k + 1) * 2) W1)
              generalize W1.setCells g ((k + 1) * 2) x2.cells = W2 at *
              refine hK _ _ (fun hnd => Bool.noConfusion hnd) ?_
              clear hK K
              refine First.wpF_nil ?_
              have HH := hide (⟨hsw, ho2⟩ : _ ∧ _)
              clear hrZ hoZ hr1 ho1 hsw ho2
              go_wp2
              go_roundw
              case rel => exact ⟨k + 1, _, by omega, by omega, by go_num, HH.out.1, hst.out, hseg'.out, HH.out.2⟩
              case measure => simp [intOf]; omega
            · obtain rfl : k = i - 1 := by omega
              have hkk : ¬ (((i - 1 : Nat) : Int) < (i : Int) - 1) := by omega
              have hkc : ((i - 1 : Nat) : Int) = (i : Int) - 1 := by omega
              have hS : SrtS Q a b := oneL hx hs2 (by omega) (by omega) (fun c y h3 h4 => HS.out.1 c y (by omega) h4) (fun c y h3 h4 => HS.out.2 c y h3 h4) hg
              clear hql
              have HH := hide (⟨⟨Q, hrow, hseg, hS⟩, hon⟩ : (∃ Q, Row2 wr g n Q ∧ Seg a b P Q ∧ SrtS Q a b) ∧ _)
              clear hrow hseg hg hS hon
              go_wp2
              refine bodyPost_ret (v := .tuple #[]) (by simp [results, Try.results52, go_sem] <;> rfl) rfl ⟨rfl, ?_⟩
              exact HH.out
    by_cases h2 : b = m + 1
    · subst h2
      obtain ⟨x, hx⟩ : ∃ x, P[m]? = some x := ⟨_, List.getElem?_eq_getElem (by omega)⟩
      have e0 : ((m : Int) - a == 1) = false := by simp; omega
      have e0' : ¬ ((m : Int) - a = 1) := by omega
      have ec : ((m + 1 : Nat) : Int) = (m : Int) + 1 := by omega
      rw [ec]
      have ed : ((m : Int) + 1 - (m : Int) == 1) = true := by simp; omega
      have hql' := hide hql
      clear hql ih ec h1
      go_enter Try.func52, Try.ntmps52
      have exn : (m : Int) < n := by omega
      go_wp2
      go_loopw [14, 15] (fun s10 s11 wr => ∃ i j : Nat, a ≤ i ∧ i ≤ j ∧ j ≤ m ∧ s10 = .int .i64 (i : Int) ∧ s11 = .int .i64 (j : Int) ∧ (∀ (c : Nat) (y : Par), a ≤ c → c < i → P[c]? = some y → leN y x) ∧ (∀ (c : Nat) (y : Par), j ≤ c → c < m → P[c]? = some y → leN x y) ∧ Row2 wr g n P ∧ Only w wr g) (fun s10 s11 _ => (intOf s11 - intOf s10).toNat)
      case atStart => exact ⟨a, m, by omega, by omega, by omega, rfl, rfl, fun c y h1 h2 => by omega, fun c y h1 h2 => by omega, hrow, Only.refl _ _⟩
      case round =>
        clear hrow
        obtain ⟨i, j, hmi, hij, hjb, rfl, rfl, hL, hR, hrow, hon⟩ := hrel
        have lg := hrow.lt
        by_cases hlt : i < j
        · have hql := hql'.out
          obtain ⟨y, hy⟩ : ∃ y, P[(i + j) / 2]? = some y := ⟨_, List.getElem?_eq_getElem (by omega)⟩
          obtain ⟨m0, m1⟩ := hrow.at_ hx
          obtain ⟨n0, n1⟩ := hrow.at_ hy
          have hii : (i : Int) < j := by omega
          have hC := fun w => pmk_any x y w
          have hsw := cmpB_cmp.swap x.a y.a
          have hpl : cmpB x.a y.a < 0 → leN x y := fun h => by unfold leN; omega
          have hpg : ¬ cmpB x.a y.a < 0 → leN y x := fun h => by unfold leN; omega
          clear hsw
          generalize cmpB x.a y.a = p at *
          have hlo : i ≤ (i + j) / 2 := by omega
          have hhi : (i + j) / 2 < j := by omega
          have H := hide (⟨hL, hR, hrow, hon, hy⟩ : _ ∧ _ ∧ _ ∧ _ ∧ _)
          have hmd : ((i : Int) + (j : Int)) / 2 = (((i + j) / 2 : Nat) : Int) := by omega
          clear hL hR hrow hon hy
          have hH : (((i + j) / 2 : Nat) : Int) < n := by omega
          clear hql
          generalize (i + j) / 2 = q at *
          by_cases hp : p < 0
          · have hle := hide (hpl hp)
            have hpd : decide (p < 0) = true := decide_eq_true hp
            clear hpl hpg
            go_wp2
            refine wp_region_ext_lit (by kernel_rfl) (by kernel_rfl) ?_
            (repeat (first | ((with_reducible refine wpQuiet_step (fun K hK => ?_)); go_simp; first | ((with_reducible refine hK _ ?_); clear hK K) | (apply Exists.intro; (with_reducible refine ⟨fun _ => ?_, hK _ ?_⟩); (go_at_call 36; exact Calls.ext_of (hC _)); clear hK K)) | ((with_reducible refine quiet_skipN ?_ (fun K hK => ?_)); (rfl); go_simp; (with_reducible refine hK _ ?_); clear hK K)))
            (with_reducible refine wpQuiet_nil ?_); intro _ hw'; obtain ⟨X, hw''⟩ := hw'; subst hw''
            go_wp2
            go_roundw
            case rel =>
              obtain ⟨hL, hR, hrow, hon, hy⟩ := H.out
              refine ⟨i, q, hmi, hlo, by omega, rfl, rfl, hL, fun c y' h1 h2 hy' => ?_, hrow.below (World.below_ext _ X) lg, hon.ext X⟩
              rcases Nat.lt_or_ge q c with h3 | h3
              · exact hle.out.trans (hs1 q c y y' (by omega) h3 h2 hy hy')
              · obtain rfl : c = q := by omega
                rw [hy] at hy'; cases hy'; exact hle.out
            case measure => simp [intOf]; omega
          · have hle := hide (hpg hp)
            have hpd : decide (p < 0) = false := decide_eq_false hp
            clear hpl hpg
            go_wp2
            refine wp_region_ext_lit (by kernel_rfl) (by kernel_rfl) ?_
            (repeat (first | ((with_reducible refine wpQuiet_step (fun K hK => ?_)); go_simp; first | ((with_reducible refine hK _ ?_); clear hK K) | (apply Exists.intro; (with_reducible refine ⟨fun _ => ?_, hK _ ?_⟩); (go_at_call 36; exact Calls.ext_of (hC _)); clear hK K)) | ((with_reducible refine quiet_skipN ?_ (fun K hK => ?_)); (rfl); go_simp; (with_reducible refine hK _ ?_); clear hK K)))
            (with_reducible refine wpQuiet_nil ?_); intro _ hw'; obtain ⟨X, hw''⟩ := hw'; subst hw''
            go_wp2
            go_roundw
            case rel =>
              obtain ⟨hL, hR, hrow, hon, hy⟩ := H.out
              refine ⟨q + 1, j, by omega, by omega, hjb, by go_num, rfl, fun c y' h1 h2 hy' => ?_, hR, hrow.below (World.below_ext _ X) lg, hon.ext X⟩
              rcases Nat.lt_or_ge c q with h3 | h3
              · exact (hs1 c q y' y h1 h3 (by omega) hy' hy).trans hle.out
              · obtain rfl : c = q := by omega
                rw [hy] at hy'; cases hy'; exact hle.out
            case measure => simp [intOf]; omega
        · obtain rfl : i = j := by omega
          have HS := hide (⟨hL, hR⟩ : _ ∧ _)
          clear hL hR
          go_wp2
          go_loopw [17] (fun s13 wr => ∃ (k : Nat) (Q : List Par), i ≤ k ∧ k ≤ m ∧ s13 = .int .i64 (k : Int) ∧ Row2 wr g n Q ∧ (∀ c, Q[c]? = P[mvR m k c]?) ∧ Seg a (m + 1) P Q ∧ Only w wr g) (fun s13 _ => (intOf s13).toNat)
          case atStart => exact ⟨m, P, by omega, by omega, rfl, hrow, fun c => by rw [mvR_start], Seg.refl _ _ _, hon⟩
          case round =>
            clear hrow hon
            obtain ⟨k, Q, hik, hkm, rfl, hrow, hg, hseg, hon⟩ := hrel
            have hql := hrow.len
            have lg := hrow.lt
            by_cases hkl : i < k
            · obtain ⟨k, rfl⟩ : ∃ k', k = k' + 1 := ⟨k - 1, by omega⟩
              obtain ⟨x2, hx'⟩ : ∃ x', Q[k + 1]? = some x' := ⟨_, List.getElem?_eq_getElem (by omega)⟩
              obtain ⟨y2, hy⟩ : ∃ y, Q[k]? = some y := ⟨_, List.getElem?_eq_getElem (by omega)⟩
              obtain ⟨m0, m1⟩ := hrow.at_ hx'
              obtain ⟨n0, n1⟩ := hrow.at_ hy
              have hkk : (i : Int) < (k : Int) + 1 := by omega
              have hk0 : (0 : Int) ≤ (k : Int) + 1 := by omega
              have hk1 : (k : Int) + 1 < n := by omega
              have hwk1 : IntKind.i64.wrap ((k : Int) + 1) = (k : Int) + 1 := by rw [IntKind.wrap_i64]; omega
              have hk2 : (k : Int) < n := by omega
              have hwk : IntKind.i64.wrap (k : Int) = (k : Int) := by rw [IntKind.wrap_i64]; omega
              have hs' := swp_seg (P := Q) (i := k + 1) (j := k) (a := a) (b := m + 1) (by omega) (by omega) (by omega)
              have hst := hide (mvR_step (by omega) hkm (by omega) hg)
              have H := hide (⟨hrow, hx', hy, hon⟩ : _ ∧ _ ∧ _ ∧ _)
              have hseg' := hide (hseg.trans hs')
              clear hql
              clear hrow hx' hy hon hseg hs' hg
              go_wp2
              refine First.wp_region_first_ext [9, 13] [0, 1, 2, 3, 4, 5, 6, 7, 8, 10, 11, 12, 14, 16] [(true, false, 0), (true, false, 1), (true, false, 2), (true, false, 3), (true, false, 4), (true, false, 5), (true, false, 6), (true, false, 7), (true, false, 8), (true, true, 9), (true, false, 10), (true, false, 11), (true, false, 12), (true, true, 13), (true, false, 14), (false, false, 15), (true, false, 16), (false, false, 17)] (by kernel_rfl) (by kernel_rfl) (fun Z => ?_); simp only [List.map_cons, List.map_nil, List.getD_cons_zero, List.getD_cons_succ]
              (repeat (first | (refine First.wpF_pure (fun K hK => ?_); go_simp; first | (refine hK _ _ ?_; clear hK K) | (apply Exists.intro; refine ⟨fun _ => ?_, hK _ _ ?_⟩; fail)) | (refine First.wpF_free (fun K hK => ?_); go_simp; first | (refine hK _ _ ?_; clear hK K))))
              have hrZ : Row2 (wr.ext Z) g n Q := H.out.1.below (World.below_ext _ _) lg
              have hoZ : Only w (wr.ext Z) g := H.out.2.2.2.ext _
              generalize wr.ext Z = W0 at *
              refine First.wpF_must (fun K hK => ?_)
              refine wpList_storeP rfl (.tmp 127) (.tmp 122) rfl g ((k + 1) * 2) y2 rfl rfl (fun j hj => hrZ.some (by omega)) (fun j hj => hrZ.frozen _) ?_
              have hr1 := hrZ.set (a := (k + 1)) (by omega) y2
              have ho1 := hoZ.trans (only_setCells y2.cells ((k + 1) * 2) W0)
              have hsw := hrZ.swap H.out.2.1 H.out.2.2.1
              generalize W0.setCells g ((k + 1) * 2) y2.cells = W1 at *
              refine hK _ _ (fun hnd => Bool.noConfusion hnd) ?_
              clear hK K
              (repeat (first | (refine First.wpF_pure (fun K hK => ?_); go_simp; first | (refine hK _ _ ?_; clear hK K) | (apply Exists.intro; refine ⟨fun _ => ?_, hK _ _ ?_⟩; fail)) | (refine First.wpF_free (fun K hK => ?_); go_simp; first | (refine hK _ _ ?_; clear hK K))))
              refine First.wpF_must (fun K hK => ?_)
              refine wpList_storeP rfl (.tmp 128) (.tmp 126) rfl g (k * 2) x2 rfl rfl (fun j hj => hr1.some (by omega)) (fun j hj => hr1.frozen _) ?_
              have ho2 := ho1.trans (only_setCells x2.cells (k * 2) W1)
              generalize W1.setCells g (k * 2) x2.cells = W2 at *
              refine hK _ _ (fun hnd => Bool.noConfusion hnd) ?_
              clear hK K
              refine First.wpF_nil ?_
              have HH := hide (⟨hsw, ho2⟩ : _ ∧ _)
              clear hrZ hoZ hr1 ho1 hsw ho2
              go_wp2
              go_roundw
              case rel => exact ⟨k, _, by omega, by omega, by go_num, HH.out.1, by simpa using hst.out, hseg'.out, HH.out.2⟩
              case measure => first | (simp [intOf]; done) | (simp [intOf]; omega)
            · obtain rfl : k = i := by omega
              have hkk : ¬ ((k : Int) < (k : Int)) := by omega
              have hS : SrtS Q a (m + 1) := oneR hx hs1 (by omega) (by omega) (fun c y h3 h4 => HS.out.1 c y h3 h4) (fun c y h3 h4 => HS.out.2 c y h3 h4) hg
              clear hql
              have HH := hide (⟨⟨Q, hrow, hseg, hS⟩, hon⟩ : (∃ Q, Row2 wr g n Q ∧ Seg a (m + 1) P Q ∧ SrtS Q a (m + 1)) ∧ _)
              clear hrow hseg hg hS hon
              go_wp2
              refine bodyPost_ret (v := .tuple #[]) (by simp [results, Try.results52, go_sem] <;> rfl) rfl ⟨rfl, ?_⟩
              exact HH.out
    have e0 : ((m : Int) - a == 1) = false := by simp; omega
    have e0' : ¬ ((m : Int) - a = 1) := by omega
    have e1 : ((b : Int) - m == 1) = false := by simp; omega
    have e1' : ¬ ((b : Int) - m = 1) := by omega
    obtain ⟨mid, hmid⟩ : ∃ mid, mid = (a + b) / 2 := ⟨_, rfl⟩
    obtain ⟨pp, hpp⟩ : ∃ pp, pp = mid + m - 1 := ⟨_, rfl⟩
    have hmdI : ((a : Int) + (b : Int)) / 2 = (mid : Int) := by omega
    have hpI : (mid : Int) + m - 1 = (pp : Int) := by omega
    have hf1 : a + 2 ≤ m := by omega
    have hf2 : m + 2 ≤ b := by omega
    clear hql h1 h2
    go_enter Try.func52, Try.ntmps52
    by_cases hmm : mid < m
    · obtain ⟨lo, hlo⟩ : ∃ lo, lo = mid + m - b := ⟨_, rfl⟩
      have hlI : (mid : Int) + m - b = (lo : Int) := by omega
      have hmI : (mid : Int) < m := by omega
      have HF := hide (⟨hmid, hpp, hlo, hmm⟩ : _ ∧ _ ∧ _ ∧ _)
      clear hmid hpp hlo hmm
      go_wp2
      go_loopw [20, 21] (fun s20 s21 wr => ∃ st r : Nat, lo ≤ st ∧ st ≤ r ∧ r ≤ mid ∧ s20 = .int .i64 (st : Int) ∧ s21 = .int .i64 (r : Int) ∧ (∀ (c : Nat) (x y : Par), lo ≤ c → c < st → P[c]? = some x → P[pp - c]? = some y → leN x y) ∧ (∀ (c : Nat) (x y : Par), r ≤ c → c < mid → P[c]? = some x → P[pp - c]? = some y → leN y x) ∧ Row2 wr g n P ∧ Only w wr g) (fun s20 s21 _ => (intOf s21 - intOf s20).toNat)
      case atStart => obtain ⟨hmid, hpp, hlo, hmm⟩ := HF.out; exact ⟨lo, mid, by omega, by omega, by omega, rfl, rfl, fun c x y h1 h2 => by omega, fun c x y h1 h2 => by omega, hrow, Only.refl _ _⟩
      case round =>
        clear hrow
        obtain ⟨st, r, hls, hsr, hrh, rfl, rfl, hL, hR, hrow, hon⟩ := hrel
        have lg := hrow.lt
        have hql := hrow.len
        by_cases hlt : st < r
        · obtain ⟨hmid, hpp, hlo, hmm⟩ := HF.out
          obtain ⟨x, hx⟩ : ∃ x, P[(st + r) / 2]? = some x := ⟨_, List.getElem?_eq_getElem (by omega)⟩
          obtain ⟨y, hy⟩ : ∃ y, P[pp - (st + r) / 2]? = some y := ⟨_, List.getElem?_eq_getElem (by omega)⟩
          obtain ⟨m0, m1⟩ := hrow.at_ hx
          obtain ⟨n0, n1⟩ := hrow.at_ hy
          have hii : (st : Int) < r := by omega
          have hC := fun w => pmk_any y x w
          have hsw := cmpB_cmp.swap y.a x.a
          have hpl : cmpB y.a x.a < 0 → leN y x := fun h => by unfold leN; omega
          have hpg : ¬ cmpB y.a x.a < 0 → leN x y := fun h => by unfold leN; omega
          clear hsw
          generalize cmpB y.a x.a = p at *
          have hqlo : st ≤ (st + r) / 2 := by omega
          have hqhi : (st + r) / 2 < r := by omega
          have hmd : ((st : Int) + (r : Int)) / 2 = (((st + r) / 2 : Nat) : Int) := by omega
          have hH : (((st + r) / 2 : Nat) : Int) < n := by omega
          generalize (st + r) / 2 = q at *
          obtain ⟨pc, hpc⟩ : ∃ pc, pc = pp - q := ⟨_, rfl⟩
          have hpcI : (pp : Int) - (q : Int) = (pc : Int) := by omega
          have hpcn : (pc : Int) < n := by omega
          have hwpc : IntKind.i64.wrap (pc : Int) = (pc : Int) := by rw [IntKind.wrap_i64]; omega
          rw [← hpc] at n0 n1 hy
          have H := hide (⟨hL, hR, hrow, hon, hx, hy, hpc⟩ : _ ∧ _ ∧ _ ∧ _ ∧ _ ∧ _ ∧ _)
          clear hL hR hrow hon hx hy hpc hmid hpp hlo hmm hql
          by_cases hp : p < 0
          · have hle := hide (hpl hp)
            have hpd : decide (p < 0) = true := decide_eq_true hp
            clear hpl hpg
            go_wp2
            refine wp_region_ext_lit (by kernel_rfl) (by kernel_rfl) ?_
            (repeat (first | ((with_reducible refine wpQuiet_step (fun K hK => ?_)); go_simp; first | ((with_reducible refine hK _ ?_); clear hK K) | (apply Exists.intro; (with_reducible refine ⟨fun _ => ?_, hK _ ?_⟩); (go_at_call 36; exact Calls.ext_of (hC _)); clear hK K)) | ((with_reducible refine quiet_skipN ?_ (fun K hK => ?_)); (rfl); go_simp; (with_reducible refine hK _ ?_); clear hK K)))
            (with_reducible refine wpQuiet_nil ?_); intro _ hw'; obtain ⟨X, hw''⟩ := hw'; subst hw''
            go_wp2
            go_roundw
            case rel =>
              obtain ⟨hL, hR, hrow, hon, hx, hy, hpc⟩ := H.out
              obtain ⟨hmid, hpp, hlo, hmm⟩ := HF.out
              refine ⟨st, q, hls, hqlo, by omega, rfl, rfl, hL, fun c x' y' h1 h2 hx' hy' => ?_, hrow.below (World.below_ext _ X) lg, hon.ext X⟩
              exact back_le hs1 hs2 hx hy hpc hle.out (by omega) (by omega) (by omega) (by omega) (by omega) h1 hx' hy'
            case measure => simp [intOf]; omega
          · have hle := hide (hpg hp)
            have hpd : decide (p < 0) = false := decide_eq_false hp
            clear hpl hpg
            go_wp2
            refine wp_region_ext_lit (by kernel_rfl) (by kernel_rfl) ?_
            (repeat (first | ((with_reducible refine wpQuiet_step (fun K hK => ?_)); go_simp; first | ((with_reducible refine hK _ ?_); clear hK K) | (apply Exists.intro; (with_reducible refine ⟨fun _ => ?_, hK _ ?_⟩); (go_at_call 36; exact Calls.ext_of (hC _)); clear hK K)) | ((with_reducible refine quiet_skipN ?_ (fun K hK => ?_)); (rfl); go_simp; (with_reducible refine hK _ ?_); clear hK K)))
            (with_reducible refine wpQuiet_nil ?_); intro _ hw'; obtain ⟨X, hw''⟩ := hw'; subst hw''
            go_wp2
            go_roundw
            case rel =>
              obtain ⟨hL, hR, hrow, hon, hx, hy, hpc⟩ := H.out
              obtain ⟨hmid, hpp, hlo, hmm⟩ := HF.out
              refine ⟨q + 1, r, by omega, by omega, hrh, by go_num, rfl, fun c x' y' h1 h2 hx' hy' => ?_, hR, hrow.below (World.below_ext _ X) lg, hon.ext X⟩
              exact fore_le hs1 hs2 hx hy hpc hle.out (by omega) (by omega) (by omega) (by omega) (by omega) (by omega) hx' hy'
            case measure => simp [intOf]; omega
        · obtain rfl : st = r := by omega
          obtain ⟨hmid, hpp, hlo, hmm⟩ := HF.out
          obtain ⟨en, hen⟩ : ∃ en, en = mid + m - st := ⟨_, rfl⟩
          have hcut : Cut P a m b mid st := ⟨by omega, by omega, by omega, by omega, by omega, fun x y h1 h2 h3 hx hy => hL (st - 1) x y (by omega) (by omega) hx (by rw [show pp - (st - 1) = mid + m - st by omega]; exact hy), fun x y h1 h2 hx hy => hR st y x (by omega) (by omega) hy (by rw [show pp - st = mid + m - st - 1 by omega]; exact hx)⟩
          clear hL hR
          have henI : (mid : Int) + m - st = (en : Int) := by omega
          have hsm := hcut.stm
          have hast := hcut.ast
          have hlem := hcut.lem
          have hmle := hcut.mle
          have hebl := hcut.ebl
          rw [← hen] at hmle hebl
          have hmidb : mid < b := by omega
          have hamid : a < mid := by omega
          have hdl : mid - a ≤ d := by omega
          have hdr : b - mid ≤ d := by omega
          have hall : ∀ (w1 : World) (Q : List Par), (∀ k, Q[k]? = P[src st m en k]?) → SrtS Q a st ∧ SrtS Q st mid ∧ SrtS Q mid en ∧ SrtS Q en b ∧ (∀ (u v : Nat) (x y : Par), a ≤ u → u < mid → mid ≤ v → v < b → Q[u]? = some x → Q[v]? = some y → leN x y) := fun w1 Q hget => by
            have h := hcut.turn (Q := Q) ham hmb (by omega) (by omega) hs1 hs2 (by rw [← hen]; exact hget)
            rw [← hen] at h
            exact h
          have hall := hide hall
          have hT : (st = m ∨ en = m) → ∀ k, P[k]? = P[src st m en k]? := fun h k => by
            congr 1; unfold src; (repeat' split) <;> omega
          clear hcut hql hmid hpp hlo hmm
          clear HF
          have hrow := hide hrow
          have hon := hide hon
          by_cases w1 : st < m ∧ m < en
          · by_cases w2 : a < st
            · by_cases w3 : en < b
              · have i1 : (st : Int) < m := by omega
                have i2 : (m : Int) < en := by omega
                have j1 : (a : Int) < st := by omega
                have j2 : (st : Int) < mid := by omega
                have k1 : (mid : Int) < en := by omega
                have k2 : (en : Int) < b := by omega
                have hRot := rot_any g n c st m en P wr hrow.out (by omega) (by omega) (by omega) hn
                clear hT hen
                go_wp2_with (first
                  | (go_at_call 57; (with_reducible refine hRot.mono ?_); rintro e w1 ⟨rfl, ⟨Q, hrQ, hT⟩, hoQ⟩; have hA := hall.out w1 Q hT.get; have hsQ := hT.seg; have hoQ := hon.out.trans hoQ)
                  | (go_at_call 52; (with_reducible refine (ih a st mid Q w1 (by omega) hrQ (by omega) (by omega) (by omega) hA.1 hA.2.1).mono ?_); rintro e w2 ⟨rfl, ⟨R, hrR, hsR, hSR⟩, hoR⟩; have hoR := hoQ.trans hoR)
                  | (go_at_call 52; (with_reducible refine (ih mid en b R w2 (by omega) hrR (by omega) (by omega) hbn (hA.2.2.1.congr fun i h1 h2 => hsR.out i (.inr (by omega))) (hA.2.2.2.1.congr fun i h1 h2 => hsR.out i (.inr (by omega)))).mono ?_); rintro e w3 ⟨rfl, ⟨S, hrS, hsS, hSS⟩, hoS⟩; have hoS := hoR.trans hoS))
                refine bodyPost_end (v := .tuple #[]) (by simp [results, Try.results52, go_sem] <;> rfl) rfl ⟨rfl, ?_⟩
                obtain ⟨z1, z2⟩ := halves (by omega) (by omega) hA.2.2.2.2 hsR hsS hSR hSS
                exact ⟨⟨S, hrS, (hsQ.wide (by omega) (by omega)).trans z1, z2⟩, hoS⟩
              · have i1 : (st : Int) < m := by omega
                have i2 : (m : Int) < en := by omega
                have j1 : (a : Int) < st := by omega
                have j2 : (st : Int) < mid := by omega
                have k1 : (mid : Int) < en := by omega
                have k2 : ¬ ((en : Int) < b) := by omega
                have hRot := rot_any g n c st m en P wr hrow.out (by omega) (by omega) (by omega) hn
                clear hT hen
                go_wp2_with (first
                  | (go_at_call 57; (with_reducible refine hRot.mono ?_); rintro e w1 ⟨rfl, ⟨Q, hrQ, hT⟩, hoQ⟩; have hA := hall.out w1 Q hT.get; have hsQ := hT.seg; have hoQ := hon.out.trans hoQ)
                  | (go_at_call 52; (with_reducible refine (ih a st mid Q w1 (by omega) hrQ (by omega) (by omega) (by omega) hA.1 hA.2.1).mono ?_); rintro e w2 ⟨rfl, ⟨R, hrR, hsR, hSR⟩, hoR⟩; have hoR := hoQ.trans hoR))
                refine bodyPost_end (v := .tuple #[]) (by simp [results, Try.results52, go_sem] <;> rfl) rfl ⟨rfl, ?_⟩
                obtain ⟨z1, z2⟩ := halves (by omega) (by omega) hA.2.2.2.2 hsR (Seg.refl mid b R) hSR ((show SrtS Q mid b from by rw [show b = en by omega]; exact hA.2.2.1).congr fun i h1 h2 => hsR.out i (.inr (by omega)))
                exact ⟨⟨R, hrR, (hsQ.wide (by omega) (by omega)).trans z1, z2⟩, hoR⟩
            · by_cases w3 : en < b
              · have i1 : (st : Int) < m := by omega
                have i2 : (m : Int) < en := by omega
                have j1 : ¬ ((a : Int) < st) := by omega
                have k1 : (mid : Int) < en := by omega
                have k2 : (en : Int) < b := by omega
                have hRot := rot_any g n c st m en P wr hrow.out (by omega) (by omega) (by omega) hn
                clear hT hen
                go_wp2_with (first
                  | (go_at_call 57; (with_reducible refine hRot.mono ?_); rintro e w1 ⟨rfl, ⟨Q, hrQ, hT⟩, hoQ⟩; have hA := hall.out w1 Q hT.get; have hsQ := hT.seg; have hoQ := hon.out.trans hoQ)
                  | (go_at_call 52; (with_reducible refine (ih mid en b Q w1 (by omega) hrQ (by omega) (by omega) hbn hA.2.2.1 hA.2.2.2.1).mono ?_); rintro e w3 ⟨rfl, ⟨S, hrS, hsS, hSS⟩, hoS⟩; have hoS := hoQ.trans hoS))
                refine bodyPost_end (v := .tuple #[]) (by simp [results, Try.results52, go_sem] <;> rfl) rfl ⟨rfl, ?_⟩
                obtain ⟨z1, z2⟩ := halves (by omega) (by omega) hA.2.2.2.2 (Seg.refl a mid Q) hsS (show SrtS Q a mid from by rw [show a = st by omega]; exact hA.2.1) hSS
                exact ⟨⟨S, hrS, (hsQ.wide (by omega) (by omega)).trans z1, z2⟩, hoS⟩
              · have i1 : (st : Int) < m := by omega
                have i2 : (m : Int) < en := by omega
                have j1 : ¬ ((a : Int) < st) := by omega
                have k1 : (mid : Int) < en := by omega
                have k2 : ¬ ((en : Int) < b) := by omega
                have hRot := rot_any g n c st m en P wr hrow.out (by omega) (by omega) (by omega) hn
                clear hT hen
                go_wp2_with (first
                  | (go_at_call 57; (with_reducible refine hRot.mono ?_); rintro e w1 ⟨rfl, ⟨Q, hrQ, hT⟩, hoQ⟩; have hA := hall.out w1 Q hT.get; have hsQ := hT.seg; have hoQ := hon.out.trans hoQ))
                refine bodyPost_end (v := .tuple #[]) (by simp [results, Try.results52, go_sem] <;> rfl) rfl ⟨rfl, ?_⟩
                obtain ⟨z1, z2⟩ := halves (by omega) (by omega) hA.2.2.2.2 (Seg.refl a mid Q) (Seg.refl mid b Q) (show SrtS Q a mid from by rw [show a = st by omega]; exact hA.2.1) (show SrtS Q mid b from by rw [show b = en by omega]; exact hA.2.2.1)
                exact ⟨⟨Q, hrQ, (hsQ.wide (by omega) (by omega)).trans z1, z2⟩, hoQ⟩
          · by_cases w2 : st < m
            · have i1 : (st : Int) < m := by omega
              have i2 : ¬ ((m : Int) < en) := by omega
              have j1 : (a : Int) < st := by omega
              have j2 : ¬ ((st : Int) < mid) := by omega
              have k1 : (mid : Int) < en := by omega
              have k2 : (en : Int) < b := by omega
              have hA := hall.out wr P (hT (by omega))
              have hrQ := hrow.out
              have hoQ := hon.out
              have hsQ := Seg.refl st en P
              clear hT hen
              go_wp2_with (first
                | (go_at_call 52; (with_reducible refine (ih mid en b P wr (by omega) hrQ (by omega) (by omega) hbn hA.2.2.1 hA.2.2.2.1).mono ?_); rintro e w3 ⟨rfl, ⟨S, hrS, hsS, hSS⟩, hoS⟩; have hoS := hoQ.trans hoS))
              refine bodyPost_end (v := .tuple #[]) (by simp [results, Try.results52, go_sem] <;> rfl) rfl ⟨rfl, ?_⟩
              obtain ⟨z1, z2⟩ := halves (by omega) (by omega) hA.2.2.2.2 (Seg.refl a mid P) hsS (show SrtS P a mid from by rw [show mid = st by omega]; exact hA.1) hSS
              exact ⟨⟨S, hrS, (hsQ.wide (by omega) (by omega)).trans z1, z2⟩, hoS⟩
            · by_cases w3 : st < mid
              · exfalso; omega
              · exfalso; omega
    · obtain ⟨lo, hlo⟩ : ∃ lo, lo = a := ⟨_, rfl⟩
      have hmI : ¬ ((mid : Int) < m) := by omega
      have HF := hide (⟨hmid, hpp, hlo, hmm⟩ : _ ∧ _ ∧ _ ∧ _)
      clear hmid hpp hlo hmm
      go_wp2
      go_loopw [20, 21] (fun s20 s21 wr => ∃ st r : Nat, a ≤ st ∧ st ≤ r ∧ r ≤ m ∧ s20 = .int .i64 (st : Int) ∧ s21 = .int .i64 (r : Int) ∧ (∀ (c : Nat) (x y : Par), a ≤ c → c < st → P[c]? = some x → P[pp - c]? = some y → leN x y) ∧ (∀ (c : Nat) (x y : Par), r ≤ c → c < m → P[c]? = some x → P[pp - c]? = some y → leN y x) ∧ Row2 wr g n P ∧ Only w wr g) (fun s20 s21 _ => (intOf s21 - intOf s20).toNat)
      case atStart => obtain ⟨hmid, hpp, hlo, hmm⟩ := HF.out; exact ⟨a, m, by omega, by omega, by omega, rfl, rfl, fun c x y h1 h2 => by omega, fun c x y h1 h2 => by omega, hrow, Only.refl _ _⟩
      case round =>
        clear hrow
        obtain ⟨st, r, hls, hsr, hrh, rfl, rfl, hL, hR, hrow, hon⟩ := hrel
        have lg := hrow.lt
        have hql := hrow.len
        by_cases hlt : st < r
        · obtain ⟨hmid, hpp, hlo, hmm⟩ := HF.out
          obtain ⟨x, hx⟩ : ∃ x, P[(st + r) / 2]? = some x := ⟨_, List.getElem?_eq_getElem (by omega)⟩
          obtain ⟨y, hy⟩ : ∃ y, P[pp - (st + r) / 2]? = some y := ⟨_, List.getElem?_eq_getElem (by omega)⟩
          obtain ⟨m0, m1⟩ := hrow.at_ hx
          obtain ⟨n0, n1⟩ := hrow.at_ hy
          have hii : (st : Int) < r := by omega
          have hC := fun w => pmk_any y x w
          have hsw := cmpB_cmp.swap y.a x.a
          have hpl : cmpB y.a x.a < 0 → leN y x := fun h => by unfold leN; omega
          have hpg : ¬ cmpB y.a x.a < 0 → leN x y := fun h => by unfold leN; omega
          clear hsw
          generalize cmpB y.a x.a = p at *
          have hqlo : st ≤ (st + r) / 2 := by omega
          have hqhi : (st + r) / 2 < r := by omega
          have hmd : ((st : Int) + (r : Int)) / 2 = (((st + r) / 2 : Nat) : Int) := by omega
          have hH : (((st + r) / 2 : Nat) : Int) < n := by omega
          generalize (st + r) / 2 = q at *
          obtain ⟨pc, hpc⟩ : ∃ pc, pc = pp - q := ⟨_, rfl⟩
          have hpcI : (pp : Int) - (q : Int) = (pc : Int) := by omega
          have hpcn : (pc : Int) < n := by omega
          have hwpc : IntKind.i64.wrap (pc : Int) = (pc : Int) := by rw [IntKind.wrap_i64]; omega
          rw [← hpc] at n0 n1 hy
          have H := hide (⟨hL, hR, hrow, hon, hx, hy, hpc⟩ : _ ∧ _ ∧ _ ∧ _ ∧ _ ∧ _ ∧ _)
          clear hL hR hrow hon hx hy hpc hmid hpp hlo hmm hql
          by_cases hp : p < 0
          · have hle := hide (hpl hp)
            have hpd : decide (p < 0) = true := decide_eq_true hp
            clear hpl hpg
            go_wp2
            refine wp_region_ext_lit (by kernel_rfl) (by kernel_rfl) ?_
            (repeat (first | ((with_reducible refine wpQuiet_step (fun K hK => ?_)); go_simp; first | ((with_reducible refine hK _ ?_); clear hK K) | (apply Exists.intro; (with_reducible refine ⟨fun _ => ?_, hK _ ?_⟩); (go_at_call 36; exact Calls.ext_of (hC _)); clear hK K)) | ((with_reducible refine quiet_skipN ?_ (fun K hK => ?_)); (rfl); go_simp; (with_reducible refine hK _ ?_); clear hK K)))
            (with_reducible refine wpQuiet_nil ?_); intro _ hw'; obtain ⟨X, hw''⟩ := hw'; subst hw''
            go_wp2
            go_roundw
            case rel =>
              obtain ⟨hL, hR, hrow, hon, hx, hy, hpc⟩ := H.out
              obtain ⟨hmid, hpp, hlo, hmm⟩ := HF.out
              refine ⟨st, q, hls, hqlo, by omega, rfl, rfl, hL, fun c x' y' h1 h2 hx' hy' => ?_, hrow.below (World.below_ext _ X) lg, hon.ext X⟩
              exact back_le hs1 hs2 hx hy hpc hle.out (by omega) (by omega) (by omega) (by omega) (by omega) h1 hx' hy'
            case measure => simp [intOf]; omega
          · have hle := hide (hpg hp)
            have hpd : decide (p < 0) = false := decide_eq_false hp
            clear hpl hpg
            go_wp2
            refine wp_region_ext_lit (by kernel_rfl) (by kernel_rfl) ?_
            (repeat (first | ((with_reducible refine wpQuiet_step (fun K hK => ?_)); go_simp; first | ((with_reducible refine hK _ ?_); clear hK K) | (apply Exists.intro; (with_reducible refine ⟨fun _ => ?_, hK _ ?_⟩); (go_at_call 36; exact Calls.ext_of (hC _)); clear hK K)) | ((with_reducible refine quiet_skipN ?_ (fun K hK => ?_)); (rfl); go_simp; (with_reducible refine hK _ ?_); clear hK K)))
            (with_reducible refine wpQuiet_nil ?_); intro _ hw'; obtain ⟨X, hw''⟩ := hw'; subst hw''
            go_wp2
            go_roundw
            case rel =>
              obtain ⟨hL, hR, hrow, hon, hx, hy, hpc⟩ := H.out
              obtain ⟨hmid, hpp, hlo, hmm⟩ := HF.out
              refine ⟨q + 1, r, by omega, by omega, hrh, by go_num, rfl, fun c x' y' h1 h2 hx' hy' => ?_, hR, hrow.below (World.below_ext _ X) lg, hon.ext X⟩
              exact fore_le hs1 hs2 hx hy hpc hle.out (by omega) (by omega) (by omega) (by omega) (by omega) (by omega) hx' hy'
            case measure => simp [intOf]; omega
        · obtain rfl : st = r := by omega
          obtain ⟨hmid, hpp, hlo, hmm⟩ := HF.out
          obtain ⟨en, hen⟩ : ∃ en, en = mid + m - st := ⟨_, rfl⟩
          have hcut : Cut P a m b mid st := ⟨by omega, by omega, by omega, by omega, by omega, fun x y h1 h2 h3 hx hy => hL (st - 1) x y (by omega) (by omega) hx (by rw [show pp - (st - 1) = mid + m - st by omega]; exact hy), fun x y h1 h2 hx hy => hR st y x (by omega) (by omega) hy (by rw [show pp - st = mid + m - st - 1 by omega]; exact hx)⟩
          clear hL hR
          have henI : (mid : Int) + m - st = (en : Int) := by omega
          have hsm := hcut.stm
          have hast := hcut.ast
          have hlem := hcut.lem
          have hmle := hcut.mle
          have hebl := hcut.ebl
          rw [← hen] at hmle hebl
          have hmidb : mid < b := by omega
          have hamid : a < mid := by omega
          have hdl : mid - a ≤ d := by omega
          have hdr : b - mid ≤ d := by omega
          have hall : ∀ (w1 : World) (Q : List Par), (∀ k, Q[k]? = P[src st m en k]?) → SrtS Q a st ∧ SrtS Q st mid ∧ SrtS Q mid en ∧ SrtS Q en b ∧ (∀ (u v : Nat) (x y : Par), a ≤ u → u < mid → mid ≤ v → v < b → Q[u]? = some x → Q[v]? = some y → leN x y) := fun w1 Q hget => by
            have h := hcut.turn (Q := Q) ham hmb (by omega) (by omega) hs1 hs2 (by rw [← hen]; exact hget)
            rw [← hen] at h
            exact h
          have hall := hide hall
          have hT : (st = m ∨ en = m) → ∀ k, P[k]? = P[src st m en k]? := fun h k => by
            congr 1; unfold src; (repeat' split) <;> omega
          clear hcut hql hmid hpp hlo hmm
          clear HF
          have hrow := hide hrow
          have hon := hide hon
          by_cases w1 : st < m ∧ m < en
          · by_cases w2 : a < st
            · by_cases w3 : en < b
              · have i1 : (st : Int) < m := by omega
                have i2 : (m : Int) < en := by omega
                have j1 : (a : Int) < st := by omega
                have j2 : (st : Int) < mid := by omega
                have k1 : (mid : Int) < en := by omega
                have k2 : (en : Int) < b := by omega
                have hRot := rot_any g n c st m en P wr hrow.out (by omega) (by omega) (by omega) hn
                clear hT hen
                go_wp2_with (first
                  | (go_at_call 57; (with_reducible refine hRot.mono ?_); rintro e w1 ⟨rfl, ⟨Q, hrQ, hT⟩, hoQ⟩; have hA := hall.out w1 Q hT.get; have hsQ := hT.seg; have hoQ := hon.out.trans hoQ)
                  | (go_at_call 52; (with_reducible refine (ih a st mid Q w1 (by omega) hrQ (by omega) (by omega) (by omega) hA.1 hA.2.1).mono ?_); rintro e w2 ⟨rfl, ⟨R, hrR, hsR, hSR⟩, hoR⟩; have hoR := hoQ.trans hoR)
                  | (go_at_call 52; (with_reducible refine (ih mid en b R w2 (by omega) hrR (by omega) (by omega) hbn (hA.2.2.1.congr fun i h1 h2 => hsR.out i (.inr (by omega))) (hA.2.2.2.1.congr fun i h1 h2 => hsR.out i (.inr (by omega)))).mono ?_); rintro e w3 ⟨rfl, ⟨S, hrS, hsS, hSS⟩, hoS⟩; have hoS := hoR.trans hoS))
                refine bodyPost_end (v := .tuple #[]) (by simp [results, Try.results52, go_sem] <;> rfl) rfl ⟨rfl, ?_⟩
                obtain ⟨z1, z2⟩ := halves (by omega) (by omega) hA.2.2.2.2 hsR hsS hSR hSS
                exact ⟨⟨S, hrS, (hsQ.wide (by omega) (by omega)).trans z1, z2⟩, hoS⟩
              · have i1 : (st : Int) < m := by omega
                have i2 : (m : Int) < en := by omega
                have j1 : (a : Int) < st := by omega
                have j2 : (st : Int) < mid := by omega
                have k1 : (mid : Int) < en := by omega
                have k2 : ¬ ((en : Int) < b) := by omega
                have hRot := rot_any g n c st m en P wr hrow.out (by omega) (by omega) (by omega) hn
                clear hT hen
                go_wp2_with (first
                  | (go_at_call 57; (with_reducible refine hRot.mono ?_); rintro e w1 ⟨rfl, ⟨Q, hrQ, hT⟩, hoQ⟩; have hA := hall.out w1 Q hT.get; have hsQ := hT.seg; have hoQ := hon.out.trans hoQ)
                  | (go_at_call 52; (with_reducible refine (ih a st mid Q w1 (by omega) hrQ (by omega) (by omega) (by omega) hA.1 hA.2.1).mono ?_); rintro e w2 ⟨rfl, ⟨R, hrR, hsR, hSR⟩, hoR⟩; have hoR := hoQ.trans hoR))
                refine bodyPost_end (v := .tuple #[]) (by simp [results, Try.results52, go_sem] <;> rfl) rfl ⟨rfl, ?_⟩
                obtain ⟨z1, z2⟩ := halves (by omega) (by omega) hA.2.2.2.2 hsR (Seg.refl mid b R) hSR ((show SrtS Q mid b from by rw [show b = en by omega]; exact hA.2.2.1).congr fun i h1 h2 => hsR.out i (.inr (by omega)))
                exact ⟨⟨R, hrR, (hsQ.wide (by omega) (by omega)).trans z1, z2⟩, hoR⟩
            · by_cases w3 : en < b
              · have i1 : (st : Int) < m := by omega
                have i2 : (m : Int) < en := by omega
                have j1 : ¬ ((a : Int) < st) := by omega
                have k1 : (mid : Int) < en := by omega
                have k2 : (en : Int) < b := by omega
                have hRot := rot_any g n c st m en P wr hrow.out (by omega) (by omega) (by omega) hn
                clear hT hen
                go_wp2_with (first
                  | (go_at_call 57; (with_reducible refine hRot.mono ?_); rintro e w1 ⟨rfl, ⟨Q, hrQ, hT⟩, hoQ⟩; have hA := hall.out w1 Q hT.get; have hsQ := hT.seg; have hoQ := hon.out.trans hoQ)
                  | (go_at_call 52; (with_reducible refine (ih mid en b Q w1 (by omega) hrQ (by omega) (by omega) hbn hA.2.2.1 hA.2.2.2.1).mono ?_); rintro e w3 ⟨rfl, ⟨S, hrS, hsS, hSS⟩, hoS⟩; have hoS := hoQ.trans hoS))
                refine bodyPost_end (v := .tuple #[]) (by simp [results, Try.results52, go_sem] <;> rfl) rfl ⟨rfl, ?_⟩
                obtain ⟨z1, z2⟩ := halves (by omega) (by omega) hA.2.2.2.2 (Seg.refl a mid Q) hsS (show SrtS Q a mid from by rw [show a = st by omega]; exact hA.2.1) hSS
                exact ⟨⟨S, hrS, (hsQ.wide (by omega) (by omega)).trans z1, z2⟩, hoS⟩
              · have i1 : (st : Int) < m := by omega
                have i2 : (m : Int) < en := by omega
                have j1 : ¬ ((a : Int) < st) := by omega
                have k1 : (mid : Int) < en := by omega
                have k2 : ¬ ((en : Int) < b) := by omega
                have hRot := rot_any g n c st m en P wr hrow.out (by omega) (by omega) (by omega) hn
                clear hT hen
                go_wp2_with (first
                  | (go_at_call 57; (with_reducible refine hRot.mono ?_); rintro e w1 ⟨rfl, ⟨Q, hrQ, hT⟩, hoQ⟩; have hA := hall.out w1 Q hT.get; have hsQ := hT.seg; have hoQ := hon.out.trans hoQ))
                refine bodyPost_end (v := .tuple #[]) (by simp [results, Try.results52, go_sem] <;> rfl) rfl ⟨rfl, ?_⟩
                obtain ⟨z1, z2⟩ := halves (by omega) (by omega) hA.2.2.2.2 (Seg.refl a mid Q) (Seg.refl mid b Q) (show SrtS Q a mid from by rw [show a = st by omega]; exact hA.2.1) (show SrtS Q mid b from by rw [show b = en by omega]; exact hA.2.2.1)
                exact ⟨⟨Q, hrQ, (hsQ.wide (by omega) (by omega)).trans z1, z2⟩, hoQ⟩
          · by_cases w2 : st < m
            · have i1 : (st : Int) < m := by omega
              have i2 : ¬ ((m : Int) < en) := by omega
              have j1 : (a : Int) < st := by omega
              have j2 : ¬ ((st : Int) < mid) := by omega
              have k1 : (mid : Int) < en := by omega
              have k2 : (en : Int) < b := by omega
              have hA := hall.out wr P (hT (by omega))
              have hrQ := hrow.out
              have hoQ := hon.out
              have hsQ := Seg.refl st en P
              clear hT hen
              go_wp2_with (first
                | (go_at_call 52; (with_reducible refine (ih mid en b P wr (by omega) hrQ (by omega) (by omega) hbn hA.2.2.1 hA.2.2.2.1).mono ?_); rintro e w3 ⟨rfl, ⟨S, hrS, hsS, hSS⟩, hoS⟩; have hoS := hoQ.trans hoS))
              refine bodyPost_end (v := .tuple #[]) (by simp [results, Try.results52, go_sem] <;> rfl) rfl ⟨rfl, ?_⟩
              obtain ⟨z1, z2⟩ := halves (by omega) (by omega) hA.2.2.2.2 (Seg.refl a mid P) hsS (show SrtS P a mid from by rw [show mid = st by omega]; exact hA.1) hSS
              exact ⟨⟨S, hrS, (hsQ.wide (by omega) (by omega)).trans z1, z2⟩, hoS⟩
            · by_cases w3 : st < mid
              · have i1 : ¬ ((st : Int) < m) := by omega
                have j1 : (a : Int) < st := by omega
                have j2 : (st : Int) < mid := by omega
                have k1 : ¬ ((mid : Int) < en) := by omega
                have hA := hall.out wr P (hT (by omega))
                have hrQ := hrow.out
                have hoQ := hon.out
                have hsQ := Seg.refl st en P
                clear hT hen
                go_wp2_with (first
                  | (go_at_call 52; (with_reducible refine (ih a st mid P wr (by omega) hrQ (by omega) (by omega) (by omega) hA.1 hA.2.1).mono ?_); rintro e w2 ⟨rfl, ⟨R, hrR, hsR, hSR⟩, hoR⟩; have hoR := hoQ.trans hoR))
                refine bodyPost_end (v := .tuple #[]) (by simp [results, Try.results52, go_sem] <;> rfl) rfl ⟨rfl, ?_⟩
                obtain ⟨z1, z2⟩ := halves (by omega) (by omega) hA.2.2.2.2 hsR (Seg.refl mid b R) hSR ((show SrtS P mid b from by rw [show mid = en by omega]; exact hA.2.2.2.1).congr fun i h1 h2 => hsR.out i (.inr (by omega)))
                exact ⟨⟨R, hrR, (hsQ.wide (by omega) (by omega)).trans z1, z2⟩, hoR⟩
              · have i1 : ¬ ((st : Int) < m) := by omega
                have j1 : (a : Int) < st := by omega
                have j2 : ¬ ((st : Int) < mid) := by omega
                have k1 : ¬ ((mid : Int) < en) := by omega
                have hA := hall.out wr P (hT (by omega))
                have hrQ := hrow.out
                have hoQ := hon.out
                have hsQ := Seg.refl st en P
                clear hT hen
                go_wp2
                refine bodyPost_end (v := .tuple #[]) (by simp [results, Try.results52, go_sem] <;> rfl) rfl ⟨rfl, ?_⟩
                obtain ⟨z1, z2⟩ := halves (by omega) (by omega) hA.2.2.2.2 (Seg.refl a mid P) (Seg.refl mid b P) (show SrtS P a mid from by rw [show mid = st by omega]; exact hA.1) (show SrtS P mid b from by rw [show mid = en by omega]; exact hA.2.2.2.1)
                exact ⟨⟨P, hrQ, (hsQ.wide (by omega) (by omega)).trans z1, z2⟩, hoQ⟩
theorem mergeOk (g n c : Nat) (hn : n ≤ 4398046511104) : MergeOk g n c := fun a m b Q w hr h1 h2 h3 h4 h5 => merge_any g n c hn (b - a) a m b Q w (Nat.le_refl _) hr h1 h2 h3 h4 h5
end Go.Proofs.Ytmfbidhnafpkdaa
