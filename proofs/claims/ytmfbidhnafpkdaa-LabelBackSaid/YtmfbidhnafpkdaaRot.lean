import Derived.Test.YtmfbidhnafpkdaaIns
/-! Labels of two ranges turned round; two parts of a range turned round. -/
namespace Go.Proofs.Ytmfbidhnafpkdaa
open Go.RowKit
set_option linter.unusedVariables false
set_option linter.unusedSimpArgs false
def swr (P : List Par) (a b : Nat) : Nat → List Par
  | 0 => P
  | n + 1 => swp (swr P a b n) (a + n) (b + n)
theorem swr_len (P : List Par) (a b : Nat) : ∀ n, (swr P a b n).length = P.length
  | 0 => rfl
  | n + 1 => by rw [swr, swp_len, swr_len]
def ssrc (a b n k : Nat) : Nat := if a ≤ k ∧ k < a + n then k + (b - a) else if b ≤ k ∧ k < b + n then k - (b - a) else k
theorem swr_get {P : List Par} {a b : Nat} : ∀ {n : Nat}, a + n ≤ b → b + n ≤ P.length → ∀ k, (swr P a b n)[k]? = P[ssrc a b n k]?
  | 0, _, _, k => by
    have : ssrc a b 0 k = k := by unfold ssrc; (repeat' split) <;> omega
    rw [this]; rfl
  | n + 1, h1, h2, k => by
    have ih := swr_get (P := P) (a := a) (b := b) (n := n) (by omega) (by omega)
    rw [swr, swp_get (by rw [swr_len]; omega) (by rw [swr_len]; omega), ih, ih, ih]
    have e1 : ssrc a b n (a + n) = a + n := by unfold ssrc; (repeat' split) <;> omega
    have e2 : ssrc a b n (b + n) = b + n := by unfold ssrc; (repeat' split) <;> omega
    rw [e1, e2]
    by_cases hk : k = b + n
    · rw [if_pos hk]
      congr 1
      unfold ssrc; (repeat' split) <;> omega
    · rw [if_neg hk]
      by_cases hk2 : k = a + n
      · rw [if_pos hk2]
        congr 1
        unfold ssrc; (repeat' split) <;> omega
      · rw [if_neg hk2]
        congr 1
        unfold ssrc; (repeat' split) <;> omega
theorem swr_seg {P : List Par} {a b lo hi : Nat} : ∀ {n : Nat}, lo ≤ a → a + n ≤ b → b + n ≤ hi → hi ≤ P.length → Seg lo hi P (swr P a b n)
  | 0, _, _, _, _ => Seg.refl _ _ _
  | n + 1, h1, h2, h3, h4 => by
    rw [swr]
    exact (swr_seg (n := n) h1 (by omega) (by omega) h4).trans (swp_seg (by omega) (by omega) (by rw [swr_len]; exact h4))
set_option maxRecDepth 100000 in
set_option maxHeartbeats 16000000 in
theorem swr_any (g n c a b k : Nat) (P : List Par) (w : World) (hrow : Row2 w g n P) (hab : a + k ≤ b) (hb : b + k ≤ n) (hn : n ≤ 4398046511104) :
    Calls Try.prog 63 #[.slice (some ⟨g, 0, none⟩) n c, .int .i64 (a : Int), .int .i64 (b : Int), .int .i64 (k : Int), .func (.func 36) #[] #[]] w
      fun e w' => e = .returned (.tuple #[]) ∧ Row2 w' g n (swr P a b k) ∧ Only w w' g := by
  go_enter Try.func63, Try.ntmps63
  go_wp2
  go_loopw [10] (fun s10 wr => ∃ i : Nat, i ≤ k ∧ s10 = .int .i64 (i : Int) ∧ Row2 wr g n (swr P a b i) ∧ Only w wr g) (fun s10 _ => ((k : Int) - intOf s10).toNat)
  case atStart => exact ⟨0, by omega, rfl, hrow, Only.refl _ _⟩
  case round =>
    clear hrow
    obtain ⟨i, hi, rfl, hrow, hon⟩ := hrel
    have hql := hrow.len
    have lg := hrow.lt
    by_cases hlt : i < k
    · have hii : (i : Int) < k := by omega
      generalize hQ : swr P a b i = Q at *
      obtain ⟨x, hx⟩ : ∃ x, Q[a + i]? = some x := ⟨_, List.getElem?_eq_getElem (by omega)⟩
      obtain ⟨y, hy⟩ : ∃ y, Q[b + i]? = some y := ⟨_, List.getElem?_eq_getElem (by omega)⟩
      obtain ⟨m0, m1⟩ := hrow.at_ hx
      obtain ⟨n0, n1⟩ := hrow.at_ hy
      have ha1 : (0 : Int) ≤ (a : Int) + i := by omega
      have ha2 : (a : Int) + i < n := by omega
      have hb1 : (0 : Int) ≤ (b : Int) + i := by omega
      have hb2 : (b : Int) + i < n := by omega
      have hwa : IntKind.i64.wrap ((a : Int) + i) = (a : Int) + i := by rw [IntKind.wrap_i64]; omega
      have hwb : IntKind.i64.wrap ((b : Int) + i) = (b : Int) + i := by rw [IntKind.wrap_i64]; omega
      have hta : ((a : Int) + (i : Int)).toNat = a + i := by omega
      have htb : ((b : Int) + (i : Int)).toNat = b + i := by omega
      have H := hide (⟨hrow, hx, hy, hon⟩ : _ ∧ _ ∧ _ ∧ _)
      have hQ := hide hQ
      clear hrow hx hy hon
      go_wp2
      refine First.wp_region_first_ext [13, 19] [0, 1, 2, 3, 4, 5, 6, 7, 8, 9, 10, 11, 12, 14, 15, 16, 17, 18, 20, 22] [(true, false, 0), (true, false, 1), (true, false, 2), (true, false, 3), (true, false, 4), (true, false, 5), (true, false, 6), (true, false, 7), (true, false, 8), (true, false, 9), (true, false, 10), (true, false, 11), (true, false, 12), (true, true, 13), (true, false, 14), (true, false, 15), (true, false, 16), (true, false, 17), (true, false, 18), (true, true, 19), (true, false, 20), (false, false, 21), (true, false, 22), (false, false, 23)] (by kernel_rfl) (by kernel_rfl) (fun Z => ?_); simp only [List.map_cons, List.map_nil, List.getD_cons_zero, List.getD_cons_succ]
      (repeat (first | (refine First.wpF_pure (fun K hK => ?_); go_simp; first | (refine hK _ _ ?_; clear hK K) | (apply Exists.intro; refine ⟨fun _ => ?_, hK _ _ ?_⟩; fail)) | (refine First.wpF_free (fun K hK => ?_); go_simp; first | (refine hK _ _ ?_; clear hK K))))
      have hrZ : Row2 (wr.ext Z) g n Q := H.out.1.below (World.below_ext _ _) lg
      have hoZ : Only w (wr.ext Z) g := H.out.2.2.2.ext _
      generalize wr.ext Z = W0 at *
      refine First.wpF_must (fun K hK => ?_)
      refine wpList_storeP rfl (.tmp 36) (.tmp 29) rfl g ((a + i) * 2) y rfl rfl (fun j hj => hrZ.some (by omega)) (fun j hj => hrZ.frozen _) ?_
      have hr1 := hrZ.set (a := a + i) (by omega) y
      have ho1 := hoZ.trans (only_setCells y.cells ((a + i) * 2) W0)
      have hsw := hrZ.swap H.out.2.1 H.out.2.2.1
      generalize W0.setCells g ((a + i) * 2) y.cells = W1 at *
      refine hK _ _ (fun hnd => Bool.noConfusion hnd) ?_
      clear hK K
      (repeat (first | (refine First.wpF_pure (fun K hK => ?_); go_simp; first | (refine hK _ _ ?_; clear hK K) | (apply Exists.intro; refine ⟨fun _ => ?_, hK _ _ ?_⟩; fail)) | (refine First.wpF_free (fun K hK => ?_); go_simp; first | (refine hK _ _ ?_; clear hK K))))
      refine First.wpF_must (fun K hK => ?_)
      refine wpList_storeP rfl (.tmp 37) (.tmp 35) rfl g ((b + i) * 2) x rfl rfl (fun j hj => hr1.some (by omega)) (fun j hj => hr1.frozen _) ?_
      have ho2 := ho1.trans (only_setCells x.cells ((b + i) * 2) W1)
      generalize W1.setCells g ((b + i) * 2) x.cells = W2 at *
      refine hK _ _ (fun hnd => Bool.noConfusion hnd) ?_
      clear hK K
      refine First.wpF_nil ?_
      have HH := hide (⟨hsw, ho2⟩ : _ ∧ _)
      clear hrZ hoZ hr1 ho1 hsw ho2
      go_wp2
      go_roundw
      case rel => exact ⟨i + 1, by omega, by go_num, by rw [swr, hQ.out]; exact HH.out.1, HH.out.2⟩
      case measure => simp [intOf]; omega
    · obtain rfl : i = k := by omega
      have HH := hide (⟨hrow, hon⟩ : _ ∧ _)
      clear hrow hon
      go_wp2
      refine bodyPost_end (v := .tuple #[]) (by simp [results, Try.results63, go_sem] <;> rfl) rfl ⟨rfl, ?_⟩
      exact HH.out
/-- Where what stands at k behind the turn stood ahead of it. -/
def src (lo m hi k : Nat) : Nat := if lo ≤ k ∧ k < lo + (hi - m) then k + (m - lo) else if lo + (hi - m) ≤ k ∧ k < hi then k - (hi - m) else k
structure Turn (P Q : List Par) (lo m hi : Nat) : Prop where
  seg : Seg lo hi P Q
  get : ∀ k, Q[k]? = P[src lo m hi k]?
theorem src_left {m i j : Nat} (hi : i ≤ m) (hij : j < i) (k : Nat) : ssrc (m - i) m j (src (m - (i - j)) m (m + j) k) = src (m - i) m (m + j) k := by
  unfold ssrc src
  (repeat' split) <;> omega
theorem src_right {m i j : Nat} (hi : i ≤ m) (hij : i < j) (k : Nat) : ssrc (m - i) (m + j - i) i (src (m - i) m (m + (j - i)) k) = src (m - i) m (m + j) k := by
  unfold ssrc src
  (repeat' split) <;> omega
theorem src_same {m i : Nat} (hi : i ≤ m) (k : Nat) : ssrc (m - i) m i k = src (m - i) m (m + i) k := by
  unfold ssrc src
  (repeat' split) <;> omega
set_option maxRecDepth 100000 in
set_option maxHeartbeats 16000000 in
theorem rot_any (g n c a m b : Nat) (P : List Par) (w : World) (hrow : Row2 w g n P) (ham : a < m) (hmb : m < b) (hb : b ≤ n) (hn : n ≤ 4398046511104) :
    Calls Try.prog 57 #[.slice (some ⟨g, 0, none⟩) n c, .int .i64 (a : Int), .int .i64 (m : Int), .int .i64 (b : Int), .func (.func 36) #[] #[]] w
      fun e w' => e = .returned (.tuple #[]) ∧ (∃ Q, Row2 w' g n Q ∧ Turn P Q a m b) ∧ Only w w' g := by
  go_enter Try.func57, Try.ntmps57
  go_wp2
  go_loopw [10, 11] (fun s10 s11 wr => ∃ (i j : Nat) (Q : List Par), 0 < i ∧ 0 < j ∧ i ≤ m - a ∧ j ≤ b - m ∧ s10 = .int .i64 (i : Int) ∧ s11 = .int .i64 (j : Int) ∧ Row2 wr g n Q ∧ Seg a b P Q ∧ (∀ k, Q[src (m - i) m (m + j) k]? = P[src a m b k]?) ∧ Only w wr g) (fun s10 s11 _ => (intOf s10 + intOf s11).toNat)
  case atStart => exact ⟨m - a, b - m, P, by omega, by omega, by omega, by omega, by congr 1; omega, by congr 1; omega, hrow, Seg.refl _ _ _, fun k => by rw [show m - (m - a) = a by omega, show m + (b - m) = b by omega], Only.refl _ _⟩
  case round =>
    clear hrow
    obtain ⟨i, j, Q, hi0, hj0, him, hjb, rfl, rfl, hrow, hseg, hget, hon⟩ := hrel
    have hql := hrow.len
    rcases Nat.lt_trichotomy i j with hij | rfl | hij
    · have d1 : ((i : Int) != j) = true := by simp; omega
      have d1' : ((i : Int) == j) = false := by simp; omega
      have d2 : ¬ ((j : Int) < i) := by omega
      have hS := swr_any g n c (m - i) (m + j - i) i Q wr hrow (by omega) (by omega) hn
      have e1 : ((m - i : Nat) : Int) = (m : Int) - i := by omega
      have e2 : ((m + j - i : Nat) : Int) = (m : Int) + j - i := by omega
      rw [e1, e2] at hS
      have H := hide (⟨hrow, hseg, hget, hon, e1, e2⟩ : _ ∧ _ ∧ _ ∧ _ ∧ _ ∧ _)
      clear hrow hseg hget hon e1 e2
      go_wp2_with (go_at_call 63; (with_reducible refine hS.mono ?_); rintro e w1 ⟨rfl, hr1, ho1⟩)
      go_roundw
      case rel =>
        obtain ⟨hrow, hseg, hget, hon, _, _⟩ := H.out
        refine ⟨i, j - i, _, hi0, by omega, him, by omega, rfl, by go_num, hr1, hseg.trans (swr_seg (by omega) (by omega) (by omega) (by omega)), fun k => ?_, hon.trans ho1⟩
        rw [swr_get (by omega) (by omega), src_right (by omega) hij]
        exact hget k
      case measure => simp [intOf]; omega
    · have d1 : ((i : Int) != i) = false := by simp
      have hS := swr_any g n c (m - i) m i Q wr hrow (by omega) (by omega) hn
      have e1 : ((m - i : Nat) : Int) = (m : Int) - i := by omega
      rw [e1] at hS
      have H := hide (⟨hrow, hseg, hget, hon, e1⟩ : _ ∧ _ ∧ _ ∧ _ ∧ _)
      clear hrow hseg hget hon e1
      go_wp2_with (go_at_call 63; (with_reducible refine hS.mono ?_); rintro e w1 ⟨rfl, hr1, ho1⟩)
      refine bodyPost_end (v := .tuple #[]) (by simp [results, Try.results57, go_sem] <;> rfl) rfl ⟨rfl, ?_⟩
      obtain ⟨hrow, hseg, hget, hon, _⟩ := H.out
      refine ⟨⟨_, hr1, ⟨hseg.trans (swr_seg (by omega) (by omega) (by omega) (by omega)), fun k => ?_⟩⟩, hon.trans ho1⟩
      rw [swr_get (by omega) (by omega), src_same (by omega)]
      exact hget k
    · have d1 : ((i : Int) != j) = true := by simp; omega
      have d1' : ((i : Int) == j) = false := by simp; omega
      have d2 : (j : Int) < i := by omega
      have hS := swr_any g n c (m - i) m j Q wr hrow (by omega) (by omega) hn
      have e1 : ((m - i : Nat) : Int) = (m : Int) - i := by omega
      rw [e1] at hS
      have H := hide (⟨hrow, hseg, hget, hon, e1⟩ : _ ∧ _ ∧ _ ∧ _ ∧ _)
      clear hrow hseg hget hon e1
      go_wp2_with (go_at_call 63; (with_reducible refine hS.mono ?_); rintro e w1 ⟨rfl, hr1, ho1⟩)
      go_roundw
      case rel =>
        obtain ⟨hrow, hseg, hget, hon, _⟩ := H.out
        refine ⟨i - j, j, _, by omega, hj0, by omega, by omega, by go_num, rfl, hr1, hseg.trans (swr_seg (by omega) (by omega) (by omega) (by omega)), fun k => ?_, hon.trans ho1⟩
        rw [swr_get (by omega) (by omega), src_left (by omega) hij]
        exact hget k
      case measure => simp [intOf]; omega
end Go.Proofs.Ytmfbidhnafpkdaa
