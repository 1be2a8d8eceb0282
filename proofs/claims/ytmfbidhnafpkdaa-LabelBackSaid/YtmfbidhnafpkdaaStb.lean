import Derived.Test.YtmfbidhnafpkdaaIns
/-! The stable sort of labels, as far as it is not the merge. -/
namespace Go.Proofs.Ytmfbidhnafpkdaa
open Go.RowKit
set_option linter.unusedVariables false
set_option linter.unusedSimpArgs false
/-- What the merge of two parts must do. -/
def MergeOk (g n c : Nat) : Prop := ∀ (a m b : Nat) (Q : List Par) (w : World), Row2 w g n Q → a < m → m < b → b ≤ n → SrtS Q a m → SrtS Q m b →
  Calls Try.prog 52 #[.slice (some ⟨g, 0, none⟩) n c, .int .i64 (a : Int), .int .i64 (m : Int), .int .i64 (b : Int), .func (.func 36) #[] #[]] w
    fun e w' => e = .returned (.tuple #[]) ∧ (∃ R, Row2 w' g n R ∧ Seg a b Q R ∧ SrtS R a b) ∧ Only w w' g
def AllB (Q : List Par) (bs n : Nat) : Prop := ∀ k, SrtS Q (k * bs) (min (k * bs + bs) n)
theorem allB_first {Q R : List Par} {a n k0 : Nat} (ha : a = k0 * 20) (hn : n < a + 20) (h : ∀ k, k < k0 → SrtS Q (k * 20) (k * 20 + 20)) (hs : Seg a n Q R) (hr : SrtS R a n) (han : a ≤ n) : AllB R 20 n := fun k => by
  rcases Nat.lt_trichotomy k k0 with hk | rfl | hk
  · have := h k hk
    exact (this.congr fun i h1 h2 => hs.out i (.inl (by omega))).part (Nat.le_refl _) (by omega)
  · subst ha
    exact hr.part (Nat.le_refl _) (by omega)
  · exact SrtS.none _ (by omega)
/-- Where the merges of one round stand. -/
structure Mid (Q : List Par) (bs n a k0 : Nat) : Prop where
  at_ : a = 2 * k0 * bs
  done : ∀ k, k < k0 → SrtS Q (2 * k * bs) (2 * k * bs + 2 * bs)
  rest : ∀ k, 2 * k0 ≤ k → SrtS Q (k * bs) (min (k * bs + bs) n)
theorem Mid.start {Q : List Par} {bs n : Nat} (h : AllB Q bs n) : Mid Q bs n 0 0 := ⟨by simp, fun k hk => by omega, fun k _ => h k⟩
theorem Mid.left {Q : List Par} {bs n a k0 : Nat} (h : Mid Q bs n a k0) : SrtS Q a (min (a + bs) n) := by
  have := h.rest (2 * k0) (Nat.le_refl _)
  rw [← h.at_] at this
  exact this
theorem Mid.right {Q : List Par} {bs n a k0 : Nat} (h : Mid Q bs n a k0) : SrtS Q (a + bs) (min (a + 2 * bs) n) := by
  have := h.rest (2 * k0 + 1) (by omega)
  rw [Nat.add_mul, ← h.at_, Nat.one_mul] at this
  exact this.part (Nat.le_refl _) (by omega)
theorem Mid.step {Q R : List Par} {bs n a k0 : Nat} (h : Mid Q bs n a k0) (hs : Seg a (a + 2 * bs) Q R) (hr : SrtS R a (a + 2 * bs)) : Mid R bs n (a + 2 * bs) (k0 + 1) := by
  have e : 2 * (k0 + 1) * bs = a + 2 * bs := by rw [h.at_, Nat.mul_add, Nat.add_mul]
  refine ⟨e.symm, fun k hk => ?_, fun k hk => ?_⟩
  · rcases Nat.lt_or_ge k k0 with h' | h'
    · have hle : 2 * (k + 1) * bs ≤ 2 * k0 * bs := Nat.mul_le_mul_right _ (by omega)
      have e2 : 2 * (k + 1) * bs = 2 * k * bs + 2 * bs := by rw [Nat.mul_add, Nat.add_mul]
      have ha := h.at_
      exact (h.done k h').congr fun i h1 h2 => hs.out i (.inl (by omega))
    · obtain rfl : k = k0 := by omega
      rw [← h.at_]
      exact hr
  · have hle : 2 * (k0 + 1) * bs ≤ k * bs := Nat.mul_le_mul_right _ hk
    exact (h.rest k (by omega)).congr fun i h1 h2 => hs.out i (.inr (by omega))
theorem Mid.allB {Q : List Par} {bs n a k0 : Nat} (h : Mid Q bs n a k0) (hn : n < a + 2 * bs) (hr : SrtS Q a n) : AllB Q (2 * bs) n := fun k => by
  have e : k * (2 * bs) = 2 * k * bs := by rw [← Nat.mul_assoc, Nat.mul_comm k 2]
  rw [e]
  rcases Nat.lt_trichotomy k k0 with hk | rfl | hk
  · exact (h.done k hk).part (Nat.le_refl _) (by omega)
  · rw [← h.at_]
    exact hr.part (Nat.le_refl _) (by omega)
  · have hle : 2 * (k0 + 1) * bs ≤ 2 * k * bs := Nat.mul_le_mul_right _ (by omega)
    have e2 : 2 * (k0 + 1) * bs = a + 2 * bs := by rw [h.at_, Nat.mul_add, Nat.add_mul]
    exact SrtS.none _ (by omega)
theorem Mid.last {Q R : List Par} {bs n a k0 : Nat} (h : Mid Q bs n a k0) (hs : Seg a n Q R) (hr : SrtS R a n) (hn : n < a + 2 * bs) : AllB R (2 * bs) n := by
  refine Mid.allB (Q := R) (a := a) (k0 := k0) ⟨h.at_, fun k hk => ?_, fun k hk => ?_⟩ hn hr
  · have hle : 2 * (k + 1) * bs ≤ 2 * k0 * bs := Nat.mul_le_mul_right _ (by omega)
    have e2 : 2 * (k + 1) * bs = 2 * k * bs + 2 * bs := by rw [Nat.mul_add, Nat.add_mul]
    have ha := h.at_
    exact (h.done k hk).congr fun i h1 h2 => hs.out i (.inl (by omega))
  · have hle : 2 * k0 * bs ≤ k * bs := Nat.mul_le_mul_right _ hk
    have ha := h.at_
    exact hr.part (by omega) (by omega)
set_option maxRecDepth 100000 in
set_option maxHeartbeats 16000000 in
theorem stable_of (g n c : Nat) (P : List Par) (w : World) (hrow : Row2 w g n P) (hn : n ≤ 4398046511104) (hM : 20 < n → MergeOk g n c) :
    Calls Try.prog 45 #[.slice (some ⟨g, 0, none⟩) n c, .int .i64 (n : Int), .func (.func 36) #[] #[]] w
      fun e w' => e = .returned (.tuple #[]) ∧ (∃ Q, Row2 w' g n Q ∧ Seg 0 n P Q ∧ SrtS Q 0 n) ∧ Only w w' g := by
  go_enter Try.func45, Try.ntmps45
  go_wp2
  go_loopw [7, 8] (fun s7 s8 wr => ∃ (a k0 : Nat) (Q : List Par), a = k0 * 20 ∧ a ≤ n ∧ s7 = .int .i64 (a : Int) ∧ s8 = .int .i64 ((a : Int) + 20) ∧ Row2 wr g n Q ∧ Seg 0 n P Q ∧ (∀ k, k < k0 → SrtS Q (k * 20) (k * 20 + 20)) ∧ Only w wr g) (fun s7 _ _ => ((n : Int) - intOf s7).toNat)
  case atStart => exact ⟨0, 0, P, by omega, by omega, rfl, rfl, hrow, Seg.refl _ _ _, fun k hk => by omega, Only.refl _ _⟩
  case round =>
    clear hrow
    obtain ⟨a, k0, Q, hak, han, rfl, rfl, hrow, hseg, hdone, hon⟩ := hrel
    by_cases hlt : a + 20 ≤ n
    · have hii : (a : Int) + 20 ≤ n := by omega
      have hI := ins_any g n c a (a + 20) Q wr hrow hlt (by omega) (by omega)
      have e20 : ((a + 20 : Nat) : Int) = (a : Int) + 20 := by omega
      rw [e20] at hI
      have H := hide (⟨hrow, hseg, hdone, hon, hak, han, e20⟩ : _ ∧ _ ∧ _ ∧ _ ∧ _ ∧ _ ∧ _)
      clear hrow hseg hdone hon hak han e20
      go_wp2_with (go_at_call 51; (with_reducible refine hI.mono ?_); rintro e w1 ⟨rfl, ⟨R, hrR, hsR, hSR⟩, hoR⟩)
      go_roundw
      case rel =>
        obtain ⟨hrow, hseg, hdone, hon, hak, han, e20⟩ := H.out
        refine ⟨a + 20, k0 + 1, R, by omega, by omega, by go_num, by go_num, hrR, hseg.trans (hsR.wide (by omega) (by omega)), fun k hk => ?_, hon.trans hoR⟩
        rcases Nat.lt_or_ge k k0 with h' | h'
        · exact (hdone k h').congr fun i h1 h2 => hsR.out i (.inl (by omega))
        · obtain rfl : k = k0 := by omega
          rw [← hak]
          exact hSR
      case measure => have := H.out.2.2.2.2.2.1; simp [intOf]; omega
    · have hii : ¬ ((a : Int) + 20 ≤ n) := by omega
      have hI := ins_any g n c a n Q wr hrow (Nat.le_refl _) (by omega) (by omega)
      have H := hide (⟨hrow, hseg, hdone, hon, hak, han⟩ : _ ∧ _ ∧ _ ∧ _ ∧ _ ∧ _)
      clear hrow hseg hdone hon hak han
      go_wp2_with (go_at_call 51; (with_reducible refine hI.mono ?_); rintro e w1 ⟨rfl, ⟨R, hrR, hsR, hSR⟩, hoR⟩)
      have hA : AllB R 20 n := by
        obtain ⟨hrow, hseg, hdone, hon, hak, han⟩ := H.out
        exact allB_first hak (by omega) hdone hsR hSR han
      have hS0 : Seg 0 n P R := H.out.2.1.trans (hsR.wide (Nat.zero_le _) (Nat.le_refl _))
      have hO0 : Only w w1 g := H.out.2.2.2.1.trans hoR
      clear H hI hsR hSR hoR hii hlt
      go_loopw [6] (fun s6 wr => ∃ (bs : Nat) (Q : List Par), 20 ≤ bs ∧ bs ≤ 2 * n + 20 ∧ s6 = .int .i64 (bs : Int) ∧ Row2 wr g n Q ∧ Seg 0 n P Q ∧ AllB Q bs n ∧ Only w wr g) (fun s6 _ => ((n : Int) - intOf s6).toNat)
      case atStart => exact ⟨20, R, by omega, by omega, rfl, hrR, hS0, hA, hO0⟩
      case round =>
        clear hrR hS0 hA hO0
        obtain ⟨bs, Q, hb20, hb2, rfl, hrow, hseg, hA, hon⟩ := hrel
        by_cases hbn : bs < n
        · have hii : (bs : Int) < n := by omega
          have hMM := hM (by omega)
          have hH := hide hMM
          clear hMM
          have hm0 := Mid.start hA
          clear hA
          go_wp2
          go_loopw [7, 8] (fun s7 s8 U => ∃ (a k0 : Nat) (Q : List Par), a ≤ n ∧ s7 = .int .i64 (a : Int) ∧ s8 = .int .i64 ((a : Int) + 2 * bs) ∧ Row2 U g n Q ∧ Seg 0 n P Q ∧ Mid Q bs n a k0 ∧ Only w U g) (fun s7 _ _ => ((n : Int) - intOf s7).toNat)
          case atStart => exact ⟨0, 0, Q, by omega, rfl, by simp, hrow, hseg, hm0, hon⟩
          case round =>
            clear hrow hseg hm0 hon
            obtain ⟨a, k0, Q, han, rfl, rfl, hrow, hseg, hm, hon⟩ := hrel
            by_cases hlt : a + 2 * bs ≤ n
            · have hjj : (a : Int) + 2 * bs ≤ n := by omega
              have hC := hH.out a (a + bs) (a + 2 * bs) Q _ hrow (by omega) (by omega) hlt (hm.left.part (Nat.le_refl _) (by omega)) (hm.right.part (Nat.le_refl _) (by omega))
              have e1 : ((a + bs : Nat) : Int) = (a : Int) + bs := by omega
              have e2 : ((a + 2 * bs : Nat) : Int) = (a : Int) + 2 * bs := by omega
              rw [e1, e2] at hC
              have H := hide (⟨hrow, hseg, hm, hon, han, e1, e2⟩ : _ ∧ _ ∧ _ ∧ _ ∧ _ ∧ _ ∧ _)
              clear hrow hseg hm hon e1 e2
              go_wp2_with (go_at_call 52; (with_reducible refine hC.mono ?_); rintro e w2 ⟨rfl, ⟨R2, hr2, hs2, hS2⟩, ho2⟩)
              go_roundw
              case rel =>
                obtain ⟨hrow, hseg, hm, hon, _, _, _⟩ := H.out
                exact ⟨a + 2 * bs, k0 + 1, R2, by omega, by go_num, by go_num, hr2, hseg.trans (hs2.wide (by omega) (by omega)), hm.step hs2 hS2, hon.trans ho2⟩
              case measure => simp [intOf]; omega
            · have hjj : ¬ ((a : Int) + 2 * bs ≤ n) := by omega
              by_cases hmn : a + bs < n
              · have hmm : (a : Int) + bs < n := by omega
                have hC := hH.out a (a + bs) n Q _ hrow (by omega) (by omega) (Nat.le_refl _) (hm.left.part (Nat.le_refl _) (by omega)) (hm.right.part (Nat.le_refl _) (by omega))
                have e1 : ((a + bs : Nat) : Int) = (a : Int) + bs := by omega
                rw [e1] at hC
                have H := hide (⟨hrow, hseg, hm, hon, han, e1⟩ : _ ∧ _ ∧ _ ∧ _ ∧ _ ∧ _)
                clear hrow hseg hm hon e1
                go_wp2_with (go_at_call 52; (with_reducible refine hC.mono ?_); rintro e w2 ⟨rfl, ⟨R2, hr2, hs2, hS2⟩, ho2⟩)
                go_roundw
                case rel =>
                  obtain ⟨hrow, hseg, hm, hon, _, _⟩ := H.out
                  exact ⟨2 * bs, R2, by omega, by omega, by go_num, hr2, hseg.trans (hs2.wide (by omega) (by omega)), hm.last hs2 hS2 (by omega), hon.trans ho2⟩
                case measure => simp [intOf]; omega
              · have hmm : ¬ ((a : Int) + bs < n) := by omega
                have hA2 := hm.allB (by omega) (hm.left.part (Nat.le_refl _) (by omega))
                have H := hide (⟨hrow, hseg, hA2, hon⟩ : _ ∧ _ ∧ _ ∧ _)
                clear hrow hseg hm hon hA2
                go_wp2
                go_roundw
                case rel =>
                  obtain ⟨hrow, hseg, hA2, hon⟩ := H.out
                  exact ⟨2 * bs, Q, by omega, by omega, by go_num, hrow, hseg, hA2, hon⟩
                case measure => simp [intOf]; omega
        · have hii : ¬ ((bs : Int) < n) := by omega
          have hS : SrtS Q 0 n := by
            have := hA 0
            rw [Nat.zero_mul, Nat.zero_add] at this
            exact this.part (Nat.le_refl _) (by omega)
          have H := hide (⟨⟨Q, hrow, hseg, hS⟩, hon⟩ : (∃ Q, Row2 wr g n Q ∧ Seg 0 n P Q ∧ SrtS Q 0 n) ∧ _)
          clear hrow hseg hA hS hon
          go_wp2
          refine bodyPost_end (v := .tuple #[]) (by simp [results, Try.results45, go_sem] <;> rfl) rfl ⟨rfl, ?_⟩
          exact H.out
end Go.Proofs.Ytmfbidhnafpkdaa
