import Derived.Test.YtmfbidhnafpkdaaDoorPq
import Derived.Test.YtmfbidhnafpkdaaDoorOn
import Derived.Test.YtmfbidhnafpkdaaDoorMt2
import Derived.WalkSpells
import Derived.WalkLawsBesides
import Derived.WalkMore
/-! The rules with which a text begins: the document's. -/
namespace Go.Proofs.YtmfbidhnafpkdaaDoor
open Go.RowKit
set_option linter.unusedVariables false
set_option linter.unusedSimpArgs false
theorem nmB_one (x : UInt8) : nmB ⟨#[x]⟩ = nmC 0 x := by
  have hz : (⟨#[x]⟩ : ByteArray).size = 1 := rfl
  unfold nmB nmA nmT
  rw [hz]
  simp [List.range_succ]
theorem lt_or (x : UInt8) : lt x = (nmC 0 x || (decide (48 ≤ x.toNat) && decide (x.toNat ≤ 57))) := by
  unfold lt nmC
  simp
theorem ltN_take {l : List UInt8} {n : Nat} (h : ∀ j x, j < n → l[j]? = some x → lt x = true) (hn : n ≤ l.length) : ltN l = n + ltN (l.drop n) := by
  induction n generalizing l with
  | zero => simp
  | succ n ih =>
    cases l with
    | nil => simp at hn
    | cons y l =>
      rw [ltN, if_pos (h 0 y (by omega) rfl), ih (l := l) (fun j x hj hx => h (j + 1) x (by omega) (by simpa using hx)) (by simpa using hn)]
      simp; omega
theorem ext_one {s : ByteArray} {k : Nat} (h : k < s.size) : s.extract k (k + 1) = ⟨#[s[k]]⟩ := by
  have h1 : (s.extract k (k + 1)).data.toList = [s[k]] := by
    rw [Lib.extract_data, drop_at h, show k + 1 - k = 1 from by omega]
    rfl
  rw [← Lib.mk_data (s.extract k (k + 1)), h1]
set_option maxRecDepth 100000 in
set_option maxHeartbeats 8000000 in
theorem letters_any (s : ByteArray) (at_ : Nat) (ha : at_ ≤ s.size) (hs : s.size ≤ 3000000000000) (w : World) :
    Calls Tryd.prog 33 #[.string s, .int .i64 (at_ : Int)] w fun e w' => e = .returned (.int .i64 (ltN (s.data.toList.drop at_) : Nat)) ∧ w' = w := by
  go_enter Tryd.func33, Tryd.ntmps33
  go_wp2
  go_loopw [5] (fun s5 wr => ∃ n : Nat, at_ + n ≤ s.size ∧ s5 = .int .i64 (n : Int) ∧ (∀ j z, j < n → (s.data.toList.drop at_)[j]? = some z → lt z = true) ∧ wr = w) (fun s5 _ => ((s.size : Int) - intOf s5).toNat)
  case atStart => exact ⟨0, by omega, rfl, fun j z hj => by omega, rfl⟩
  case round =>
    obtain ⟨n, hn, rfl, hno, rfl⟩ := hrel
    by_cases hlt : at_ + n < s.size
    · have i1 : (at_ : Int) + n < s.size := by omega
      have i2 : (at_ : Int) + n + 1 ≤ s.size := by omega
      have i3 : (at_ : Int) + n ≤ s.size := by omega
      have i4 : (0 : Int) ≤ (at_ : Int) + n := by omega
      have i5 : (at_ : Int) + n ≤ (at_ : Int) + n + 1 := by omega
      have i6 : IntKind.i64.wrap ((at_ : Int) + n) = (at_ : Int) + n := by rw [IntKind.wrap_i64]; omega
      have i7 : IntKind.i64.wrap ((at_ : Int) + n + 1) = (at_ : Int) + n + 1 := by rw [IntKind.wrap_i64]; omega
      have hN := fun w => rname_any (s.extract (at_ + n) (at_ + n + 1)) (by rw [ByteArray.size_extract]; unfold maxLen; omega) w
      obtain ⟨x, hx⟩ : ∃ x, s[at_ + n] = x := ⟨_, rfl⟩
      have hget : (s.data.toList.drop at_)[n]? = some x := by
        have := congrArg (fun l => l[0]?) (drop_at hlt)
        simpa [hx] using this
      have hb : nmB (s.extract (at_ + n) (at_ + n + 1)) = nmC 0 x := by rw [ext_one hlt, nmB_one, hx]
      rw [hb] at hN
      have hor := lt_or x
      cases hc : nmC 0 x with
      | true =>
        rw [hc] at hN hor
        have hgood : lt x = true := by rw [hor]; rfl
        clear hor hc hb hx
        have hx' : ∀ j z, j < n + 1 → (s.data.toList.drop at_)[j]? = some z → lt z = true := fun j z hj hz => by
          rcases Nat.lt_or_ge j n with h | h
          · exact hno j z h hz
          · obtain rfl : j = n := by omega
            rw [hget] at hz
            cases hz
            exact hgood
        have H := hide hx'
        clear hx' hno hget hgood
        go_wp2_with (go_at_call 25; (with_reducible refine (hN _).mono ?_); rintro e w1 ⟨rfl, rfl⟩)
        go_roundw
        case rel => exact ⟨n + 1, by omega, by go_num, H.out, by trivial⟩
        case measure => first | (simp [intOf]; done) | (simp [intOf]; omega)
      | false =>
        rw [hc] at hN hor
        rcases Nat.lt_or_ge x.toNat 48 with h1 | h1
        · have hbad : lt x = false := by rw [hor, decide_eq_false (by omega)]; rfl
          have d1 : decide ((48 : Int) ≤ (x.toNat : Int)) = false := decide_eq_false (by omega)
          clear hor hc hb h1
          have hF := hide (show ltN (s.data.toList.drop at_) = n from by
            have hl := Lib.size_eq s
            rw [ltN_take hno (by rw [List.length_drop]; omega), List.drop_drop, drop_at hlt, ltN, if_neg (by rw [hx, hbad]; simp)]
            rfl)
          clear hno hget hbad
          go_wp2_with (go_at_call 25; (with_reducible refine (hN _).mono ?_); rintro e w1 ⟨rfl, rfl⟩)
          go_ret
          exact ⟨by rw [hF.out]; rfl, rfl⟩
        rcases Nat.lt_or_ge 57 x.toNat with h2 | h2
        · have hbad : lt x = false := by rw [hor, decide_eq_true h1, decide_eq_false (by omega)]; rfl
          have d1 : decide ((48 : Int) ≤ (x.toNat : Int)) = true := decide_eq_true (by omega)
          have d2 : decide ((x.toNat : Int) ≤ 57) = false := decide_eq_false (by omega)
          clear hor hc hb h1 h2
          have hF := hide (show ltN (s.data.toList.drop at_) = n from by
            have hl := Lib.size_eq s
            rw [ltN_take hno (by rw [List.length_drop]; omega), List.drop_drop, drop_at hlt, ltN, if_neg (by rw [hx, hbad]; simp)]
            rfl)
          clear hno hget hbad
          go_wp2_with (go_at_call 25; (with_reducible refine (hN _).mono ?_); rintro e w1 ⟨rfl, rfl⟩)
          go_ret
          exact ⟨by rw [hF.out]; rfl, rfl⟩
        · have hgood : lt x = true := by rw [hor, decide_eq_true h1, decide_eq_true h2]; rfl
          have d1 : decide ((48 : Int) ≤ (x.toNat : Int)) = true := decide_eq_true (by omega)
          have d2 : decide ((x.toNat : Int) ≤ 57) = true := decide_eq_true (by omega)
          clear hor hc hb h1 h2
          have hx' : ∀ j z, j < n + 1 → (s.data.toList.drop at_)[j]? = some z → lt z = true := fun j z hj hz => by
            rcases Nat.lt_or_ge j n with h | h
            · exact hno j z h hz
            · obtain rfl : j = n := by omega
              rw [hget] at hz
              cases hz
              exact hgood
          have H := hide hx'
          clear hx' hno hget hgood
          go_wp2_with (go_at_call 25; (with_reducible refine (hN _).mono ?_); rintro e w1 ⟨rfl, rfl⟩)
          go_roundw
          case rel => exact ⟨n + 1, by omega, by go_num, H.out, by trivial⟩
          case measure => first | (simp [intOf]; done) | (simp [intOf]; omega)
    · have hF := hide (show ltN (s.data.toList.drop at_) = n from by
        have hl := Lib.size_eq s
        rw [ltN_take hno (by rw [List.length_drop]; omega), List.drop_drop, drop_end (by omega)]
        rfl)
      have i1 : ¬ (at_ : Int) + n < s.size := by omega
      clear hno
      go_wp2
      go_ret
      exact ⟨by rw [hF.out]; rfl, rfl⟩
end Go.Proofs.YtmfbidhnafpkdaaDoor
