import Derived.Test.YtmfbidhnafpkdaaDoorChecked
import Derived.Test.YtmfbidhnafpkdaaDoorStr
import Derived.Test.YtmfbidhnafpkdaaDoorOnly
import Derived.Sort.Walk0
/-! Names and values: bytes by bytes, the program's and the document's. -/
namespace Go.Proofs.YtmfbidhnafpkdaaDoor
open Go.RowKit
set_option linter.unusedVariables false
set_option linter.unusedSimpArgs false
def nmC (i : Nat) (x : UInt8) : Bool := (decide (97 ≤ x.toNat) && decide (x.toNat ≤ 122)) || (decide (65 ≤ x.toNat) && decide (x.toNat ≤ 90)) || decide (x.toNat = 95) || (decide (0 < i) && decide (48 ≤ x.toNat) && decide (x.toNat ≤ 57))
def vlC (x : UInt8) : Bool := decide (32 ≤ x.toNat) && decide (x.toNat ≤ 126)
/-- The first 'n' bytes are bytes of a name. -/
def nmT (s : ByteArray) (n : Nat) : Bool := (List.range n).all fun i => nmC i (s.data.toList.getD i 0)
def vlT (s : ByteArray) (n : Nat) : Bool := (List.range n).all fun i => vlC (s.data.toList.getD i 0)
def nmA (s : ByteArray) : Bool := nmT s s.size
def vlA (s : ByteArray) : Bool := vlT s s.size
def nmB (s : ByteArray) : Bool := decide (1 ≤ s.size) && decide (s.size ≤ 32) && nmA s
def vlB (s : ByteArray) : Bool := decide (1 ≤ s.size) && decide (s.size ≤ 64) && vlA s
theorem byte_at {s : ByteArray} {i : Nat} (h : i < s.size) : s.data.toList.getD i 0 = s[i] := by
  rw [List.getD_eq_getElem?_getD, List.getElem?_eq_getElem (by rw [Array.length_toList]; exact h)]
  rfl
theorem nmA_no {s : ByteArray} {i : Nat} (h : i < s.size) (hc : nmC i s[i] = false) : nmA s = false := by
  simp only [nmA, nmT, List.all_eq_false]
  exact ⟨i, by simpa using h, by rw [byte_at h, hc]; simp⟩
theorem nmA_up {s : ByteArray} {i : Nat} (ha : nmT s i = true) (h : i < s.size) (hc : nmC i s[i] = true) : nmT s (i + 1) = true := by
  simp only [nmT] at *
  rw [List.range_succ, List.all_append, ha]
  simp only [List.all_cons, List.all_nil, Bool.and_true, Bool.true_and]
  rw [byte_at h, hc]
theorem vlA_no {s : ByteArray} {i : Nat} (h : i < s.size) (hc : vlC s[i] = false) : vlA s = false := by
  simp only [vlA, vlT, List.all_eq_false]
  exact ⟨i, by simpa using h, by rw [byte_at h, hc]; simp⟩
theorem vlA_up {s : ByteArray} {i : Nat} (ha : vlT s i = true) (h : i < s.size) (hc : vlC s[i] = true) : vlT s (i + 1) = true := by
  simp only [vlT] at *
  rw [List.range_succ, List.all_append, ha]
  simp only [List.all_cons, List.all_nil, Bool.and_true, Bool.true_and]
  rw [byte_at h, hc]
theorem str_empty {s : ByteArray} (h : s.size = 0) : s.toList = [] := by
  rw [ByteArray.toList_eq]
  exact List.eq_nil_of_length_eq_zero (by rw [← Lib.size_eq]; exact h)
theorem str_some {s : ByteArray} (h : 0 < s.size) : ¬ s.toList = [] ∧ s.toList.isEmpty = false := by
  rw [ByteArray.toList_eq]
  have h1 : ¬ s.data.toList = [] := fun e => by rw [Lib.size_eq, e] at h; cases h
  exact ⟨h1, by rw [List.isEmpty_eq_false_iff]; exact h1⟩
set_option maxRecDepth 100000 in
set_option maxHeartbeats 16000000 in
theorem pname_any (s : ByteArray) (hs : s.size ≤ maxLen) (w : World) :
    Calls Tryd.prog 23 #[.string s] w fun e w' => e = .returned (.bool (nmB s)) ∧ w' = w := by
  unfold maxLen at hs
  rcases Nat.eq_zero_or_pos s.size with h0 | h0
  · have he := str_empty h0
    have he' : s.toList.isEmpty = true := by rw [he]; rfl
    have hF := hide (show nmB s = false by simp [nmB, h0])
    go_enter Tryd.func23, Tryd.ntmps23
    go_wp2
    go_ret
    exact ⟨by rw [hF.out]; rfl, rfl⟩
  obtain ⟨he, he'⟩ := str_some h0
  by_cases h32 : s.size ≤ 32
  · have h32i : (s.size : Int) ≤ 32 := by omega
    have ht : nmB s = nmA s := by simp [nmB, h32, show 1 ≤ s.size from h0]
    rw [ht]
    go_enter Tryd.func23, Tryd.ntmps23
    go_wp2
    go_loopw [15] (fun s15 wr => ∃ i : Nat, i ≤ s.size ∧ s15 = .int .i64 (i : Int) ∧ nmT s i = true ∧ wr = w) (fun s15 _ => ((s.size : Int) - intOf s15).toNat)
    case atStart => exact ⟨0, by omega, rfl, rfl, rfl⟩
    case round =>
      obtain ⟨i, hi, rfl, hno, rfl⟩ := hrel
      by_cases hlt : i < s.size
      · rcases Nat.eq_zero_or_pos i with rfl | hip
        · obtain ⟨x, hx⟩ : ∃ x : UInt8, s[0] = x := ⟨_, rfl⟩
          have hii : (0 : Int) < s.size := by omega
          rcases Nat.lt_or_ge x.toNat 48 with h1 | h1
          · have hc : nmC 0 x = false := by simp [nmC]; omega
            have hF : nmA s = false := nmA_no hlt (by rw [hx]; exact hc)
            have hF := hide hF
            clear hc hno
            first | (have d1 : decide ((97 : Int) ≤ (x.toNat : Int)) = true := decide_eq_true (by omega)) | (have d1 : decide ((97 : Int) ≤ (x.toNat : Int)) = false := decide_eq_false (by omega))
            first | (have d2 : decide ((x.toNat : Int) ≤ 122) = true := decide_eq_true (by omega)) | (have d2 : decide ((x.toNat : Int) ≤ 122) = false := decide_eq_false (by omega))
            first | (have d3 : decide ((65 : Int) ≤ (x.toNat : Int)) = true := decide_eq_true (by omega)) | (have d3 : decide ((65 : Int) ≤ (x.toNat : Int)) = false := decide_eq_false (by omega))
            first | (have d4 : decide ((x.toNat : Int) ≤ 90) = true := decide_eq_true (by omega)) | (have d4 : decide ((x.toNat : Int) ≤ 90) = false := decide_eq_false (by omega))
            first | (have d5 : ((x.toNat : Int) == 95) = true := by simp; omega) | (have d5 : ((x.toNat : Int) == 95) = false := by simp; omega)
            first | (have d6 : decide ((x.toNat : Int) < 48) = true := decide_eq_true (by omega)) | (have d6 : decide ((x.toNat : Int) < 48) = false := decide_eq_false (by omega))
            first | (have d7 : decide ((48 : Int) ≤ (x.toNat : Int)) = true := decide_eq_true (by omega)) | (have d7 : decide ((48 : Int) ≤ (x.toNat : Int)) = false := decide_eq_false (by omega))
            first | (have d8 : decide ((57 : Int) < (x.toNat : Int)) = true := decide_eq_true (by omega)) | (have d8 : decide ((57 : Int) < (x.toNat : Int)) = false := decide_eq_false (by omega))
            first | (have d9 : decide ((x.toNat : Int) ≤ 57) = true := decide_eq_true (by omega)) | (have d9 : decide ((x.toNat : Int) ≤ 57) = false := decide_eq_false (by omega))
            go_wp2
            go_ret
            exact ⟨by simp [nmB, hF.out], by trivial⟩
          rcases Nat.lt_or_ge 57 x.toNat with h2 | h2
          rcases Nat.lt_or_ge x.toNat 65 with h3 | h3
          · have hc : nmC 0 x = false := by simp [nmC]; omega
            have hF : nmA s = false := nmA_no hlt (by rw [hx]; exact hc)
            have hF := hide hF
            clear hc hno
            first | (have d1 : decide ((97 : Int) ≤ (x.toNat : Int)) = true := decide_eq_true (by omega)) | (have d1 : decide ((97 : Int) ≤ (x.toNat : Int)) = false := decide_eq_false (by omega))
            first | (have d2 : decide ((x.toNat : Int) ≤ 122) = true := decide_eq_true (by omega)) | (have d2 : decide ((x.toNat : Int) ≤ 122) = false := decide_eq_false (by omega))
            first | (have d3 : decide ((65 : Int) ≤ (x.toNat : Int)) = true := decide_eq_true (by omega)) | (have d3 : decide ((65 : Int) ≤ (x.toNat : Int)) = false := decide_eq_false (by omega))
            first | (have d4 : decide ((x.toNat : Int) ≤ 90) = true := decide_eq_true (by omega)) | (have d4 : decide ((x.toNat : Int) ≤ 90) = false := decide_eq_false (by omega))
            first | (have d5 : ((x.toNat : Int) == 95) = true := by simp; omega) | (have d5 : ((x.toNat : Int) == 95) = false := by simp; omega)
            first | (have d6 : decide ((x.toNat : Int) < 48) = true := decide_eq_true (by omega)) | (have d6 : decide ((x.toNat : Int) < 48) = false := decide_eq_false (by omega))
            first | (have d7 : decide ((48 : Int) ≤ (x.toNat : Int)) = true := decide_eq_true (by omega)) | (have d7 : decide ((48 : Int) ≤ (x.toNat : Int)) = false := decide_eq_false (by omega))
            first | (have d8 : decide ((57 : Int) < (x.toNat : Int)) = true := decide_eq_true (by omega)) | (have d8 : decide ((57 : Int) < (x.toNat : Int)) = false := decide_eq_false (by omega))
            first | (have d9 : decide ((x.toNat : Int) ≤ 57) = true := decide_eq_true (by omega)) | (have d9 : decide ((x.toNat : Int) ≤ 57) = false := decide_eq_false (by omega))
            go_wp2
            go_ret
            exact ⟨by simp [nmB, hF.out], by trivial⟩
          rcases Nat.lt_or_ge 90 x.toNat with h4 | h4
          rcases Nat.lt_or_ge x.toNat 97 with h5 | h5
          by_cases h6 : x.toNat = 95
          · have hc : nmC 0 x = true := by simp [nmC]; omega
            have HN := hide (nmA_up hno hlt (by rw [hx]; exact hc))
            clear hc hno
            first | (have d1 : decide ((97 : Int) ≤ (x.toNat : Int)) = true := decide_eq_true (by omega)) | (have d1 : decide ((97 : Int) ≤ (x.toNat : Int)) = false := decide_eq_false (by omega))
            first | (have d2 : decide ((x.toNat : Int) ≤ 122) = true := decide_eq_true (by omega)) | (have d2 : decide ((x.toNat : Int) ≤ 122) = false := decide_eq_false (by omega))
            first | (have d3 : decide ((65 : Int) ≤ (x.toNat : Int)) = true := decide_eq_true (by omega)) | (have d3 : decide ((65 : Int) ≤ (x.toNat : Int)) = false := decide_eq_false (by omega))
            first | (have d4 : decide ((x.toNat : Int) ≤ 90) = true := decide_eq_true (by omega)) | (have d4 : decide ((x.toNat : Int) ≤ 90) = false := decide_eq_false (by omega))
            first | (have d5 : ((x.toNat : Int) == 95) = true := by simp; omega) | (have d5 : ((x.toNat : Int) == 95) = false := by simp; omega)
            first | (have d6 : decide ((x.toNat : Int) < 48) = true := decide_eq_true (by omega)) | (have d6 : decide ((x.toNat : Int) < 48) = false := decide_eq_false (by omega))
            first | (have d7 : decide ((48 : Int) ≤ (x.toNat : Int)) = true := decide_eq_true (by omega)) | (have d7 : decide ((48 : Int) ≤ (x.toNat : Int)) = false := decide_eq_false (by omega))
            first | (have d8 : decide ((57 : Int) < (x.toNat : Int)) = true := decide_eq_true (by omega)) | (have d8 : decide ((57 : Int) < (x.toNat : Int)) = false := decide_eq_false (by omega))
            first | (have d9 : decide ((x.toNat : Int) ≤ 57) = true := decide_eq_true (by omega)) | (have d9 : decide ((x.toNat : Int) ≤ 57) = false := decide_eq_false (by omega))
            go_wp2
            go_roundw
            case rel => exact ⟨_, Nat.succ_le_of_lt hlt, by go_num, HN.out, by trivial⟩
            case measure => simp [intOf]; omega
          · have hc : nmC 0 x = false := by simp [nmC]; omega
            have hF : nmA s = false := nmA_no hlt (by rw [hx]; exact hc)
            have hF := hide hF
            clear hc hno
            first | (have d1 : decide ((97 : Int) ≤ (x.toNat : Int)) = true := decide_eq_true (by omega)) | (have d1 : decide ((97 : Int) ≤ (x.toNat : Int)) = false := decide_eq_false (by omega))
            first | (have d2 : decide ((x.toNat : Int) ≤ 122) = true := decide_eq_true (by omega)) | (have d2 : decide ((x.toNat : Int) ≤ 122) = false := decide_eq_false (by omega))
            first | (have d3 : decide ((65 : Int) ≤ (x.toNat : Int)) = true := decide_eq_true (by omega)) | (have d3 : decide ((65 : Int) ≤ (x.toNat : Int)) = false := decide_eq_false (by omega))
            first | (have d4 : decide ((x.toNat : Int) ≤ 90) = true := decide_eq_true (by omega)) | (have d4 : decide ((x.toNat : Int) ≤ 90) = false := decide_eq_false (by omega))
            first | (have d5 : ((x.toNat : Int) == 95) = true := by simp; omega) | (have d5 : ((x.toNat : Int) == 95) = false := by simp; omega)
            first | (have d6 : decide ((x.toNat : Int) < 48) = true := decide_eq_true (by omega)) | (have d6 : decide ((x.toNat : Int) < 48) = false := decide_eq_false (by omega))
            first | (have d7 : decide ((48 : Int) ≤ (x.toNat : Int)) = true := decide_eq_true (by omega)) | (have d7 : decide ((48 : Int) ≤ (x.toNat : Int)) = false := decide_eq_false (by omega))
            first | (have d8 : decide ((57 : Int) < (x.toNat : Int)) = true := decide_eq_true (by omega)) | (have d8 : decide ((57 : Int) < (x.toNat : Int)) = false := decide_eq_false (by omega))
            first | (have d9 : decide ((x.toNat : Int) ≤ 57) = true := decide_eq_true (by omega)) | (have d9 : decide ((x.toNat : Int) ≤ 57) = false := decide_eq_false (by omega))
            go_wp2
            go_ret
            exact ⟨by simp [nmB, hF.out], by trivial⟩
          rcases Nat.lt_or_ge 122 x.toNat with h7 | h7
          · have hc : nmC 0 x = false := by simp [nmC]; omega
            have hF : nmA s = false := nmA_no hlt (by rw [hx]; exact hc)
            have hF := hide hF
            clear hc hno
            first | (have d1 : decide ((97 : Int) ≤ (x.toNat : Int)) = true := decide_eq_true (by omega)) | (have d1 : decide ((97 : Int) ≤ (x.toNat : Int)) = false := decide_eq_false (by omega))
            first | (have d2 : decide ((x.toNat : Int) ≤ 122) = true := decide_eq_true (by omega)) | (have d2 : decide ((x.toNat : Int) ≤ 122) = false := decide_eq_false (by omega))
            first | (have d3 : decide ((65 : Int) ≤ (x.toNat : Int)) = true := decide_eq_true (by omega)) | (have d3 : decide ((65 : Int) ≤ (x.toNat : Int)) = false := decide_eq_false (by omega))
            first | (have d4 : decide ((x.toNat : Int) ≤ 90) = true := decide_eq_true (by omega)) | (have d4 : decide ((x.toNat : Int) ≤ 90) = false := decide_eq_false (by omega))
            first | (have d5 : ((x.toNat : Int) == 95) = true := by simp; omega) | (have d5 : ((x.toNat : Int) == 95) = false := by simp; omega)
            first | (have d6 : decide ((x.toNat : Int) < 48) = true := decide_eq_true (by omega)) | (have d6 : decide ((x.toNat : Int) < 48) = false := decide_eq_false (by omega))
            first | (have d7 : decide ((48 : Int) ≤ (x.toNat : Int)) = true := decide_eq_true (by omega)) | (have d7 : decide ((48 : Int) ≤ (x.toNat : Int)) = false := decide_eq_false (by omega))
            first | (have d8 : decide ((57 : Int) < (x.toNat : Int)) = true := decide_eq_true (by omega)) | (have d8 : decide ((57 : Int) < (x.toNat : Int)) = false := decide_eq_false (by omega))
            first | (have d9 : decide ((x.toNat : Int) ≤ 57) = true := decide_eq_true (by omega)) | (have d9 : decide ((x.toNat : Int) ≤ 57) = false := decide_eq_false (by omega))
            go_wp2
            go_ret
            exact ⟨by simp [nmB, hF.out], by trivial⟩
          · have hc : nmC 0 x = true := by simp [nmC]; omega
            have HN := hide (nmA_up hno hlt (by rw [hx]; exact hc))
            clear hc hno
            first | (have d1 : decide ((97 : Int) ≤ (x.toNat : Int)) = true := decide_eq_true (by omega)) | (have d1 : decide ((97 : Int) ≤ (x.toNat : Int)) = false := decide_eq_false (by omega))
            first | (have d2 : decide ((x.toNat : Int) ≤ 122) = true := decide_eq_true (by omega)) | (have d2 : decide ((x.toNat : Int) ≤ 122) = false := decide_eq_false (by omega))
            first | (have d3 : decide ((65 : Int) ≤ (x.toNat : Int)) = true := decide_eq_true (by omega)) | (have d3 : decide ((65 : Int) ≤ (x.toNat : Int)) = false := decide_eq_false (by omega))
            first | (have d4 : decide ((x.toNat : Int) ≤ 90) = true := decide_eq_true (by omega)) | (have d4 : decide ((x.toNat : Int) ≤ 90) = false := decide_eq_false (by omega))
            first | (have d5 : ((x.toNat : Int) == 95) = true := by simp; omega) | (have d5 : ((x.toNat : Int) == 95) = false := by simp; omega)
            first | (have d6 : decide ((x.toNat : Int) < 48) = true := decide_eq_true (by omega)) | (have d6 : decide ((x.toNat : Int) < 48) = false := decide_eq_false (by omega))
            first | (have d7 : decide ((48 : Int) ≤ (x.toNat : Int)) = true := decide_eq_true (by omega)) | (have d7 : decide ((48 : Int) ≤ (x.toNat : Int)) = false := decide_eq_false (by omega))
            first | (have d8 : decide ((57 : Int) < (x.toNat : Int)) = true := decide_eq_true (by omega)) | (have d8 : decide ((57 : Int) < (x.toNat : Int)) = false := decide_eq_false (by omega))
            first | (have d9 : decide ((x.toNat : Int) ≤ 57) = true := decide_eq_true (by omega)) | (have d9 : decide ((x.toNat : Int) ≤ 57) = false := decide_eq_false (by omega))
            go_wp2
            go_roundw
            case rel => exact ⟨_, Nat.succ_le_of_lt hlt, by go_num, HN.out, by trivial⟩
            case measure => simp [intOf]; omega
          · have hc : nmC 0 x = true := by simp [nmC]; omega
            have HN := hide (nmA_up hno hlt (by rw [hx]; exact hc))
            clear hc hno
            first | (have d1 : decide ((97 : Int) ≤ (x.toNat : Int)) = true := decide_eq_true (by omega)) | (have d1 : decide ((97 : Int) ≤ (x.toNat : Int)) = false := decide_eq_false (by omega))
            first | (have d2 : decide ((x.toNat : Int) ≤ 122) = true := decide_eq_true (by omega)) | (have d2 : decide ((x.toNat : Int) ≤ 122) = false := decide_eq_false (by omega))
            first | (have d3 : decide ((65 : Int) ≤ (x.toNat : Int)) = true := decide_eq_true (by omega)) | (have d3 : decide ((65 : Int) ≤ (x.toNat : Int)) = false := decide_eq_false (by omega))
            first | (have d4 : decide ((x.toNat : Int) ≤ 90) = true := decide_eq_true (by omega)) | (have d4 : decide ((x.toNat : Int) ≤ 90) = false := decide_eq_false (by omega))
            first | (have d5 : ((x.toNat : Int) == 95) = true := by simp; omega) | (have d5 : ((x.toNat : Int) == 95) = false := by simp; omega)
            first | (have d6 : decide ((x.toNat : Int) < 48) = true := decide_eq_true (by omega)) | (have d6 : decide ((x.toNat : Int) < 48) = false := decide_eq_false (by omega))
            first | (have d7 : decide ((48 : Int) ≤ (x.toNat : Int)) = true := decide_eq_true (by omega)) | (have d7 : decide ((48 : Int) ≤ (x.toNat : Int)) = false := decide_eq_false (by omega))
            first | (have d8 : decide ((57 : Int) < (x.toNat : Int)) = true := decide_eq_true (by omega)) | (have d8 : decide ((57 : Int) < (x.toNat : Int)) = false := decide_eq_false (by omega))
            first | (have d9 : decide ((x.toNat : Int) ≤ 57) = true := decide_eq_true (by omega)) | (have d9 : decide ((x.toNat : Int) ≤ 57) = false := decide_eq_false (by omega))
            go_wp2
            go_roundw
            case rel => exact ⟨_, Nat.succ_le_of_lt hlt, by go_num, HN.out, by trivial⟩
            case measure => simp [intOf]; omega
          · have hc : nmC 0 x = false := by simp [nmC]; omega
            have hF : nmA s = false := nmA_no hlt (by rw [hx]; exact hc)
            have hF := hide hF
            clear hc hno
            first | (have d1 : decide ((97 : Int) ≤ (x.toNat : Int)) = true := decide_eq_true (by omega)) | (have d1 : decide ((97 : Int) ≤ (x.toNat : Int)) = false := decide_eq_false (by omega))
            first | (have d2 : decide ((x.toNat : Int) ≤ 122) = true := decide_eq_true (by omega)) | (have d2 : decide ((x.toNat : Int) ≤ 122) = false := decide_eq_false (by omega))
            first | (have d3 : decide ((65 : Int) ≤ (x.toNat : Int)) = true := decide_eq_true (by omega)) | (have d3 : decide ((65 : Int) ≤ (x.toNat : Int)) = false := decide_eq_false (by omega))
            first | (have d4 : decide ((x.toNat : Int) ≤ 90) = true := decide_eq_true (by omega)) | (have d4 : decide ((x.toNat : Int) ≤ 90) = false := decide_eq_false (by omega))
            first | (have d5 : ((x.toNat : Int) == 95) = true := by simp; omega) | (have d5 : ((x.toNat : Int) == 95) = false := by simp; omega)
            first | (have d6 : decide ((x.toNat : Int) < 48) = true := decide_eq_true (by omega)) | (have d6 : decide ((x.toNat : Int) < 48) = false := decide_eq_false (by omega))
            first | (have d7 : decide ((48 : Int) ≤ (x.toNat : Int)) = true := decide_eq_true (by omega)) | (have d7 : decide ((48 : Int) ≤ (x.toNat : Int)) = false := decide_eq_false (by omega))
            first | (have d8 : decide ((57 : Int) < (x.toNat : Int)) = true := decide_eq_true (by omega)) | (have d8 : decide ((57 : Int) < (x.toNat : Int)) = false := decide_eq_false (by omega))
            first | (have d9 : decide ((x.toNat : Int) ≤ 57) = true := decide_eq_true (by omega)) | (have d9 : decide ((x.toNat : Int) ≤ 57) = false := decide_eq_false (by omega))
            go_wp2
            go_ret
            exact ⟨by simp [nmB, hF.out], by trivial⟩
        · obtain ⟨x, hx⟩ : ∃ x : UInt8, s[i] = x := ⟨_, rfl⟩
          have hii : (i : Int) < s.size := by omega
          have di : ((i : Int) == 0) = false := by simp; omega
          have di' : decide ((0 : Int) < (i : Int)) = true := decide_eq_true (by omega)
          have di0 : ¬ (i = 0) := by omega
          rcases Nat.lt_or_ge x.toNat 48 with h1 | h1
          · have hc : nmC i x = false := by simp [nmC]; omega
            have hF : nmA s = false := nmA_no hlt (by rw [hx]; exact hc)
            have hF := hide hF
            clear hc hno
            first | (have d1 : decide ((97 : Int) ≤ (x.toNat : Int)) = true := decide_eq_true (by omega)) | (have d1 : decide ((97 : Int) ≤ (x.toNat : Int)) = false := decide_eq_false (by omega))
            first | (have d2 : decide ((x.toNat : Int) ≤ 122) = true := decide_eq_true (by omega)) | (have d2 : decide ((x.toNat : Int) ≤ 122) = false := decide_eq_false (by omega))
            first | (have d3 : decide ((65 : Int) ≤ (x.toNat : Int)) = true := decide_eq_true (by omega)) | (have d3 : decide ((65 : Int) ≤ (x.toNat : Int)) = false := decide_eq_false (by omega))
            first | (have d4 : decide ((x.toNat : Int) ≤ 90) = true := decide_eq_true (by omega)) | (have d4 : decide ((x.toNat : Int) ≤ 90) = false := decide_eq_false (by omega))
            first | (have d5 : ((x.toNat : Int) == 95) = true := by simp; omega) | (have d5 : ((x.toNat : Int) == 95) = false := by simp; omega)
            first | (have d6 : decide ((x.toNat : Int) < 48) = true := decide_eq_true (by omega)) | (have d6 : decide ((x.toNat : Int) < 48) = false := decide_eq_false (by omega))
            first | (have d7 : decide ((48 : Int) ≤ (x.toNat : Int)) = true := decide_eq_true (by omega)) | (have d7 : decide ((48 : Int) ≤ (x.toNat : Int)) = false := decide_eq_false (by omega))
            first | (have d8 : decide ((57 : Int) < (x.toNat : Int)) = true := decide_eq_true (by omega)) | (have d8 : decide ((57 : Int) < (x.toNat : Int)) = false := decide_eq_false (by omega))
            first | (have d9 : decide ((x.toNat : Int) ≤ 57) = true := decide_eq_true (by omega)) | (have d9 : decide ((x.toNat : Int) ≤ 57) = false := decide_eq_false (by omega))
            go_wp2
            go_ret
            exact ⟨by simp [nmB, hF.out], by trivial⟩
          rcases Nat.lt_or_ge 57 x.toNat with h2 | h2
          rcases Nat.lt_or_ge x.toNat 65 with h3 | h3
          · have hc : nmC i x = false := by simp [nmC]; omega
            have hF : nmA s = false := nmA_no hlt (by rw [hx]; exact hc)
            have hF := hide hF
            clear hc hno
            first | (have d1 : decide ((97 : Int) ≤ (x.toNat : Int)) = true := decide_eq_true (by omega)) | (have d1 : decide ((97 : Int) ≤ (x.toNat : Int)) = false := decide_eq_false (by omega))
            first | (have d2 : decide ((x.toNat : Int) ≤ 122) = true := decide_eq_true (by omega)) | (have d2 : decide ((x.toNat : Int) ≤ 122) = false := decide_eq_false (by omega))
            first | (have d3 : decide ((65 : Int) ≤ (x.toNat : Int)) = true := decide_eq_true (by omega)) | (have d3 : decide ((65 : Int) ≤ (x.toNat : Int)) = false := decide_eq_false (by omega))
            first | (have d4 : decide ((x.toNat : Int) ≤ 90) = true := decide_eq_true (by omega)) | (have d4 : decide ((x.toNat : Int) ≤ 90) = false := decide_eq_false (by omega))
            first | (have d5 : ((x.toNat : Int) == 95) = true := by simp; omega) | (have d5 : ((x.toNat : Int) == 95) = false := by simp; omega)
            first | (have d6 : decide ((x.toNat : Int) < 48) = true := decide_eq_true (by omega)) | (have d6 : decide ((x.toNat : Int) < 48) = false := decide_eq_false (by omega))
            first | (have d7 : decide ((48 : Int) ≤ (x.toNat : Int)) = true := decide_eq_true (by omega)) | (have d7 : decide ((48 : Int) ≤ (x.toNat : Int)) = false := decide_eq_false (by omega))
            first | (have d8 : decide ((57 : Int) < (x.toNat : Int)) = true := decide_eq_true (by omega)) | (have d8 : decide ((57 : Int) < (x.toNat : Int)) = false := decide_eq_false (by omega))
            first | (have d9 : decide ((x.toNat : Int) ≤ 57) = true := decide_eq_true (by omega)) | (have d9 : decide ((x.toNat : Int) ≤ 57) = false := decide_eq_false (by omega))
            go_wp2
            go_ret
            exact ⟨by simp [nmB, hF.out], by trivial⟩
          rcases Nat.lt_or_ge 90 x.toNat with h4 | h4
          rcases Nat.lt_or_ge x.toNat 97 with h5 | h5
          by_cases h6 : x.toNat = 95
          · have hc : nmC i x = true := by simp [nmC]; omega
            have HN := hide (nmA_up hno hlt (by rw [hx]; exact hc))
            clear hc hno
            first | (have d1 : decide ((97 : Int) ≤ (x.toNat : Int)) = true := decide_eq_true (by omega)) | (have d1 : decide ((97 : Int) ≤ (x.toNat : Int)) = false := decide_eq_false (by omega))
            first | (have d2 : decide ((x.toNat : Int) ≤ 122) = true := decide_eq_true (by omega)) | (have d2 : decide ((x.toNat : Int) ≤ 122) = false := decide_eq_false (by omega))
            first | (have d3 : decide ((65 : Int) ≤ (x.toNat : Int)) = true := decide_eq_true (by omega)) | (have d3 : decide ((65 : Int) ≤ (x.toNat : Int)) = false := decide_eq_false (by omega))
            first | (have d4 : decide ((x.toNat : Int) ≤ 90) = true := decide_eq_true (by omega)) | (have d4 : decide ((x.toNat : Int) ≤ 90) = false := decide_eq_false (by omega))
            first | (have d5 : ((x.toNat : Int) == 95) = true := by simp; omega) | (have d5 : ((x.toNat : Int) == 95) = false := by simp; omega)
            first | (have d6 : decide ((x.toNat : Int) < 48) = true := decide_eq_true (by omega)) | (have d6 : decide ((x.toNat : Int) < 48) = false := decide_eq_false (by omega))
            first | (have d7 : decide ((48 : Int) ≤ (x.toNat : Int)) = true := decide_eq_true (by omega)) | (have d7 : decide ((48 : Int) ≤ (x.toNat : Int)) = false := decide_eq_false (by omega))
            first | (have d8 : decide ((57 : Int) < (x.toNat : Int)) = true := decide_eq_true (by omega)) | (have d8 : decide ((57 : Int) < (x.toNat : Int)) = false := decide_eq_false (by omega))
            first | (have d9 : decide ((x.toNat : Int) ≤ 57) = true := decide_eq_true (by omega)) | (have d9 : decide ((x.toNat : Int) ≤ 57) = false := decide_eq_false (by omega))
            go_wp2
            go_roundw
            case rel => exact ⟨_, Nat.succ_le_of_lt hlt, by go_num, HN.out, by trivial⟩
            case measure => simp [intOf]; omega
          · have hc : nmC i x = false := by simp [nmC]; omega
            have hF : nmA s = false := nmA_no hlt (by rw [hx]; exact hc)
            have hF := hide hF
            clear hc hno
            first | (have d1 : decide ((97 : Int) ≤ (x.toNat : Int)) = true := decide_eq_true (by omega)) | (have d1 : decide ((97 : Int) ≤ (x.toNat : Int)) = false := decide_eq_false (by omega))
            first | (have d2 : decide ((x.toNat : Int) ≤ 122) = true := decide_eq_true (by omega)) | (have d2 : decide ((x.toNat : Int) ≤ 122) = false := decide_eq_false (by omega))
            first | (have d3 : decide ((65 : Int) ≤ (x.toNat : Int)) = true := decide_eq_true (by omega)) | (have d3 : decide ((65 : Int) ≤ (x.toNat : Int)) = false := decide_eq_false (by omega))
            first | (have d4 : decide ((x.toNat : Int) ≤ 90) = true := decide_eq_true (by omega)) | (have d4 : decide ((x.toNat : Int) ≤ 90) = false := decide_eq_false (by omega))
            first | (have d5 : ((x.toNat : Int) == 95) = true := by simp; omega) | (have d5 : ((x.toNat : Int) == 95) = false := by simp; omega)
            first | (have d6 : decide ((x.toNat : Int) < 48) = true := decide_eq_true (by omega)) | (have d6 : decide ((x.toNat : Int) < 48) = false := decide_eq_false (by omega))
            first | (have d7 : decide ((48 : Int) ≤ (x.toNat : Int)) = true := decide_eq_true (by omega)) | (have d7 : decide ((48 : Int) ≤ (x.toNat : Int)) = false := decide_eq_false (by omega))
            first | (have d8 : decide ((57 : Int) < (x.toNat : Int)) = true := decide_eq_true (by omega)) | (have d8 : decide ((57 : Int) < (x.toNat : Int)) = false := decide_eq_false (by omega))
            first | (have d9 : decide ((x.toNat : Int) ≤ 57) = true := decide_eq_true (by omega)) | (have d9 : decide ((x.toNat : Int) ≤ 57) = false := decide_eq_false (by omega))
            go_wp2
            go_ret
            exact ⟨by simp [nmB, hF.out], by trivial⟩
          rcases Nat.lt_or_ge 122 x.toNat with h7 | h7
          · have hc : nmC i x = false := by simp [nmC]; omega
            have hF : nmA s = false := nmA_no hlt (by rw [hx]; exact hc)
            have hF := hide hF
            clear hc hno
            first | (have d1 : decide ((97 : Int) ≤ (x.toNat : Int)) = true := decide_eq_true (by omega)) | (have d1 : decide ((97 : Int) ≤ (x.toNat : Int)) = false := decide_eq_false (by omega))
            first | (have d2 : decide ((x.toNat : Int) ≤ 122) = true := decide_eq_true (by omega)) | (have d2 : decide ((x.toNat : Int) ≤ 122) = false := decide_eq_false (by omega))
            first | (have d3 : decide ((65 : Int) ≤ (x.toNat : Int)) = true := decide_eq_true (by omega)) | (have d3 : decide ((65 : Int) ≤ (x.toNat : Int)) = false := decide_eq_false (by omega))
            first | (have d4 : decide ((x.toNat : Int) ≤ 90) = true := decide_eq_true (by omega)) | (have d4 : decide ((x.toNat : Int) ≤ 90) = false := decide_eq_false (by omega))
            first | (have d5 : ((x.toNat : Int) == 95) = true := by simp; omega) | (have d5 : ((x.toNat : Int) == 95) = false := by simp; omega)
            first | (have d6 : decide ((x.toNat : Int) < 48) = true := decide_eq_true (by omega)) | (have d6 : decide ((x.toNat : Int) < 48) = false := decide_eq_false (by omega))
            first | (have d7 : decide ((48 : Int) ≤ (x.toNat : Int)) = true := decide_eq_true (by omega)) | (have d7 : decide ((48 : Int) ≤ (x.toNat : Int)) = false := decide_eq_false (by omega))
            first | (have d8 : decide ((57 : Int) < (x.toNat : Int)) = true := decide_eq_true (by omega)) | (have d8 : decide ((57 : Int) < (x.toNat : Int)) = false := decide_eq_false (by omega))
            first | (have d9 : decide ((x.toNat : Int) ≤ 57) = true := decide_eq_true (by omega)) | (have d9 : decide ((x.toNat : Int) ≤ 57) = false := decide_eq_false (by omega))
            go_wp2
            go_ret
            exact ⟨by simp [nmB, hF.out], by trivial⟩
          · have hc : nmC i x = true := by simp [nmC]; omega
            have HN := hide (nmA_up hno hlt (by rw [hx]; exact hc))
            clear hc hno
            first | (have d1 : decide ((97 : Int) ≤ (x.toNat : Int)) = true := decide_eq_true (by omega)) | (have d1 : decide ((97 : Int) ≤ (x.toNat : Int)) = false := decide_eq_false (by omega))
            first | (have d2 : decide ((x.toNat : Int) ≤ 122) = true := decide_eq_true (by omega)) | (have d2 : decide ((x.toNat : Int) ≤ 122) = false := decide_eq_false (by omega))
            first | (have d3 : decide ((65 : Int) ≤ (x.toNat : Int)) = true := decide_eq_true (by omega)) | (have d3 : decide ((65 : Int) ≤ (x.toNat : Int)) = false := decide_eq_false (by omega))
            first | (have d4 : decide ((x.toNat : Int) ≤ 90) = true := decide_eq_true (by omega)) | (have d4 : decide ((x.toNat : Int) ≤ 90) = false := decide_eq_false (by omega))
            first | (have d5 : ((x.toNat : Int) == 95) = true := by simp; omega) | (have d5 : ((x.toNat : Int) == 95) = false := by simp; omega)
            first | (have d6 : decide ((x.toNat : Int) < 48) = true := decide_eq_true (by omega)) | (have d6 : decide ((x.toNat : Int) < 48) = false := decide_eq_false (by omega))
            first | (have d7 : decide ((48 : Int) ≤ (x.toNat : Int)) = true := decide_eq_true (by omega)) | (have d7 : decide ((48 : Int) ≤ (x.toNat : Int)) = false := decide_eq_false (by omega))
            first | (have d8 : decide ((57 : Int) < (x.toNat : Int)) = true := decide_eq_true (by omega)) | (have d8 : decide ((57 : Int) < (x.toNat : Int)) = false := decide_eq_false (by omega))
            first | (have d9 : decide ((x.toNat : Int) ≤ 57) = true := decide_eq_true (by omega)) | (have d9 : decide ((x.toNat : Int) ≤ 57) = false := decide_eq_false (by omega))
            go_wp2
            go_roundw
            case rel => exact ⟨_, Nat.succ_le_of_lt hlt, by go_num, HN.out, by trivial⟩
            case measure => simp [intOf]; omega
          · have hc : nmC i x = true := by simp [nmC]; omega
            have HN := hide (nmA_up hno hlt (by rw [hx]; exact hc))
            clear hc hno
            first | (have d1 : decide ((97 : Int) ≤ (x.toNat : Int)) = true := decide_eq_true (by omega)) | (have d1 : decide ((97 : Int) ≤ (x.toNat : Int)) = false := decide_eq_false (by omega))
            first | (have d2 : decide ((x.toNat : Int) ≤ 122) = true := decide_eq_true (by omega)) | (have d2 : decide ((x.toNat : Int) ≤ 122) = false := decide_eq_false (by omega))
            first | (have d3 : decide ((65 : Int) ≤ (x.toNat : Int)) = true := decide_eq_true (by omega)) | (have d3 : decide ((65 : Int) ≤ (x.toNat : Int)) = false := decide_eq_false (by omega))
            first | (have d4 : decide ((x.toNat : Int) ≤ 90) = true := decide_eq_true (by omega)) | (have d4 : decide ((x.toNat : Int) ≤ 90) = false := decide_eq_false (by omega))
            first | (have d5 : ((x.toNat : Int) == 95) = true := by simp; omega) | (have d5 : ((x.toNat : Int) == 95) = false := by simp; omega)
            first | (have d6 : decide ((x.toNat : Int) < 48) = true := decide_eq_true (by omega)) | (have d6 : decide ((x.toNat : Int) < 48) = false := decide_eq_false (by omega))
            first | (have d7 : decide ((48 : Int) ≤ (x.toNat : Int)) = true := decide_eq_true (by omega)) | (have d7 : decide ((48 : Int) ≤ (x.toNat : Int)) = false := decide_eq_false (by omega))
            first | (have d8 : decide ((57 : Int) < (x.toNat : Int)) = true := decide_eq_true (by omega)) | (have d8 : decide ((57 : Int) < (x.toNat : Int)) = false := decide_eq_false (by omega))
            first | (have d9 : decide ((x.toNat : Int) ≤ 57) = true := decide_eq_true (by omega)) | (have d9 : decide ((x.toNat : Int) ≤ 57) = false := decide_eq_false (by omega))
            go_wp2
            go_roundw
            case rel => exact ⟨_, Nat.succ_le_of_lt hlt, by go_num, HN.out, by trivial⟩
            case measure => simp [intOf]; omega
          · have hc : nmC i x = true := by simp [nmC]; omega
            have HN := hide (nmA_up hno hlt (by rw [hx]; exact hc))
            clear hc hno
            first | (have d1 : decide ((97 : Int) ≤ (x.toNat : Int)) = true := decide_eq_true (by omega)) | (have d1 : decide ((97 : Int) ≤ (x.toNat : Int)) = false := decide_eq_false (by omega))
            first | (have d2 : decide ((x.toNat : Int) ≤ 122) = true := decide_eq_true (by omega)) | (have d2 : decide ((x.toNat : Int) ≤ 122) = false := decide_eq_false (by omega))
            first | (have d3 : decide ((65 : Int) ≤ (x.toNat : Int)) = true := decide_eq_true (by omega)) | (have d3 : decide ((65 : Int) ≤ (x.toNat : Int)) = false := decide_eq_false (by omega))
            first | (have d4 : decide ((x.toNat : Int) ≤ 90) = true := decide_eq_true (by omega)) | (have d4 : decide ((x.toNat : Int) ≤ 90) = false := decide_eq_false (by omega))
            first | (have d5 : ((x.toNat : Int) == 95) = true := by simp; omega) | (have d5 : ((x.toNat : Int) == 95) = false := by simp; omega)
            first | (have d6 : decide ((x.toNat : Int) < 48) = true := decide_eq_true (by omega)) | (have d6 : decide ((x.toNat : Int) < 48) = false := decide_eq_false (by omega))
            first | (have d7 : decide ((48 : Int) ≤ (x.toNat : Int)) = true := decide_eq_true (by omega)) | (have d7 : decide ((48 : Int) ≤ (x.toNat : Int)) = false := decide_eq_false (by omega))
            first | (have d8 : decide ((57 : Int) < (x.toNat : Int)) = true := decide_eq_true (by omega)) | (have d8 : decide ((57 : Int) < (x.toNat : Int)) = false := decide_eq_false (by omega))
            first | (have d9 : decide ((x.toNat : Int) ≤ 57) = true := decide_eq_true (by omega)) | (have d9 : decide ((x.toNat : Int) ≤ 57) = false := decide_eq_false (by omega))
            go_wp2
            go_roundw
            case rel => exact ⟨_, Nat.succ_le_of_lt hlt, by go_num, HN.out, by trivial⟩
            case measure => simp [intOf]; omega
      · obtain rfl : i = s.size := by omega
        have HN := hide (show nmA s = true from hno)
        go_wp2
        go_ret
        exact ⟨by rw [HN.out]; rfl, by trivial⟩
  · have h32i : ¬ ((s.size : Int) ≤ 32) := by omega
    have hF := hide (show nmB s = false by simp [nmB, h32])
    go_enter Tryd.func23, Tryd.ntmps23
    go_wp2
    go_ret
    exact ⟨by rw [hF.out]; rfl, rfl⟩
set_option maxRecDepth 100000 in
set_option maxHeartbeats 16000000 in
theorem rname_any (s : ByteArray) (hs : s.size ≤ maxLen) (w : World) :
    Calls Tryd.prog 25 #[.string s] w fun e w' => e = .returned (.bool (nmB s)) ∧ w' = w := by
  unfold maxLen at hs
  go_enter Tryd.func25, Tryd.ntmps25
  go_wp2
  go_loopw [3] (fun s15 wr => ∃ i : Nat, i ≤ s.size ∧ s15 = .int .i64 (i : Int) ∧ nmT s i = true ∧ wr = w) (fun s15 _ => ((s.size : Int) - intOf s15).toNat)
  case atStart => exact ⟨0, by omega, rfl, rfl, rfl⟩
  case round =>
    obtain ⟨i, hi, rfl, hno, rfl⟩ := hrel
    by_cases hlt : i < s.size
    · rcases Nat.eq_zero_or_pos i with rfl | hip
      · obtain ⟨x, hx⟩ : ∃ x : UInt8, s[0] = x := ⟨_, rfl⟩
        have hii : (0 : Int) < s.size := by omega
        rcases Nat.lt_or_ge x.toNat 48 with h1 | h1
        · have hc : nmC 0 x = false := by simp [nmC]; omega
          have hF : nmA s = false := nmA_no hlt (by rw [hx]; exact hc)
          have hF := hide hF
          clear hc hno
          first | (have d1 : decide ((97 : Int) ≤ (x.toNat : Int)) = true := decide_eq_true (by omega)) | (have d1 : decide ((97 : Int) ≤ (x.toNat : Int)) = false := decide_eq_false (by omega))
          first | (have d2 : decide ((x.toNat : Int) ≤ 122) = true := decide_eq_true (by omega)) | (have d2 : decide ((x.toNat : Int) ≤ 122) = false := decide_eq_false (by omega))
          first | (have d3 : decide ((65 : Int) ≤ (x.toNat : Int)) = true := decide_eq_true (by omega)) | (have d3 : decide ((65 : Int) ≤ (x.toNat : Int)) = false := decide_eq_false (by omega))
          first | (have d4 : decide ((x.toNat : Int) ≤ 90) = true := decide_eq_true (by omega)) | (have d4 : decide ((x.toNat : Int) ≤ 90) = false := decide_eq_false (by omega))
          first | (have d5 : ((x.toNat : Int) == 95) = true := by simp; omega) | (have d5 : ((x.toNat : Int) == 95) = false := by simp; omega)
          first | (have d6 : decide ((x.toNat : Int) < 48) = true := decide_eq_true (by omega)) | (have d6 : decide ((x.toNat : Int) < 48) = false := decide_eq_false (by omega))
          first | (have d7 : decide ((48 : Int) ≤ (x.toNat : Int)) = true := decide_eq_true (by omega)) | (have d7 : decide ((48 : Int) ≤ (x.toNat : Int)) = false := decide_eq_false (by omega))
          first | (have d8 : decide ((57 : Int) < (x.toNat : Int)) = true := decide_eq_true (by omega)) | (have d8 : decide ((57 : Int) < (x.toNat : Int)) = false := decide_eq_false (by omega))
          first | (have d9 : decide ((x.toNat : Int) ≤ 57) = true := decide_eq_true (by omega)) | (have d9 : decide ((x.toNat : Int) ≤ 57) = false := decide_eq_false (by omega))
          go_wp2
          go_ret
          exact ⟨by simp [nmB, hF.out], by trivial⟩
        rcases Nat.lt_or_ge 57 x.toNat with h2 | h2
        rcases Nat.lt_or_ge x.toNat 65 with h3 | h3
        · have hc : nmC 0 x = false := by simp [nmC]; omega
          have hF : nmA s = false := nmA_no hlt (by rw [hx]; exact hc)
          have hF := hide hF
          clear hc hno
          first | (have d1 : decide ((97 : Int) ≤ (x.toNat : Int)) = true := decide_eq_true (by omega)) | (have d1 : decide ((97 : Int) ≤ (x.toNat : Int)) = false := decide_eq_false (by omega))
          first | (have d2 : decide ((x.toNat : Int) ≤ 122) = true := decide_eq_true (by omega)) | (have d2 : decide ((x.toNat : Int) ≤ 122) = false := decide_eq_false (by omega))
          first | (have d3 : decide ((65 : Int) ≤ (x.toNat : Int)) = true := decide_eq_true (by omega)) | (have d3 : decide ((65 : Int) ≤ (x.toNat : Int)) = false := decide_eq_false (by omega))
          first | (have d4 : decide ((x.toNat : Int) ≤ 90) = true := decide_eq_true (by omega)) | (have d4 : decide ((x.toNat : Int) ≤ 90) = false := decide_eq_false (by omega))
          first | (have d5 : ((x.toNat : Int) == 95) = true := by simp; omega) | (have d5 : ((x.toNat : Int) == 95) = false := by simp; omega)
          first | (have d6 : decide ((x.toNat : Int) < 48) = true := decide_eq_true (by omega)) | (have d6 : decide ((x.toNat : Int) < 48) = false := decide_eq_false (by omega))
          first | (have d7 : decide ((48 : Int) ≤ (x.toNat : Int)) = true := decide_eq_true (by omega)) | (have d7 : decide ((48 : Int) ≤ (x.toNat : Int)) = false := decide_eq_false (by omega))
          first | (have d8 : decide ((57 : Int) < (x.toNat : Int)) = true := decide_eq_true (by omega)) | (have d8 : decide ((57 : Int) < (x.toNat : Int)) = false := decide_eq_false (by omega))
          first | (have d9 : decide ((x.toNat : Int) ≤ 57) = true := decide_eq_true (by omega)) | (have d9 : decide ((x.toNat : Int) ≤ 57) = false := decide_eq_false (by omega))
          go_wp2
          go_ret
          exact ⟨by simp [nmB, hF.out], by trivial⟩
        rcases Nat.lt_or_ge 90 x.toNat with h4 | h4
        rcases Nat.lt_or_ge x.toNat 97 with h5 | h5
        by_cases h6 : x.toNat = 95
        · have hc : nmC 0 x = true := by simp [nmC]; omega
          have HN := hide (nmA_up hno hlt (by rw [hx]; exact hc))
          clear hc hno
          first | (have d1 : decide ((97 : Int) ≤ (x.toNat : Int)) = true := decide_eq_true (by omega)) | (have d1 : decide ((97 : Int) ≤ (x.toNat : Int)) = false := decide_eq_false (by omega))
          first | (have d2 : decide ((x.toNat : Int) ≤ 122) = true := decide_eq_true (by omega)) | (have d2 : decide ((x.toNat : Int) ≤ 122) = false := decide_eq_false (by omega))
          first | (have d3 : decide ((65 : Int) ≤ (x.toNat : Int)) = true := decide_eq_true (by omega)) | (have d3 : decide ((65 : Int) ≤ (x.toNat : Int)) = false := decide_eq_false (by omega))
          first | (have d4 : decide ((x.toNat : Int) ≤ 90) = true := decide_eq_true (by omega)) | (have d4 : decide ((x.toNat : Int) ≤ 90) = false := decide_eq_false (by omega))
          first | (have d5 : ((x.toNat : Int) == 95) = true := by simp; omega) | (have d5 : ((x.toNat : Int) == 95) = false := by simp; omega)
          first | (have d6 : decide ((x.toNat : Int) < 48) = true := decide_eq_true (by omega)) | (have d6 : decide ((x.toNat : Int) < 48) = false := decide_eq_false (by omega))
          first | (have d7 : decide ((48 : Int) ≤ (x.toNat : Int)) = true := decide_eq_true (by omega)) | (have d7 : decide ((48 : Int) ≤ (x.toNat : Int)) = false := decide_eq_false (by omega))
          first | (have d8 : decide ((57 : Int) < (x.toNat : Int)) = true := decide_eq_true (by omega)) | (have d8 : decide ((57 : Int) < (x.toNat : Int)) = false := decide_eq_false (by omega))
          first | (have d9 : decide ((x.toNat : Int) ≤ 57) = true := decide_eq_true (by omega)) | (have d9 : decide ((x.toNat : Int) ≤ 57) = false := decide_eq_false (by omega))
          go_wp2
          go_roundw
          case rel => exact ⟨_, Nat.succ_le_of_lt hlt, by go_num, HN.out, by trivial⟩
          case measure => simp [intOf]; omega
        · have hc : nmC 0 x = false := by simp [nmC]; omega
          have hF : nmA s = false := nmA_no hlt (by rw [hx]; exact hc)
          have hF := hide hF
          clear hc hno
          first | (have d1 : decide ((97 : Int) ≤ (x.toNat : Int)) = true := decide_eq_true (by omega)) | (have d1 : decide ((97 : Int) ≤ (x.toNat : Int)) = false := decide_eq_false (by omega))
          first | (have d2 : decide ((x.toNat : Int) ≤ 122) = true := decide_eq_true (by omega)) | (have d2 : decide ((x.toNat : Int) ≤ 122) = false := decide_eq_false (by omega))
          first | (have d3 : decide ((65 : Int) ≤ (x.toNat : Int)) = true := decide_eq_true (by omega)) | (have d3 : decide ((65 : Int) ≤ (x.toNat : Int)) = false := decide_eq_false (by omega))
          first | (have d4 : decide ((x.toNat : Int) ≤ 90) = true := decide_eq_true (by omega)) | (have d4 : decide ((x.toNat : Int) ≤ 90) = false := decide_eq_false (by omega))
          first | (have d5 : ((x.toNat : Int) == 95) = true := by simp; omega) | (have d5 : ((x.toNat : Int) == 95) = false := by simp; omega)
          first | (have d6 : decide ((x.toNat : Int) < 48) = true := decide_eq_true (by omega)) | (have d6 : decide ((x.toNat : Int) < 48) = false := decide_eq_false (by omega))
          first | (have d7 : decide ((48 : Int) ≤ (x.toNat : Int)) = true := decide_eq_true (by omega)) | (have d7 : decide ((48 : Int) ≤ (x.toNat : Int)) = false := decide_eq_false (by omega))
          first | (have d8 : decide ((57 : Int) < (x.toNat : Int)) = true := decide_eq_true (by omega)) | (have d8 : decide ((57 : Int) < (x.toNat : Int)) = false := decide_eq_false (by omega))
          first | (have d9 : decide ((x.toNat : Int) ≤ 57) = true := decide_eq_true (by omega)) | (have d9 : decide ((x.toNat : Int) ≤ 57) = false := decide_eq_false (by omega))
          go_wp2
          go_ret
          exact ⟨by simp [nmB, hF.out], by trivial⟩
        rcases Nat.lt_or_ge 122 x.toNat with h7 | h7
        · have hc : nmC 0 x = false := by simp [nmC]; omega
          have hF : nmA s = false := nmA_no hlt (by rw [hx]; exact hc)
          have hF := hide hF
          clear hc hno
          first | (have d1 : decide ((97 : Int) ≤ (x.toNat : Int)) = true := decide_eq_true (by omega)) | (have d1 : decide ((97 : Int) ≤ (x.toNat : Int)) = false := decide_eq_false (by omega))
          first | (have d2 : decide ((x.toNat : Int) ≤ 122) = true := decide_eq_true (by omega)) | (have d2 : decide ((x.toNat : Int) ≤ 122) = false := decide_eq_false (by omega))
          first | (have d3 : decide ((65 : Int) ≤ (x.toNat : Int)) = true := decide_eq_true (by omega)) | (have d3 : decide ((65 : Int) ≤ (x.toNat : Int)) = false := decide_eq_false (by omega))
          first | (have d4 : decide ((x.toNat : Int) ≤ 90) = true := decide_eq_true (by omega)) | (have d4 : decide ((x.toNat : Int) ≤ 90) = false := decide_eq_false (by omega))
          first | (have d5 : ((x.toNat : Int) == 95) = true := by simp; omega) | (have d5 : ((x.toNat : Int) == 95) = false := by simp; omega)
          first | (have d6 : decide ((x.toNat : Int) < 48) = true := decide_eq_true (by omega)) | (have d6 : decide ((x.toNat : Int) < 48) = false := decide_eq_false (by omega))
          first | (have d7 : decide ((48 : Int) ≤ (x.toNat : Int)) = true := decide_eq_true (by omega)) | (have d7 : decide ((48 : Int) ≤ (x.toNat : Int)) = false := decide_eq_false (by omega))
          first | (have d8 : decide ((57 : Int) < (x.toNat : Int)) = true := decide_eq_true (by omega)) | (have d8 : decide ((57 : Int) < (x.toNat : Int)) = false := decide_eq_false (by omega))
          first | (have d9 : decide ((x.toNat : Int) ≤ 57) = true := decide_eq_true (by omega)) | (have d9 : decide ((x.toNat : Int) ≤ 57) = false := decide_eq_false (by omega))
          go_wp2
          go_ret
          exact ⟨by simp [nmB, hF.out], by trivial⟩
        · have hc : nmC 0 x = true := by simp [nmC]; omega
          have HN := hide (nmA_up hno hlt (by rw [hx]; exact hc))
          clear hc hno
          first | (have d1 : decide ((97 : Int) ≤ (x.toNat : Int)) = true := decide_eq_true (by omega)) | (have d1 : decide ((97 : Int) ≤ (x.toNat : Int)) = false := decide_eq_false (by omega))
          first | (have d2 : decide ((x.toNat : Int) ≤ 122) = true := decide_eq_true (by omega)) | (have d2 : decide ((x.toNat : Int) ≤ 122) = false := decide_eq_false (by omega))
          first | (have d3 : decide ((65 : Int) ≤ (x.toNat : Int)) = true := decide_eq_true (by omega)) | (have d3 : decide ((65 : Int) ≤ (x.toNat : Int)) = false := decide_eq_false (by omega))
          first | (have d4 : decide ((x.toNat : Int) ≤ 90) = true := decide_eq_true (by omega)) | (have d4 : decide ((x.toNat : Int) ≤ 90) = false := decide_eq_false (by omega))
          first | (have d5 : ((x.toNat : Int) == 95) = true := by simp; omega) | (have d5 : ((x.toNat : Int) == 95) = false := by simp; omega)
          first | (have d6 : decide ((x.toNat : Int) < 48) = true := decide_eq_true (by omega)) | (have d6 : decide ((x.toNat : Int) < 48) = false := decide_eq_false (by omega))
          first | (have d7 : decide ((48 : Int) ≤ (x.toNat : Int)) = true := decide_eq_true (by omega)) | (have d7 : decide ((48 : Int) ≤ (x.toNat : Int)) = false := decide_eq_false (by omega))
          first | (have d8 : decide ((57 : Int) < (x.toNat : Int)) = true := decide_eq_true (by omega)) | (have d8 : decide ((57 : Int) < (x.toNat : Int)) = false := decide_eq_false (by omega))
          first | (have d9 : decide ((x.toNat : Int) ≤ 57) = true := decide_eq_true (by omega)) | (have d9 : decide ((x.toNat : Int) ≤ 57) = false := decide_eq_false (by omega))
          go_wp2
          go_roundw
          case rel => exact ⟨_, Nat.succ_le_of_lt hlt, by go_num, HN.out, by trivial⟩
          case measure => simp [intOf]; omega
        · have hc : nmC 0 x = true := by simp [nmC]; omega
          have HN := hide (nmA_up hno hlt (by rw [hx]; exact hc))
          clear hc hno
          first | (have d1 : decide ((97 : Int) ≤ (x.toNat : Int)) = true := decide_eq_true (by omega)) | (have d1 : decide ((97 : Int) ≤ (x.toNat : Int)) = false := decide_eq_false (by omega))
          first | (have d2 : decide ((x.toNat : Int) ≤ 122) = true := decide_eq_true (by omega)) | (have d2 : decide ((x.toNat : Int) ≤ 122) = false := decide_eq_false (by omega))
          first | (have d3 : decide ((65 : Int) ≤ (x.toNat : Int)) = true := decide_eq_true (by omega)) | (have d3 : decide ((65 : Int) ≤ (x.toNat : Int)) = false := decide_eq_false (by omega))
          first | (have d4 : decide ((x.toNat : Int) ≤ 90) = true := decide_eq_true (by omega)) | (have d4 : decide ((x.toNat : Int) ≤ 90) = false := decide_eq_false (by omega))
          first | (have d5 : ((x.toNat : Int) == 95) = true := by simp; omega) | (have d5 : ((x.toNat : Int) == 95) = false := by simp; omega)
          first | (have d6 : decide ((x.toNat : Int) < 48) = true := decide_eq_true (by omega)) | (have d6 : decide ((x.toNat : Int) < 48) = false := decide_eq_false (by omega))
          first | (have d7 : decide ((48 : Int) ≤ (x.toNat : Int)) = true := decide_eq_true (by omega)) | (have d7 : decide ((48 : Int) ≤ (x.toNat : Int)) = false := decide_eq_false (by omega))
          first | (have d8 : decide ((57 : Int) < (x.toNat : Int)) = true := decide_eq_true (by omega)) | (have d8 : decide ((57 : Int) < (x.toNat : Int)) = false := decide_eq_false (by omega))
          first | (have d9 : decide ((x.toNat : Int) ≤ 57) = true := decide_eq_true (by omega)) | (have d9 : decide ((x.toNat : Int) ≤ 57) = false := decide_eq_false (by omega))
          go_wp2
          go_roundw
          case rel => exact ⟨_, Nat.succ_le_of_lt hlt, by go_num, HN.out, by trivial⟩
          case measure => simp [intOf]; omega
        · have hc : nmC 0 x = false := by simp [nmC]; omega
          have hF : nmA s = false := nmA_no hlt (by rw [hx]; exact hc)
          have hF := hide hF
          clear hc hno
          first | (have d1 : decide ((97 : Int) ≤ (x.toNat : Int)) = true := decide_eq_true (by omega)) | (have d1 : decide ((97 : Int) ≤ (x.toNat : Int)) = false := decide_eq_false (by omega))
          first | (have d2 : decide ((x.toNat : Int) ≤ 122) = true := decide_eq_true (by omega)) | (have d2 : decide ((x.toNat : Int) ≤ 122) = false := decide_eq_false (by omega))
          first | (have d3 : decide ((65 : Int) ≤ (x.toNat : Int)) = true := decide_eq_true (by omega)) | (have d3 : decide ((65 : Int) ≤ (x.toNat : Int)) = false := decide_eq_false (by omega))
          first | (have d4 : decide ((x.toNat : Int) ≤ 90) = true := decide_eq_true (by omega)) | (have d4 : decide ((x.toNat : Int) ≤ 90) = false := decide_eq_false (by omega))
          first | (have d5 : ((x.toNat : Int) == 95) = true := by simp; omega) | (have d5 : ((x.toNat : Int) == 95) = false := by simp; omega)
          first | (have d6 : decide ((x.toNat : Int) < 48) = true := decide_eq_true (by omega)) | (have d6 : decide ((x.toNat : Int) < 48) = false := decide_eq_false (by omega))
          first | (have d7 : decide ((48 : Int) ≤ (x.toNat : Int)) = true := decide_eq_true (by omega)) | (have d7 : decide ((48 : Int) ≤ (x.toNat : Int)) = false := decide_eq_false (by omega))
          first | (have d8 : decide ((57 : Int) < (x.toNat : Int)) = true := decide_eq_true (by omega)) | (have d8 : decide ((57 : Int) < (x.toNat : Int)) = false := decide_eq_false (by omega))
          first | (have d9 : decide ((x.toNat : Int) ≤ 57) = true := decide_eq_true (by omega)) | (have d9 : decide ((x.toNat : Int) ≤ 57) = false := decide_eq_false (by omega))
          go_wp2
          go_ret
          exact ⟨by simp [nmB, hF.out], by trivial⟩
      · obtain ⟨x, hx⟩ : ∃ x : UInt8, s[i] = x := ⟨_, rfl⟩
        have hii : (i : Int) < s.size := by omega
        have di : ((i : Int) == 0) = false := by simp; omega
        have di' : decide ((0 : Int) < (i : Int)) = true := decide_eq_true (by omega)
        have di0 : ¬ (i = 0) := by omega
        rcases Nat.lt_or_ge x.toNat 48 with h1 | h1
        · have hc : nmC i x = false := by simp [nmC]; omega
          have hF : nmA s = false := nmA_no hlt (by rw [hx]; exact hc)
          have hF := hide hF
          clear hc hno
          first | (have d1 : decide ((97 : Int) ≤ (x.toNat : Int)) = true := decide_eq_true (by omega)) | (have d1 : decide ((97 : Int) ≤ (x.toNat : Int)) = false := decide_eq_false (by omega))
          first | (have d2 : decide ((x.toNat : Int) ≤ 122) = true := decide_eq_true (by omega)) | (have d2 : decide ((x.toNat : Int) ≤ 122) = false := decide_eq_false (by omega))
          first | (have d3 : decide ((65 : Int) ≤ (x.toNat : Int)) = true := decide_eq_true (by omega)) | (have d3 : decide ((65 : Int) ≤ (x.toNat : Int)) = false := decide_eq_false (by omega))
          first | (have d4 : decide ((x.toNat : Int) ≤ 90) = true := decide_eq_true (by omega)) | (have d4 : decide ((x.toNat : Int) ≤ 90) = false := decide_eq_false (by omega))
          first | (have d5 : ((x.toNat : Int) == 95) = true := by simp; omega) | (have d5 : ((x.toNat : Int) == 95) = false := by simp; omega)
          first | (have d6 : decide ((x.toNat : Int) < 48) = true := decide_eq_true (by omega)) | (have d6 : decide ((x.toNat : Int) < 48) = false := decide_eq_false (by omega))
          first | (have d7 : decide ((48 : Int) ≤ (x.toNat : Int)) = true := decide_eq_true (by omega)) | (have d7 : decide ((48 : Int) ≤ (x.toNat : Int)) = false := decide_eq_false (by omega))
          first | (have d8 : decide ((57 : Int) < (x.toNat : Int)) = true := decide_eq_true (by omega)) | (have d8 : decide ((57 : Int) < (x.toNat : Int)) = false := decide_eq_false (by omega))
          first | (have d9 : decide ((x.toNat : Int) ≤ 57) = true := decide_eq_true (by omega)) | (have d9 : decide ((x.toNat : Int) ≤ 57) = false := decide_eq_false (by omega))
          go_wp2
          go_ret
          exact ⟨by simp [nmB, hF.out], by trivial⟩
        rcases Nat.lt_or_ge 57 x.toNat with h2 | h2
        rcases Nat.lt_or_ge x.toNat 65 with h3 | h3
        · have hc : nmC i x = false := by simp [nmC]; omega
          have hF : nmA s = false := nmA_no hlt (by rw [hx]; exact hc)
          have hF := hide hF
          clear hc hno
          first | (have d1 : decide ((97 : Int) ≤ (x.toNat : Int)) = true := decide_eq_true (by omega)) | (have d1 : decide ((97 : Int) ≤ (x.toNat : Int)) = false := decide_eq_false (by omega))
          first | (have d2 : decide ((x.toNat : Int) ≤ 122) = true := decide_eq_true (by omega)) | (have d2 : decide ((x.toNat : Int) ≤ 122) = false := decide_eq_false (by omega))
          first | (have d3 : decide ((65 : Int) ≤ (x.toNat : Int)) = true := decide_eq_true (by omega)) | (have d3 : decide ((65 : Int) ≤ (x.toNat : Int)) = false := decide_eq_false (by omega))
          first | (have d4 : decide ((x.toNat : Int) ≤ 90) = true := decide_eq_true (by omega)) | (have d4 : decide ((x.toNat : Int) ≤ 90) = false := decide_eq_false (by omega))
          first | (have d5 : ((x.toNat : Int) == 95) = true := by simp; omega) | (have d5 : ((x.toNat : Int) == 95) = false := by simp; omega)
          first | (have d6 : decide ((x.toNat : Int) < 48) = true := decide_eq_true (by omega)) | (have d6 : decide ((x.toNat : Int) < 48) = false := decide_eq_false (by omega))
          first | (have d7 : decide ((48 : Int) ≤ (x.toNat : Int)) = true := decide_eq_true (by omega)) | (have d7 : decide ((48 : Int) ≤ (x.toNat : Int)) = false := decide_eq_false (by omega))
          first | (have d8 : decide ((57 : Int) < (x.toNat : Int)) = true := decide_eq_true (by omega)) | (have d8 : decide ((57 : Int) < (x.toNat : Int)) = false := decide_eq_false (by omega))
          first | (have d9 : decide ((x.toNat : Int) ≤ 57) = true := decide_eq_true (by omega)) | (have d9 : decide ((x.toNat : Int) ≤ 57) = false := decide_eq_false (by omega))
          go_wp2
          go_ret
          exact ⟨by simp [nmB, hF.out], by trivial⟩
        rcases Nat.lt_or_ge 90 x.toNat with h4 | h4
        rcases Nat.lt_or_ge x.toNat 97 with h5 | h5
        by_cases h6 : x.toNat = 95
        · have hc : nmC i x = true := by simp [nmC]; omega
          have HN := hide (nmA_up hno hlt (by rw [hx]; exact hc))
          clear hc hno
          first | (have d1 : decide ((97 : Int) ≤ (x.toNat : Int)) = true := decide_eq_true (by omega)) | (have d1 : decide ((97 : Int) ≤ (x.toNat : Int)) = false := decide_eq_false (by omega))
          first | (have d2 : decide ((x.toNat : Int) ≤ 122) = true := decide_eq_true (by omega)) | (have d2 : decide ((x.toNat : Int) ≤ 122) = false := decide_eq_false (by omega))
          first | (have d3 : decide ((65 : Int) ≤ (x.toNat : Int)) = true := decide_eq_true (by omega)) | (have d3 : decide ((65 : Int) ≤ (x.toNat : Int)) = false := decide_eq_false (by omega))
          first | (have d4 : decide ((x.toNat : Int) ≤ 90) = true := decide_eq_true (by omega)) | (have d4 : decide ((x.toNat : Int) ≤ 90) = false := decide_eq_false (by omega))
          first | (have d5 : ((x.toNat : Int) == 95) = true := by simp; omega) | (have d5 : ((x.toNat : Int) == 95) = false := by simp; omega)
          first | (have d6 : decide ((x.toNat : Int) < 48) = true := decide_eq_true (by omega)) | (have d6 : decide ((x.toNat : Int) < 48) = false := decide_eq_false (by omega))
          first | (have d7 : decide ((48 : Int) ≤ (x.toNat : Int)) = true := decide_eq_true (by omega)) | (have d7 : decide ((48 : Int) ≤ (x.toNat : Int)) = false := decide_eq_false (by omega))
          first | (have d8 : decide ((57 : Int) < (x.toNat : Int)) = true := decide_eq_true (by omega)) | (have d8 : decide ((57 : Int) < (x.toNat : Int)) = false := decide_eq_false (by omega))
          first | (have d9 : decide ((x.toNat : Int) ≤ 57) = true := decide_eq_true (by omega)) | (have d9 : decide ((x.toNat : Int) ≤ 57) = false := decide_eq_false (by omega))
          go_wp2
          go_roundw
          case rel => exact ⟨_, Nat.succ_le_of_lt hlt, by go_num, HN.out, by trivial⟩
          case measure => simp [intOf]; omega
        · have hc : nmC i x = false := by simp [nmC]; omega
          have hF : nmA s = false := nmA_no hlt (by rw [hx]; exact hc)
          have hF := hide hF
          clear hc hno
          first | (have d1 : decide ((97 : Int) ≤ (x.toNat : Int)) = true := decide_eq_true (by omega)) | (have d1 : decide ((97 : Int) ≤ (x.toNat : Int)) = false := decide_eq_false (by omega))
          first | (have d2 : decide ((x.toNat : Int) ≤ 122) = true := decide_eq_true (by omega)) | (have d2 : decide ((x.toNat : Int) ≤ 122) = false := decide_eq_false (by omega))
          first | (have d3 : decide ((65 : Int) ≤ (x.toNat : Int)) = true := decide_eq_true (by omega)) | (have d3 : decide ((65 : Int) ≤ (x.toNat : Int)) = false := decide_eq_false (by omega))
          first | (have d4 : decide ((x.toNat : Int) ≤ 90) = true := decide_eq_true (by omega)) | (have d4 : decide ((x.toNat : Int) ≤ 90) = false := decide_eq_false (by omega))
          first | (have d5 : ((x.toNat : Int) == 95) = true := by simp; omega) | (have d5 : ((x.toNat : Int) == 95) = false := by simp; omega)
          first | (have d6 : decide ((x.toNat : Int) < 48) = true := decide_eq_true (by omega)) | (have d6 : decide ((x.toNat : Int) < 48) = false := decide_eq_false (by omega))
          first | (have d7 : decide ((48 : Int) ≤ (x.toNat : Int)) = true := decide_eq_true (by omega)) | (have d7 : decide ((48 : Int) ≤ (x.toNat : Int)) = false := decide_eq_false (by omega))
          first | (have d8 : decide ((57 : Int) < (x.toNat : Int)) = true := decide_eq_true (by omega)) | (have d8 : decide ((57 : Int) < (x.toNat : Int)) = false := decide_eq_false (by omega))
          first | (have d9 : decide ((x.toNat : Int) ≤ 57) = true := decide_eq_true (by omega)) | (have d9 : decide ((x.toNat : Int) ≤ 57) = false := decide_eq_false (by omega))
          go_wp2
          go_ret
          exact ⟨by simp [nmB, hF.out], by trivial⟩
        rcases Nat.lt_or_ge 122 x.toNat with h7 | h7
        · have hc : nmC i x = false := by simp [nmC]; omega
          have hF : nmA s = false := nmA_no hlt (by rw [hx]; exact hc)
          have hF := hide hF
          clear hc hno
          first | (have d1 : decide ((97 : Int) ≤ (x.toNat : Int)) = true := decide_eq_true (by omega)) | (have d1 : decide ((97 : Int) ≤ (x.toNat : Int)) = false := decide_eq_false (by omega))
          first | (have d2 : decide ((x.toNat : Int) ≤ 122) = true := decide_eq_true (by omega)) | (have d2 : decide ((x.toNat : Int) ≤ 122) = false := decide_eq_false (by omega))
          first | (have d3 : decide ((65 : Int) ≤ (x.toNat : Int)) = true := decide_eq_true (by omega)) | (have d3 : decide ((65 : Int) ≤ (x.toNat : Int)) = false := decide_eq_false (by omega))
          first | (have d4 : decide ((x.toNat : Int) ≤ 90) = true := decide_eq_true (by omega)) | (have d4 : decide ((x.toNat : Int) ≤ 90) = false := decide_eq_false (by omega))
          first | (have d5 : ((x.toNat : Int) == 95) = true := by simp; omega) | (have d5 : ((x.toNat : Int) == 95) = false := by simp; omega)
          first | (have d6 : decide ((x.toNat : Int) < 48) = true := decide_eq_true (by omega)) | (have d6 : decide ((x.toNat : Int) < 48) = false := decide_eq_false (by omega))
          first | (have d7 : decide ((48 : Int) ≤ (x.toNat : Int)) = true := decide_eq_true (by omega)) | (have d7 : decide ((48 : Int) ≤ (x.toNat : Int)) = false := decide_eq_false (by omega))
          first | (have d8 : decide ((57 : Int) < (x.toNat : Int)) = true := decide_eq_true (by omega)) | (have d8 : decide ((57 : Int) < (x.toNat : Int)) = false := decide_eq_false (by omega))
          first | (have d9 : decide ((x.toNat : Int) ≤ 57) = true := decide_eq_true (by omega)) | (have d9 : decide ((x.toNat : Int) ≤ 57) = false := decide_eq_false (by omega))
          go_wp2
          go_ret
          exact ⟨by simp [nmB, hF.out], by trivial⟩
        · have hc : nmC i x = true := by simp [nmC]; omega
          have HN := hide (nmA_up hno hlt (by rw [hx]; exact hc))
          clear hc hno
          first | (have d1 : decide ((97 : Int) ≤ (x.toNat : Int)) = true := decide_eq_true (by omega)) | (have d1 : decide ((97 : Int) ≤ (x.toNat : Int)) = false := decide_eq_false (by omega))
          first | (have d2 : decide ((x.toNat : Int) ≤ 122) = true := decide_eq_true (by omega)) | (have d2 : decide ((x.toNat : Int) ≤ 122) = false := decide_eq_false (by omega))
          first | (have d3 : decide ((65 : Int) ≤ (x.toNat : Int)) = true := decide_eq_true (by omega)) | (have d3 : decide ((65 : Int) ≤ (x.toNat : Int)) = false := decide_eq_false (by omega))
          first | (have d4 : decide ((x.toNat : Int) ≤ 90) = true := decide_eq_true (by omega)) | (have d4 : decide ((x.toNat : Int) ≤ 90) = false := decide_eq_false (by omega))
          first | (have d5 : ((x.toNat : Int) == 95) = true := by simp; omega) | (have d5 : ((x.toNat : Int) == 95) = false := by simp; omega)
          first | (have d6 : decide ((x.toNat : Int) < 48) = true := decide_eq_true (by omega)) | (have d6 : decide ((x.toNat : Int) < 48) = false := decide_eq_false (by omega))
          first | (have d7 : decide ((48 : Int) ≤ (x.toNat : Int)) = true := decide_eq_true (by omega)) | (have d7 : decide ((48 : Int) ≤ (x.toNat : Int)) = false := decide_eq_false (by omega))
          first | (have d8 : decide ((57 : Int) < (x.toNat : Int)) = true := decide_eq_true (by omega)) | (have d8 : decide ((57 : Int) < (x.toNat : Int)) = false := decide_eq_false (by omega))
          first | (have d9 : decide ((x.toNat : Int) ≤ 57) = true := decide_eq_true (by omega)) | (have d9 : decide ((x.toNat : Int) ≤ 57) = false := decide_eq_false (by omega))
          go_wp2
          go_roundw
          case rel => exact ⟨_, Nat.succ_le_of_lt hlt, by go_num, HN.out, by trivial⟩
          case measure => simp [intOf]; omega
        · have hc : nmC i x = true := by simp [nmC]; omega
          have HN := hide (nmA_up hno hlt (by rw [hx]; exact hc))
          clear hc hno
          first | (have d1 : decide ((97 : Int) ≤ (x.toNat : Int)) = true := decide_eq_true (by omega)) | (have d1 : decide ((97 : Int) ≤ (x.toNat : Int)) = false := decide_eq_false (by omega))
          first | (have d2 : decide ((x.toNat : Int) ≤ 122) = true := decide_eq_true (by omega)) | (have d2 : decide ((x.toNat : Int) ≤ 122) = false := decide_eq_false (by omega))
          first | (have d3 : decide ((65 : Int) ≤ (x.toNat : Int)) = true := decide_eq_true (by omega)) | (have d3 : decide ((65 : Int) ≤ (x.toNat : Int)) = false := decide_eq_false (by omega))
          first | (have d4 : decide ((x.toNat : Int) ≤ 90) = true := decide_eq_true (by omega)) | (have d4 : decide ((x.toNat : Int) ≤ 90) = false := decide_eq_false (by omega))
          first | (have d5 : ((x.toNat : Int) == 95) = true := by simp; omega) | (have d5 : ((x.toNat : Int) == 95) = false := by simp; omega)
          first | (have d6 : decide ((x.toNat : Int) < 48) = true := decide_eq_true (by omega)) | (have d6 : decide ((x.toNat : Int) < 48) = false := decide_eq_false (by omega))
          first | (have d7 : decide ((48 : Int) ≤ (x.toNat : Int)) = true := decide_eq_true (by omega)) | (have d7 : decide ((48 : Int) ≤ (x.toNat : Int)) = false := decide_eq_false (by omega))
          first | (have d8 : decide ((57 : Int) < (x.toNat : Int)) = true := decide_eq_true (by omega)) | (have d8 : decide ((57 : Int) < (x.toNat : Int)) = false := decide_eq_false (by omega))
          first | (have d9 : decide ((x.toNat : Int) ≤ 57) = true := decide_eq_true (by omega)) | (have d9 : decide ((x.toNat : Int) ≤ 57) = false := decide_eq_false (by omega))
          go_wp2
          go_roundw
          case rel => exact ⟨_, Nat.succ_le_of_lt hlt, by go_num, HN.out, by trivial⟩
          case measure => simp [intOf]; omega
        · have hc : nmC i x = true := by simp [nmC]; omega
          have HN := hide (nmA_up hno hlt (by rw [hx]; exact hc))
          clear hc hno
          first | (have d1 : decide ((97 : Int) ≤ (x.toNat : Int)) = true := decide_eq_true (by omega)) | (have d1 : decide ((97 : Int) ≤ (x.toNat : Int)) = false := decide_eq_false (by omega))
          first | (have d2 : decide ((x.toNat : Int) ≤ 122) = true := decide_eq_true (by omega)) | (have d2 : decide ((x.toNat : Int) ≤ 122) = false := decide_eq_false (by omega))
          first | (have d3 : decide ((65 : Int) ≤ (x.toNat : Int)) = true := decide_eq_true (by omega)) | (have d3 : decide ((65 : Int) ≤ (x.toNat : Int)) = false := decide_eq_false (by omega))
          first | (have d4 : decide ((x.toNat : Int) ≤ 90) = true := decide_eq_true (by omega)) | (have d4 : decide ((x.toNat : Int) ≤ 90) = false := decide_eq_false (by omega))
          first | (have d5 : ((x.toNat : Int) == 95) = true := by simp; omega) | (have d5 : ((x.toNat : Int) == 95) = false := by simp; omega)
          first | (have d6 : decide ((x.toNat : Int) < 48) = true := decide_eq_true (by omega)) | (have d6 : decide ((x.toNat : Int) < 48) = false := decide_eq_false (by omega))
          first | (have d7 : decide ((48 : Int) ≤ (x.toNat : Int)) = true := decide_eq_true (by omega)) | (have d7 : decide ((48 : Int) ≤ (x.toNat : Int)) = false := decide_eq_false (by omega))
          first | (have d8 : decide ((57 : Int) < (x.toNat : Int)) = true := decide_eq_true (by omega)) | (have d8 : decide ((57 : Int) < (x.toNat : Int)) = false := decide_eq_false (by omega))
          first | (have d9 : decide ((x.toNat : Int) ≤ 57) = true := decide_eq_true (by omega)) | (have d9 : decide ((x.toNat : Int) ≤ 57) = false := decide_eq_false (by omega))
          go_wp2
          go_roundw
          case rel => exact ⟨_, Nat.succ_le_of_lt hlt, by go_num, HN.out, by trivial⟩
          case measure => simp [intOf]; omega
    · obtain rfl : i = s.size := by omega
      have HN := hide (show nmA s = true from hno)
      rcases Nat.lt_or_ge s.size 1 with h1 | h1
      · have d1 : decide ((1 : Int) ≤ (s.size : Int)) = false := decide_eq_false (by omega)
        go_wp2
        go_ret
        exact ⟨by simp [nmB, HN.out]; omega, by trivial⟩
      · have d1 : decide ((1 : Int) ≤ (s.size : Int)) = true := decide_eq_true (by omega)
        have hv : nmB s = decide ((s.size : Int) ≤ 32) := by
          rw [Bool.eq_iff_iff]
          simp only [nmB, HN.out, Bool.and_true, Bool.and_eq_true, decide_eq_true_eq]
          omega
        have hv := hide hv
        go_wp2
        go_ret
        exact ⟨by rw [hv.out]; rfl, by trivial⟩
set_option maxRecDepth 100000 in
set_option maxHeartbeats 16000000 in
theorem rvalue_any (s : ByteArray) (hs : s.size ≤ maxLen) (w : World) :
    Calls Tryd.prog 26 #[.string s] w fun e w' => e = .returned (.bool (vlB s)) ∧ w' = w := by
  unfold maxLen at hs
  go_enter Tryd.func26, Tryd.ntmps26
  go_wp2
  go_loopw [3] (fun s15 wr => ∃ i : Nat, i ≤ s.size ∧ s15 = .int .i64 (i : Int) ∧ vlT s i = true ∧ wr = w) (fun s15 _ => ((s.size : Int) - intOf s15).toNat)
  case atStart => exact ⟨0, by omega, rfl, rfl, rfl⟩
  case round =>
    obtain ⟨i, hi, rfl, hno, rfl⟩ := hrel
    by_cases hlt : i < s.size
    · obtain ⟨x, hx⟩ : ∃ x : UInt8, s[i] = x := ⟨_, rfl⟩
      have hii : (i : Int) < s.size := by omega
      rcases Nat.lt_or_ge x.toNat 32 with h1 | h1
      · have hF := hide (vlA_no hlt (by rw [hx]; simp [vlC]; omega))
        clear hno
        first | (have d1 : decide ((x.toNat : Int) < 32) = true := decide_eq_true (by omega)) | (have d1 : decide ((x.toNat : Int) < 32) = false := decide_eq_false (by omega))
        first | (have d2 : decide ((126 : Int) < (x.toNat : Int)) = true := decide_eq_true (by omega)) | (have d2 : decide ((126 : Int) < (x.toNat : Int)) = false := decide_eq_false (by omega))
        go_wp2
        go_ret
        exact ⟨by simp [vlB, hF.out], by trivial⟩
      rcases Nat.lt_or_ge 126 x.toNat with h2 | h2
      · have hF := hide (vlA_no hlt (by rw [hx]; simp [vlC]; omega))
        clear hno
        first | (have d1 : decide ((x.toNat : Int) < 32) = true := decide_eq_true (by omega)) | (have d1 : decide ((x.toNat : Int) < 32) = false := decide_eq_false (by omega))
        first | (have d2 : decide ((126 : Int) < (x.toNat : Int)) = true := decide_eq_true (by omega)) | (have d2 : decide ((126 : Int) < (x.toNat : Int)) = false := decide_eq_false (by omega))
        go_wp2
        go_ret
        exact ⟨by simp [vlB, hF.out], by trivial⟩
      · have HN := hide (vlA_up hno hlt (by rw [hx]; simp [vlC]; omega))
        clear hno
        first | (have d1 : decide ((x.toNat : Int) < 32) = true := decide_eq_true (by omega)) | (have d1 : decide ((x.toNat : Int) < 32) = false := decide_eq_false (by omega))
        first | (have d2 : decide ((126 : Int) < (x.toNat : Int)) = true := decide_eq_true (by omega)) | (have d2 : decide ((126 : Int) < (x.toNat : Int)) = false := decide_eq_false (by omega))
        go_wp2
        go_roundw
        case rel => exact ⟨_, Nat.succ_le_of_lt hlt, by go_num, HN.out, by trivial⟩
        case measure => simp [intOf]; omega
    · obtain rfl : i = s.size := by omega
      have HN := hide (show vlA s = true from hno)
      rcases Nat.lt_or_ge s.size 1 with h1 | h1
      · have d1 : decide ((1 : Int) ≤ (s.size : Int)) = false := decide_eq_false (by omega)
        go_wp2
        go_ret
        exact ⟨by simp [vlB, HN.out]; omega, by trivial⟩
      · have d1 : decide ((1 : Int) ≤ (s.size : Int)) = true := decide_eq_true (by omega)
        have hv : vlB s = decide ((s.size : Int) ≤ 64) := by
          rw [Bool.eq_iff_iff]
          simp only [vlB, HN.out, Bool.and_true, Bool.and_eq_true, decide_eq_true_eq]
          omega
        have hv := hide hv
        go_wp2
        go_ret
        exact ⟨by rw [hv.out]; rfl, by trivial⟩
set_option maxRecDepth 100000 in
set_option maxHeartbeats 16000000 in
theorem pvalue_any (s : ByteArray) (hs : s.size ≤ maxLen) (w : World) :
    Calls Tryd.prog 24 #[.string s] w fun e w' => e = .returned (.bool (vlB s)) ∧ w' = w := by
  unfold maxLen at hs
  rcases Nat.eq_zero_or_pos s.size with h0 | h0
  · have he := str_empty h0
    have he' : s.toList.isEmpty = true := by rw [he]; rfl
    have hF := hide (show vlB s = false by simp [vlB, h0])
    go_enter Tryd.func24, Tryd.ntmps24
    go_wp2
    go_ret
    exact ⟨by rw [hF.out]; rfl, rfl⟩
  obtain ⟨he, he'⟩ := str_some h0
  by_cases h64 : s.size ≤ 64
  · have h64i : (s.size : Int) ≤ 64 := by omega
    have ht : vlB s = vlA s := by simp [vlB, h64, show 1 ≤ s.size from h0]
    rw [ht]
    go_enter Tryd.func24, Tryd.ntmps24
    go_wp2
    go_loopw [13] (fun s15 wr => ∃ i : Nat, i ≤ s.size ∧ s15 = .int .i64 (i : Int) ∧ vlT s i = true ∧ wr = w) (fun s15 _ => ((s.size : Int) - intOf s15).toNat)
    case atStart => exact ⟨0, by omega, rfl, rfl, rfl⟩
    case round =>
      obtain ⟨i, hi, rfl, hno, rfl⟩ := hrel
      by_cases hlt : i < s.size
      · obtain ⟨x, hx⟩ : ∃ x : UInt8, s[i] = x := ⟨_, rfl⟩
        have hii : (i : Int) < s.size := by omega
        rcases Nat.lt_or_ge x.toNat 32 with h1 | h1
        · have hF := hide (vlA_no hlt (by rw [hx]; simp [vlC]; omega))
          clear hno
          first | (have d1 : decide ((x.toNat : Int) < 32) = true := decide_eq_true (by omega)) | (have d1 : decide ((x.toNat : Int) < 32) = false := decide_eq_false (by omega))
          first | (have d2 : decide ((126 : Int) < (x.toNat : Int)) = true := decide_eq_true (by omega)) | (have d2 : decide ((126 : Int) < (x.toNat : Int)) = false := decide_eq_false (by omega))
          go_wp2
          go_ret
          exact ⟨by simp [vlB, hF.out], by trivial⟩
        rcases Nat.lt_or_ge 126 x.toNat with h2 | h2
        · have hF := hide (vlA_no hlt (by rw [hx]; simp [vlC]; omega))
          clear hno
          first | (have d1 : decide ((x.toNat : Int) < 32) = true := decide_eq_true (by omega)) | (have d1 : decide ((x.toNat : Int) < 32) = false := decide_eq_false (by omega))
          first | (have d2 : decide ((126 : Int) < (x.toNat : Int)) = true := decide_eq_true (by omega)) | (have d2 : decide ((126 : Int) < (x.toNat : Int)) = false := decide_eq_false (by omega))
          go_wp2
          go_ret
          exact ⟨by simp [vlB, hF.out], by trivial⟩
        · have HN := hide (vlA_up hno hlt (by rw [hx]; simp [vlC]; omega))
          clear hno
          first | (have d1 : decide ((x.toNat : Int) < 32) = true := decide_eq_true (by omega)) | (have d1 : decide ((x.toNat : Int) < 32) = false := decide_eq_false (by omega))
          first | (have d2 : decide ((126 : Int) < (x.toNat : Int)) = true := decide_eq_true (by omega)) | (have d2 : decide ((126 : Int) < (x.toNat : Int)) = false := decide_eq_false (by omega))
          go_wp2
          go_roundw
          case rel => exact ⟨_, Nat.succ_le_of_lt hlt, by go_num, HN.out, by trivial⟩
          case measure => simp [intOf]; omega
      · obtain rfl : i = s.size := by omega
        have HN := hide (show vlA s = true from hno)
        go_wp2
        go_ret
        exact ⟨by rw [HN.out]; rfl, by trivial⟩
  · have h64i : ¬ ((s.size : Int) ≤ 64) := by omega
    have hF := hide (show vlB s = false by simp [vlB, h64])
    go_enter Tryd.func24, Tryd.ntmps24
    go_wp2
    go_ret
    exact ⟨by rw [hF.out]; rfl, rfl⟩
end Go.Proofs.YtmfbidhnafpkdaaDoor
