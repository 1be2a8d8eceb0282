import Derived.Test.YtmfbidhnafpkdaaDoorBld
/-! A value as it is written. -/
namespace Go.Proofs.YtmfbidhnafpkdaaDoor
open Go.RowKit
set_option linter.unusedVariables false
set_option linter.unusedSimpArgs false
def esc (x : UInt8) : List UInt8 := if x = 34 ∨ x = 92 then [92, x] else [x]
def qB (l : List UInt8) : List UInt8 := l.flatMap esc
def qL (l : List UInt8) : List UInt8 := 34 :: (qB l ++ [34])
theorem qB_len (l : List UInt8) : (qB l).length ≤ 2 * l.length := by
  induction l with
  | nil => simp [qB]
  | cons x l ih =>
    simp only [qB, List.flatMap_cons, List.length_append, List.length_cons] at *
    have : (esc x).length ≤ 2 := by unfold esc; split <;> simp
    omega
theorem qB_len1 (l : List UInt8) : l.length ≤ (qB l).length := by
  induction l with
  | nil => simp [qB]
  | cons x l ih =>
    simp only [qB, List.flatMap_cons, List.length_append, List.length_cons] at *
    have : 1 ≤ (esc x).length := by unfold esc; split <;> simp
    omega
theorem qB_take {s : ByteArray} {i : Nat} (h : i < s.size) : qB (s.data.toList.take (i + 1)) = qB (s.data.toList.take i) ++ esc s[i] := by
  have h' : i < s.data.toList.length := by rw [Array.length_toList]; exact h
  rw [List.take_add_one, List.getElem?_eq_getElem h', Option.toList_some]
  simp only [qB, List.flatMap_append, List.flatMap_cons, List.flatMap_nil, List.append_nil]
  rfl
theorem take_all (s : ByteArray) : s.data.toList.take s.size = s.data.toList := List.take_of_length_le (by rw [Array.length_toList]; exact Nat.le_refl _)
theorem qB_take_len (s : ByteArray) (i : Nat) : (qB (s.data.toList.take i)).length ≤ 2 * i := by
  have := qB_len (s.data.toList.take i)
  have h2 := List.length_take_le i s.data.toList
  omega
theorem bbyte_k (B b : Nat) (l : List UInt8) (c : UInt8) (k : Int) (hk : (c.toNat : Int) = k) (w : World) (h : Bld B b l w) (hlen : l.length + 1 ≤ 140737488355328) (hBw : B ≤ w.heap.size) :
    Calls Tryd.prog 36 #[.pointer (some ⟨b, 0, none⟩), .int .u8 k] w fun e w' => e = .returned .nilIface ∧ Bld B b (l ++ [c]) w' ∧ Below B w w' := by
  subst hk
  exact bbyte_any B b l c w h hlen hBw
theorem u8_34 {x : UInt8} : x.toNat = 34 ↔ x = 34 := ⟨fun h => UInt8.toNat_inj.1 h, fun h => by rw [h]; rfl⟩
theorem u8_92 {x : UInt8} : x.toNat = 92 ↔ x = 92 := ⟨fun h => UInt8.toNat_inj.1 h, fun h => by rw [h]; rfl⟩
set_option maxRecDepth 100000 in
set_option maxHeartbeats 4000000 in
theorem pquote_any (s : ByteArray) (hs : 2 * s.size + 2 ≤ 140737488355328) (w : World) :
    Calls Tryd.prog 38 #[.string s] w fun e w' => e = .returned (.string ⟨(qL s.data.toList).toArray⟩) ∧ Below w.heap.size w w' := by
  have h0 := bld_new w
  have hb0 : Below w.heap.size w (w.alloc (.cells #[.pointer none, .slice none 0 0] 66)) := Below.alloc (Below.refl _ _) (Nat.le_refl _) _
  go_enter Tryd.func38, Tryd.ntmps38
  go_wp2_with (go_at_call 36; (with_reducible refine (bbyte_k _ _ [] 34 34 rfl _ h0 (by simp) (by simp)).mono ?_); rintro e w1 ⟨rfl, hB, hb1⟩)
  have hb := hb0.trans hb1
  generalize hq : w.heap.size = q at *
  clear hb0 hb1 h0
  go_loopw [8] (fun s8 wr => ∃ i : Nat, i ≤ s.size ∧ s8 = .int .i64 (i : Int) ∧ Bld q q (34 :: qB (s.data.toList.take i)) wr ∧ Below q w wr) (fun s8 _ => ((s.size : Int) - intOf s8).toNat)
  case atStart => exact ⟨0, by omega, rfl, hB, hb⟩
  case round =>
    clear hB hb
    obtain ⟨i, hi, rfl, hB, hb⟩ := hrel
    have hlen := qB_take_len s i
    have hqw : q ≤ wr.heap.size := by rw [← hq]; exact hb.size
    by_cases hlt : i < s.size
    · have ht := qB_take hlt
      obtain ⟨x, hx⟩ : ∃ x : UInt8, s[i] = x := ⟨_, rfl⟩
      have hii : (i : Int) < s.size := by omega
      rw [hx] at ht
      have ht := hide ht
      by_cases h1 : x.toNat = 34
      · have d1 : ((x.toNat : Int) == 34) = true := by simp; omega
        go_wp2_with (first
          | (go_at_call 36; (with_reducible refine (bbyte_k _ _ _ 92 92 rfl _ hB (by simp; omega) hqw).mono ?_); rintro e v1 ⟨rfl, hB1, hv1⟩)
          | (go_at_call 36; (with_reducible refine (bbyte_k _ _ _ x _ (by omega) _ hB1 (by simp; omega) (Nat.le_trans hqw hv1.size)).mono ?_); rintro e v2 ⟨rfl, hB2, hv2⟩))
        go_roundw
        case rel =>
          refine ⟨i + 1, by omega, by go_num, ?_, (hb.trans hv1).trans hv2⟩
          rw [ht.out, esc, if_pos (Or.inl (u8_34.1 h1))]
          simpa using hB2
        case measure => simp [intOf]; omega
      by_cases h2 : x.toNat = 92
      · have d1 : ((x.toNat : Int) == 34) = false := by simp; omega
        have d2 : ((x.toNat : Int) == 92) = true := by simp; omega
        go_wp2_with (first
          | (go_at_call 36; (with_reducible refine (bbyte_k _ _ _ 92 92 rfl _ hB (by simp; omega) hqw).mono ?_); rintro e v1 ⟨rfl, hB1, hv1⟩)
          | (go_at_call 36; (with_reducible refine (bbyte_k _ _ _ x _ (by omega) _ hB1 (by simp; omega) (Nat.le_trans hqw hv1.size)).mono ?_); rintro e v2 ⟨rfl, hB2, hv2⟩))
        go_roundw
        case rel =>
          refine ⟨i + 1, by omega, by go_num, ?_, (hb.trans hv1).trans hv2⟩
          rw [ht.out, esc, if_pos (Or.inr (u8_92.1 h2))]
          simpa using hB2
        case measure => simp [intOf]; omega
      · have d1 : ((x.toNat : Int) == 34) = false := by simp; omega
        have d2 : ((x.toNat : Int) == 92) = false := by simp; omega
        go_wp2_with (go_at_call 36; (with_reducible refine (bbyte_any _ _ _ _ _ hB (by simp; omega) hqw).mono ?_); rintro e v1 ⟨rfl, hB1, hv1⟩)
        go_roundw
        case rel =>
          refine ⟨i + 1, by omega, by go_num, ?_, hb.trans hv1⟩
          rw [ht.out, esc, if_neg (fun h => h.elim (fun h => h1 (u8_34.2 h)) (fun h => h2 (u8_92.2 h)))]
          simpa using hB1
        case measure => simp [intOf]; omega
    · obtain rfl : i = s.size := by omega
      rw [take_all] at hB hlen
      go_wp2_with (first
        | (go_at_call 36; (with_reducible refine (bbyte_k _ _ _ 34 34 rfl _ hB (by simp; omega) hqw).mono ?_); rintro e v1 ⟨rfl, hB1, hv1⟩)
        | (go_at_call 39; (with_reducible refine (bstr_any _ _ _ _ hB1 (Nat.le_trans hqw hv1.size)).mono ?_); rintro e v2 ⟨rfl, hv2⟩))
      go_ret
      exact ⟨rfl, by rw [hq]; exact (hb.trans hv1).trans hv2⟩
end Go.Proofs.YtmfbidhnafpkdaaDoor
