import Derived.Test.YtmfbidhnafpkdaaTx
import Derived.Test.YtmfbidhnafpkdaaLo
/-! The document's: a set as a text. -/
namespace Go.Proofs.Ytmfbidhnafpkdaa
open Go.RowKit
set_option linter.unusedVariables false
set_option linter.unusedSimpArgs false
theorem joinB_one {l : List Par} {x : Par} (h : l[0]? = some x) : joinB (l.take 1) = (pairB x).data.toList := by
  cases l with
  | nil => cases h
  | cons y l =>
    cases h
    simp [joinB, Lib.join_one]
theorem joinB_succ {l : List Par} {i : Nat} {x : Par} (h : l[i]? = some x) (h0 : 0 < i) : joinB (l.take (i + 1)) = joinB (l.take i) ++ 44 :: (pairB x).data.toList := by
  cases l with
  | nil => cases h
  | cons y l =>
    obtain ⟨k, rfl⟩ : ∃ k, i = k + 1 := ⟨i - 1, by omega⟩
    simp only [List.getElem?_cons_succ] at h
    have h2 : (l.map fun x => (pairB x).data.toList)[k]? = some (pairB x).data.toList := by rw [List.getElem?_map, h]; rfl
    have h3 := Lib.joinTail_take_succ [44] _ k _ h2
    simp only [joinB, List.take_succ_cons, List.map_cons, Lib.join_cons]
    rw [List.map_take, List.map_take, h3]
    simp
theorem joinB_take_len (l : List Par) (i : Nat) : (joinB (l.take i)).length ≤ (joinB l).length := by
  cases l with
  | nil => simp
  | cons y l =>
    cases i with
    | zero => simp [joinB, Lib.join_nil]
    | succ k =>
      simp only [joinB, List.take_succ_cons, List.map_cons, Lib.join_cons, List.length_append]
      rw [List.map_take]
      have := Lib.joinTail_take_le [44] (l.map fun x => (pairB x).data.toList) k
      omega
theorem pairB_size (x : Par) : (pairB x).data.toList.length = x.a.size + 1 + (qL x.b.data.toList).length := by
  have := Lib.size_eq x.a
  simp only [pairB, List.toList_toArray, List.length_append, List.length_cons]
  omega
theorem txt_one (jb : List UInt8) (x : Par) : (⟨(123 :: jb).toArray⟩ : ByteArray) ++ x.a ++ (⟨#[61]⟩ : ByteArray) ++ ⟨(qL x.b.data.toList).toArray⟩ = ⟨(123 :: (jb ++ (pairB x).data.toList)).toArray⟩ := by
  rw [ba_append, ba_append, ba_append]
  simp [pairB]
theorem txt_com (jb : List UInt8) : (⟨(123 :: jb).toArray⟩ : ByteArray) ++ (⟨#[44]⟩ : ByteArray) = ⟨(123 :: (jb ++ [44])).toArray⟩ := by
  rw [ba_append]
  simp
theorem txt_end (l : List Par) : (⟨(123 :: joinB l).toArray⟩ : ByteArray) ++ (⟨#[125]⟩ : ByteArray) = textB l := by
  rw [ba_append]
  simp [textB]
theorem txt_size (jb : List UInt8) : (⟨(123 :: jb).toArray⟩ : ByteArray).size = jb.length + 1 := by
  rw [Lib.size_eq]; simp
set_option maxRecDepth 100000 in
set_option maxHeartbeats 8000000 in
theorem rtext_any (v : Value) (l : List Par) (w : World) (h : Pz w v l) (hsh : Short l) :
    Calls Try.prog 33 #[v] w fun e w' => e = .returned (.string (textB l)) ∧ Below w.heap.size w w' := by
  obtain ⟨A, c, rfl⟩ := h.shape
  have hn1 := h.n.2
  obtain ⟨q, hq⟩ : ∃ q, w.heap.size = q := ⟨_, rfl⟩
  have hB : Below q w w := by rw [← hq]; exact Below.refl _ _
  have hall := hsh.all
  rw [hq]
  go_enter Try.func33, Try.ntmps33
  go_wp2
  go_loopw [3, 4] (fun s3 s4 wr => ∃ (i : Nat) (s : ByteArray), i ≤ l.length ∧ s4 = .int .i64 (i : Int) ∧ s3 = .string s ∧ s = ⟨(123 :: joinB (l.take i)).toArray⟩ ∧ Below q w wr) (fun _ s4 _ => ((l.length : Int) - intOf s4).toNat)
  case atStart => exact ⟨0, _, by omega, rfl, rfl, by simp [joinB, Lib.join_nil], hB⟩
  case round =>
    clear hB
    obtain ⟨i, s, hi, rfl, rfl, hs, hbel⟩ := hrel
    have hszw : q ≤ wr.heap.size := by rw [← hq]; exact hbel.size
    have hjl := joinB_take_len l i
    have hss : s.size = (joinB (l.take i)).length + 1 := by rw [hs, txt_size]
    by_cases hlt : i < l.length
    · obtain ⟨x, hx⟩ : ∃ x, l[i]? = some x := ⟨_, List.getElem?_eq_getElem hlt⟩
      have hlw := h.below (by rw [hq]; exact hbel)
      obtain ⟨b, o, rfl, hbb, m0, m1⟩ := hlw.at_ hx
      have hii : (i : Int) < l.length := by omega
      have hxs := hsh.each x (List.mem_of_getElem? hx)
      have hQ := fun w => rquote_any x.b hxs.2 w
      have hql : (qL x.b.data.toList).length ≤ 140737488355328 := by
        have := qB_len x.b.data.toList
        have e := Lib.size_eq x.b
        simp only [qL, List.length_cons, List.length_append, List.length_nil]
        omega
      rcases Nat.eq_zero_or_pos i with hi0 | hi0
      · have d0 : decide (0 < i) = false := decide_eq_false (by omega)
        have e1 : s ++ x.a ++ (⟨#[61]⟩ : ByteArray) ++ ⟨(qL x.b.data.toList).toArray⟩ = ⟨(123 :: joinB (l.take (i + 1))).toArray⟩ := by
          rw [hs, txt_one]
          subst hi0
          rw [joinB_one hx]
          simp [joinB, Lib.join_nil]
        have g1 : ¬ (9223372036854775807 < s.size + x.a.size) := by omega
        have g2 : ¬ (9223372036854775807 < s.size + x.a.size + 1) := by omega
        have g3 : ¬ (9223372036854775807 < s.size + x.a.size + 1 + (qL x.b.data.toList).length) := by omega
        have H := hide e1
        generalize qL x.b.data.toList = qq at *
        clear e1 hs hss hjl hx hlw hi0 hql
        go_wp2
        refine wp_region_ext_lit (by kernel_rfl) (by kernel_rfl) ?_
        (repeat (first | ((with_reducible refine wpQuiet_step (fun K hK => ?_)); go_simp; first | ((with_reducible refine hK _ ?_); clear hK K) | (apply Exists.intro; (with_reducible refine ⟨fun _ => ?_, hK _ ?_⟩); (go_at_call 27; exact Calls.ext_of (hQ _)); clear hK K)) | ((with_reducible refine quiet_skipN ?_ (fun K hK => ?_)); (rfl); go_simp; (with_reducible refine hK _ ?_); clear hK K)))
        (with_reducible refine wpQuiet_nil ?_); intro _ hw'; obtain ⟨X, hw''⟩ := hw'; subst hw''
        go_wp2
        go_roundw
        case rel => exact ⟨i + 1, _, by omega, by go_num, rfl, H.out, hbel.trans ((World.below_ext _ X).mono hszw)⟩
        case measure => simp [intOf]; omega
      · have d0 : decide (0 < i) = true := decide_eq_true hi0
        have e1 : s ++ (⟨#[44]⟩ : ByteArray) ++ x.a ++ (⟨#[61]⟩ : ByteArray) ++ ⟨(qL x.b.data.toList).toArray⟩ = ⟨(123 :: joinB (l.take (i + 1))).toArray⟩ := by
          rw [hs, txt_com, txt_one, joinB_succ hx hi0]
          simp
        have g0 : ¬ (9223372036854775807 < s.size + 1) := by omega
        have g1 : ¬ (9223372036854775807 < s.size + 1 + x.a.size) := by omega
        have g2 : ¬ (9223372036854775807 < s.size + 1 + x.a.size + 1) := by omega
        have g3 : ¬ (9223372036854775807 < s.size + 1 + x.a.size + 1 + (qL x.b.data.toList).length) := by omega
        have H := hide e1
        generalize qL x.b.data.toList = qq at *
        clear e1 hs hss hjl hx hlw hi0 hql
        go_wp2
        refine wp_region_ext_lit (by kernel_rfl) (by kernel_rfl) ?_
        (repeat (first | ((with_reducible refine wpQuiet_step (fun K hK => ?_)); go_simp; first | ((with_reducible refine hK _ ?_); clear hK K) | (apply Exists.intro; (with_reducible refine ⟨fun _ => ?_, hK _ ?_⟩); (go_at_call 27; exact Calls.ext_of (hQ _)); clear hK K)) | ((with_reducible refine quiet_skipN ?_ (fun K hK => ?_)); (rfl); go_simp; (with_reducible refine hK _ ?_); clear hK K)))
        (with_reducible refine wpQuiet_nil ?_); intro _ hw'; obtain ⟨X, hw''⟩ := hw'; subst hw''
        go_wp2
        go_roundw
        case rel => exact ⟨i + 1, _, by omega, by go_num, rfl, H.out, hbel.trans ((World.below_ext _ X).mono hszw)⟩
        case measure => simp [intOf]; omega
    · obtain rfl : i = l.length := by omega
      rw [List.take_length] at hs hss
      have e1 : s ++ (⟨#[125]⟩ : ByteArray) = textB l := by rw [hs, txt_end]
      have g1 : ¬ (9223372036854775807 < s.size + 1) := by omega
      have H := hide e1
      clear e1 hs hss hjl h
      go_wp2
      go_ret
      exact ⟨by rw [← H.out]; rfl, hbel⟩
end Go.Proofs.Ytmfbidhnafpkdaa
