import Derived.Test.YthajbeooemngpaaPut
import Derived.Test.YthajbeooemngpaaNum
/-! Stamps read off bytes (beside a writer): what Get does. -/
namespace Go.Proofs.Ythajbeooemngpaa
open Go.RowKit
set_option linter.unusedVariables false
set_option linter.unusedSimpArgs false
def rightB (a : Int) : Bool := decide (0 ≤ a) && decide (a ≤ 4611686018427387904)

set_option maxHeartbeats 400000 in
theorem right_any (a b c : Int) (w : World) :
    Calls Try.prog 94 #[.agg #[.int .i64 a, .int .u32 b, .int .u32 c]] w fun e w' => e = .returned (.bool (rightB a)) ∧ Below w.heap.size w w' := by
  go_enter Try.func94, Try.ntmps94
  go_wp2
  all_goals
    go_ret
    exact ⟨by congr 2; simp [rightB] at *; omega, (Below.refl _ _).alloc (Nat.le_refl _) _⟩

set_option maxHeartbeats 400000 in
theorem rright_any (a b c : Int) (w : World) :
    Calls Try.prog 57 #[.agg #[.int .i64 a, .int .u32 b, .int .u32 c]] w fun e w' => e = .returned (.bool (rightB a)) ∧ Below w.heap.size w w' := by
  go_enter Try.func57, Try.ntmps57
  go_wp2
  all_goals
    go_ret
    exact ⟨by congr 2; simp [rightB] at *; omega, (Below.refl _ _).alloc (Nat.le_refl _) _⟩

theorem rightB_true {a : Int} (h : rightB a = true) : 0 ≤ a ∧ a ≤ 4611686018427387904 := by simpa [rightB] using h
theorem rightB_mk {a : Int} (h : 0 ≤ a ∧ a ≤ 4611686018427387904) : rightB a = true := by simpa [rightB] using h
set_option maxHeartbeats 400000 in
theorem from_any (a b c : Int) (w : World) :
    Calls Try.prog 58 #[.agg #[.int .i64 a, .int .u32 b, .int .u32 c]] w fun e w' => e = .returned (.agg #[.int .i64 a, .int .u32 b, .int .u32 c]) ∧ Below w.heap.size w w' := by
  go_enter Try.func58, Try.ntmps58
  go_wp2
  refine bodyPost_ret (v := _) (by simp [results, Try.results58, go_sem] <;> rfl) rfl ⟨?_, by (repeat' (first | with_reducible exact Below.refl _ _ | with_reducible refine Below.ext ?_ ?_ _ | with_reducible refine Below.alloc ?_ ?_ _ | with_reducible refine Below.setCell ?_ ?_ _ | with_reducible refine Below.drew ?_ | with_reducible assumption | (simp [World.size_ext]; done) | (simp [World.size_ext]; omega)))⟩
  rfl


theorem seg_same (l : List Nat) (k i : Nat) (h : k ≠ i / 4) : seg l k (i + 1) = seg l k i := by
  unfold seg
  rcases Nat.lt_or_gt_of_ne h with h | h
  · by_cases hl : i < l.length
    · have e : l.take (i + 1) = l.take i ++ l[i]?.toList := List.take_add_one
      rw [e, List.drop_append_of_le_length (by rw [List.length_take]; omega), List.take_append_of_le_length (by rw [List.length_drop, List.length_take]; omega)]
    · rw [List.take_of_length_le (l := l) (i := i + 1) (by omega), List.take_of_length_le (l := l) (i := i) (by omega)]
  · rw [List.drop_of_length_le (by rw [List.length_take]; omega), List.drop_of_length_le (by rw [List.length_take]; omega)]
theorem seg_next (l : List Nat) (i x : Nat) (h : l[i]? = some x) : seg l (i / 4) (i + 1) = seg l (i / 4) i ++ [x] := by
  have hl : i < l.length := (List.getElem?_eq_some_iff.1 h).1
  have e : l.take (i + 1) = l.take i ++ [x] := by rw [List.take_add_one, h]; rfl
  unfold seg
  have h1 : (l.take i).length = i := by rw [List.length_take]; omega
  rw [e, List.drop_append_of_le_length (by omega), List.take_of_length_le (l := (l.take i).drop (4 * (i / 4)) ++ [x]) (by rw [List.length_append, List.length_drop, h1]; simp; omega), List.take_of_length_le (l := (l.take i).drop (4 * (i / 4))) (by rw [List.length_drop]; omega)]
theorem seg_lt (l : List Nat) (i : Nat) (hb : ∀ x ∈ l, x < 256) : num (seg l (i / 4) i) < 16777216 := by
  have h1 : ∀ x ∈ seg l (i / 4) i, x < 256 := fun x hx => hb x (List.mem_of_mem_take (List.mem_of_mem_drop (List.mem_of_mem_take hx)))
  have h2 := num_lt _ h1
  have h3 : (seg l (i / 4) i).length ≤ 3 := by unfold seg; rw [List.length_take, List.length_drop, List.length_take]; omega
  have h4 := Nat.pow_le_pow_right (show 0 < 256 by omega) h3
  omega
def arr (l : List Nat) (i : Nat) : Array Value := #[.int .u32 (num (seg l 0 i) : Nat), .int .u32 (num (seg l 1 i) : Nat), .int .u32 (num (seg l 2 i) : Nat), .int .u32 (num (seg l 3 i) : Nat)]
theorem arr_get (l : List Nat) (i k : Nat) (h : k < 4) : (arr l i)[k]? = some (.int .u32 (num (seg l k i) : Nat)) := by
  obtain rfl | rfl | rfl | rfl : k = 0 ∨ k = 1 ∨ k = 2 ∨ k = 3 := by omega
  all_goals rfl
theorem arr_set (l : List Nat) (i x : Nat) (h : l[i]? = some x) (hi : i < 16) : (arr l i).setIfInBounds (i / 4) (.int .u32 ((num (seg l (i / 4) i) * 256 + x : Nat) : Int)) = arr l (i + 1) := by
  have hn := seg_next l i x h
  have hs : ∀ k, k ≠ i / 4 → num (seg l k (i + 1)) = num (seg l k i) := fun k hk => by rw [seg_same l k i hk]
  have hx : num (seg l (i / 4) (i + 1)) = num (seg l (i / 4) i) * 256 + x := by rw [hn, num_snoc]
  unfold arr
  obtain hq | hq | hq | hq : i / 4 = 0 ∨ i / 4 = 1 ∨ i / 4 = 2 ∨ i / 4 = 3 := by omega
  all_goals
    rw [hq] at hx hs ⊢
    simp [← hx, hs]

theorem arr_end (l : List Nat) (hl : l.length = 16) (hb : ∀ x ∈ l, x < 256) : ∃ n0 n1 n2 n3 : Nat, n0 < 4294967296 ∧ n1 < 4294967296 ∧ n2 < 4294967296 ∧ n3 < 4294967296 ∧
    num (l.take 8) = n0 * 4294967296 + n1 ∧ num ((l.drop 8).take 4) = n2 ∧ num (l.drop 12) = n3 ∧ arr l 16 = #[.int .u32 (n0 : Int), .int .u32 (n1 : Int), .int .u32 (n2 : Int), .int .u32 (n3 : Int)] := by
  have hs : ∀ k, seg l k 16 = (l.drop (4 * k)).take 4 := fun k => by unfold seg; rw [List.take_of_length_le (l := l) (by omega)]
  have hlt : ∀ k, num (seg l k 16) < 4294967296 := fun k => by
    have h1 := num_lt (seg l k 16) (fun x hx => by rw [hs] at hx; exact hb x (List.mem_of_mem_drop (List.mem_of_mem_take hx)))
    have h2 : (seg l k 16).length ≤ 4 := by rw [hs, List.length_take]; omega
    have h4 := Nat.pow_le_pow_right (show 0 < 256 by omega) h2
    omega
  refine ⟨_, _, _, _, hlt 0, hlt 1, hlt 2, hlt 3, ?_, by rw [hs], ?_, rfl⟩
  · have e : l.take 8 = l.take 4 ++ (l.drop 4).take 4 := by rw [← List.take_add]
    rw [e, num_append, List.length_take, List.length_drop, hs, hs, hl]
    rfl
  · rw [hs, List.take_of_length_le (by rw [List.length_drop]; omega)]
theorem or_u32 (m x : Nat) (hm : m < 16777216) (hx : x < 256) : bits .or .u32 ((m : Int) * 256) (x : Int) = ((m * 256 + x : Nat) : Int) := by
  have h1 : m <<< 8 + x = m <<< 8 ||| x := Nat.shiftLeft_add_eq_or_of_lt (by omega) _
  rw [Nat.shiftLeft_eq] at h1
  show IntKind.u32.wrap ((BitVec.ofInt 32 ((m : Int) * 256) ||| BitVec.ofInt 32 (x : Int)).toNat : Int) = _
  rw [show ((m : Int) * 256) = ((m * 256 : Nat) : Int) by omega, BitVec.ofInt_natCast, BitVec.ofInt_natCast, BitVec.toNat_or, BitVec.toNat_ofNat, BitVec.toNat_ofNat, Nat.mod_eq_of_lt (by omega), Nat.mod_eq_of_lt (by omega), ← h1]
  show ((m * 256 + x : Nat) : Int) % 4294967296 = _
  omega
theorem or_u64 (m x : Nat) (hm : m < 4294967296) (hx : x < 4294967296) : bits .or .u64 ((m : Int) * 4294967296) (x : Int) = ((m * 4294967296 + x : Nat) : Int) := by
  have h1 : m <<< 32 + x = m <<< 32 ||| x := Nat.shiftLeft_add_eq_or_of_lt (by omega) _
  rw [Nat.shiftLeft_eq] at h1
  show IntKind.u64.wrap ((BitVec.ofInt 64 ((m : Int) * 4294967296) ||| BitVec.ofInt 64 (x : Int)).toNat : Int) = _
  rw [show ((m : Int) * 4294967296) = ((m * 4294967296 : Nat) : Int) by omega, BitVec.ofInt_natCast, BitVec.ofInt_natCast, BitVec.toNat_or, BitVec.toNat_ofNat, BitVec.toNat_ofNat, Nat.mod_eq_of_lt (by omega), Nat.mod_eq_of_lt (by omega), show m * 4294967296 = m * 2 ^ 32 by rfl, ← h1]
  show ((m * 4294967296 + x : Nat) : Int) % 18446744073709551616 = _
  omega

def getE (l : List Nat) : Int := if l.length = 16 then (if num (l.take 8) ≤ 4611686018427387904 then 0 else 10) else 9
def getW (l : List Nat) : Int := if getE l = 0 then (num (l.take 8) : Int) else 0
def getT (l : List Nat) : Int := if getE l = 0 then (num ((l.drop 8).take 4) : Int) else 0
def getM (l : List Nat) : Int := if getE l = 0 then (num (l.drop 12) : Int) else 0

set_option maxHeartbeats 400000 in
theorem get_no (A : Option Addr) (n cap : Nat) (l : List Nat) (w : World) (hr : Reads w w.heap.size 1 A n (u8s l)) (hn : n ≠ 16) :
    Calls Try.prog 84 #[.slice A n cap] w fun e w' => e = .returned (.tuple #[.agg #[.int .i64 (getW l), .int .u32 (getT l), .int .u32 (getM l)], .int .i64 (getE l)]) ∧ Below w.heap.size w w' := by
  have hl : l.length = n := by have := hr.1; rw [u8s_length] at this; omega
  have e : getW l = 0 ∧ getT l = 0 ∧ getM l = 0 ∧ getE l = 9 := by simp [getW, getT, getM, getE, hl, hn]
  obtain ⟨e1, e2, e3, e4⟩ := e
  rw [e1, e2, e3, e4]
  clear e1 e2 e3 e4 hl
  have hn' : ((n : Int) != 16) = true := by rw [bne_iff_ne]; omega
  go_enter Try.func84, Try.ntmps84
  go_wp2
  refine bodyPost_ret (v := _) (by simp [results, Try.results84, go_sem] <;> rfl) rfl ⟨?_, by (repeat' (first | with_reducible exact Below.refl _ _ | with_reducible refine Below.ext ?_ ?_ _ | with_reducible refine Below.alloc ?_ ?_ _ | with_reducible refine Below.setCell ?_ ?_ _ | with_reducible refine Below.drew ?_ | with_reducible assumption | (simp [World.size_ext]; done) | (simp [World.size_ext]; omega)))⟩
  rfl
set_option maxHeartbeats 400000 in
theorem rget_no (A : Option Addr) (n cap : Nat) (l : List Nat) (w : World) (hr : Reads w w.heap.size 1 A n (u8s l)) (hn : n ≠ 16) :
    Calls Try.prog 95 #[.slice A n cap] w fun e w' => e = .returned (.tuple #[.agg #[.int .i64 (getW l), .int .u32 (getT l), .int .u32 (getM l)], .int .i64 (getE l)]) ∧ Below w.heap.size w w' := by
  have hl : l.length = n := by have := hr.1; rw [u8s_length] at this; omega
  have e : getW l = 0 ∧ getT l = 0 ∧ getM l = 0 ∧ getE l = 9 := by simp [getW, getT, getM, getE, hl, hn]
  obtain ⟨e1, e2, e3, e4⟩ := e
  rw [e1, e2, e3, e4]
  clear e1 e2 e3 e4 hl
  have hn' : ((n : Int) != 16) = true := by rw [bne_iff_ne]; omega
  go_enter Try.func95, Try.ntmps95
  go_wp2
  refine bodyPost_ret (v := _) (by simp [results, Try.results95, go_sem] <;> rfl) rfl ⟨?_, by (repeat' (first | with_reducible exact Below.refl _ _ | with_reducible refine Below.ext ?_ ?_ _ | with_reducible refine Below.alloc ?_ ?_ _ | with_reducible refine Below.setCell ?_ ?_ _ | with_reducible refine Below.drew ?_ | with_reducible assumption | (simp [World.size_ext]; done) | (simp [World.size_ext]; omega)))⟩
  rfl

set_option maxHeartbeats 400000 in
theorem get_yes (A : Option Addr) (cap : Nat) (l : List Nat) (w : World) (hr : Reads w w.heap.size 1 A 16 (u8s l)) (hby : ∀ x ∈ l, x < 256) :
    Calls Try.prog 84 #[.slice A 16 cap] w fun e w' => e = .returned (.tuple #[.agg #[.int .i64 (getW l), .int .u32 (getT l), .int .u32 (getM l)], .int .i64 (getE l)]) ∧ Below w.heap.size w w' := by
  obtain ⟨b, o, rfl, hb, hc⟩ := hr.plain (by omega) (by omega)
  go_enter Try.func84, Try.ntmps84
  go_wp2
  go_loopw [14] (fun s wr => ∃ i : Nat, i ≤ 16 ∧ s = .int .i64 (i : Int) ∧ Blk wr (w.heap.size + 1) 145 (arr l i) ∧ Below (w.heap.size + 1) (w.alloc (.cells #[.int .i64 0, .int .u32 0, .int .u32 0] 93)) wr) (fun s _ => (16 - intOf s).toNat)
  case atStart => exact ⟨0, by omega, rfl, by have := Blk.new (w.alloc (.cells #[.int .i64 0, .int .u32 0, .int .u32 0] 93)) 145 (arr l 0); simpa [arr, seg, num] using this, (Below.refl _ _).alloc (by simp) _⟩
  case round =>
    obtain ⟨i, hi, rfl, hblk, hbel⟩ := hrel
    have hl : l.length = 16 := by have := hr.1; rw [u8s_length] at this; omega
    have hfs := hblk.frozen
    by_cases hlt : i < 16
    · have hx : l[i]? = some l[i] := List.getElem?_eq_getElem (by omega)
      have hxb := hby _ (List.getElem_mem (l := l) (n := i) (by omega))
      generalize l[i] = x at hx hxb
      have hv : wr.cell? ⟨b, o + i, none⟩ = some (.int .u8 (x : Int)) := by
        rw [hbel.cell (p := ⟨b, o + i, none⟩) (show b < w.heap.size + 1 by omega), World.cell?_alloc_lt _ _ _ (show b < w.heap.size from hb)]
        exact hc i _ (by simp [u8s, hx])
      have hm := seg_lt l i hby
      have hn : wr.cell? ⟨w.heap.size + 1, i / 4, none⟩ = some (.int .u32 ((num (seg l (i / 4) i) : Nat) : Int)) := by rw [hblk.cell, arr_get _ _ _ (by omega)]
      have HS := hide (hblk.set_ (i / 4) (.int .u32 ((num (seg l (i / 4) i) * 256 + x : Nat) : Int)))
      rw [arr_set l i x hx hlt] at HS
      clear hx
      generalize num (seg l (i / 4) i) = m at hm hn HS
      have HO := hide (or_u32 m x hm hxb)
      go_wp2
      go_roundw
      case rel => exact ⟨i + 1, by omega, by go_num, by rw [HO.out]; exact HS.out, hbel.setCell (by simp) _⟩
      case measure => simp [intOf]; omega
    · obtain rfl : i = 16 := by omega
      obtain ⟨n0, n1, n2, n3, b0, b1, b2, b3, e0, e2, e3, ea⟩ := arr_end l hl hby
      have hcs := hblk.cell
      rw [ea] at hcs
      have hor := or_u64 n0 n1 b0 b1
      have hB0 : Blk wr w.heap.size 93 #[.int .i64 0, .int .u32 0, .int .u32 0] := (Blk.new w _ _).below hbel (by omega)
      have hr0 : ∀ o, wr.cell? ⟨w.heap.size, o, none⟩ = #[.int .i64 0, .int .u32 0, .int .u32 0][o]? := fun o => by rw [hbel.cell (p := ⟨w.heap.size, o, none⟩) (by simp)]; simp
      have hf0 : ∀ o, wr.frozen? ⟨w.heap.size, o, none⟩ = false := fun o => by rw [hbel.frozen (p := ⟨w.heap.size, o, none⟩) (by simp)]; simp
      have hsz := hblk.lt
      have hsz' : w.heap.size < wr.heap.size := by omega
      have hsz'' : w.heap.size ≤ wr.heap.size := by omega
      have H0 := hide e0
      have H2 := hide e2
      have H3 := hide e3
      have HL := hide hl
      clear ea e0 e2 e3 hl hblk hfs hlt hi hc hr hby
      have hW : n0 * 4294967296 + n1 < 18446744073709551616 := by omega
      generalize n0 * 4294967296 + n1 = W at hor H0 hW
      by_cases hle : W ≤ 4611686018427387904
      · have hrt : rightB (W : Int) = true := rightB_mk (by omega)
        have E : Hid (getE l = 0 ∧ getW l = W ∧ getT l = n2 ∧ getM l = n3) := by
          show _ ∧ _ ∧ _ ∧ _
          have : getE l = 0 := by simp [getE, HL.out, H0.out, hle]
          exact ⟨this, by simp [getW, this, H0.out], by simp [getT, this, H2.out], by simp [getM, this, H3.out]⟩
        clear hW
        go_wp2_with (go_at_call 94; refine (right_any _ _ _ _).mono ?_; rintro e w' ⟨rfl, hb⟩; obtain ⟨X, rfl⟩ := World.ext_of_below hb; clear hb)
        refine bodyPost_cell_tmp Try.results84 rfl (((((hB0.alloc _).ext _).set_ 0 _).set_ 1 _).set_ 2 _) Try.underlying93 rfl (by kernel_rfl) rfl ⟨?_, ?_⟩
        · rw [E.out.1, E.out.2.1, E.out.2.2.1, E.out.2.2.2]; rfl
        · have hbw : Below w.heap.size w wr := (Below.alloc (Below.refl _ _) (Nat.le_refl _) _).trans (hbel.mono (by omega)); (repeat' (first | with_reducible exact Below.refl _ _ | with_reducible refine Below.ext ?_ ?_ _ | with_reducible refine Below.alloc ?_ ?_ _ | with_reducible refine Below.setCell ?_ ?_ _ | with_reducible refine Below.drew ?_ | with_reducible assumption | (simp [World.size_ext]; done) | (simp [World.size_ext]; omega)))
      · have hrf : rightB (wrap64 (W : Int)) = false := by
          simp only [rightB, wrap64, IntKind.wrap_i64, Bool.and_eq_false_iff, decide_eq_false_iff_not]
          omega
        have E : Hid (getE l = 10 ∧ getW l = 0 ∧ getT l = 0 ∧ getM l = 0) := by
          show _ ∧ _ ∧ _ ∧ _
          have : getE l = 10 := by simp [getE, HL.out, H0.out, hle]
          exact ⟨this, by simp [getW, this], by simp [getT, this], by simp [getM, this]⟩
        clear hW hle
        go_wp2_with (go_at_call 94; refine (right_any _ _ _ _).mono ?_; rintro e w' ⟨rfl, hb⟩; obtain ⟨X, rfl⟩ := World.ext_of_below hb; clear hb)
        refine bodyPost_cell_tmp Try.results84 rfl (((((hB0.alloc _).ext _).set_ 0 _).set_ 1 _).set_ 2 _) Try.underlying93 rfl (by kernel_rfl) rfl ⟨?_, ?_⟩
        · rw [E.out.1, E.out.2.1, E.out.2.2.1, E.out.2.2.2]; rfl
        · have hbw : Below w.heap.size w wr := (Below.alloc (Below.refl _ _) (Nat.le_refl _) _).trans (hbel.mono (by omega)); (repeat' (first | with_reducible exact Below.refl _ _ | with_reducible refine Below.ext ?_ ?_ _ | with_reducible refine Below.alloc ?_ ?_ _ | with_reducible refine Below.setCell ?_ ?_ _ | with_reducible refine Below.drew ?_ | with_reducible assumption | (simp [World.size_ext]; done) | (simp [World.size_ext]; omega)))
set_option maxHeartbeats 400000 in
theorem rget_yes (A : Option Addr) (cap : Nat) (l : List Nat) (w : World) (hr : Reads w w.heap.size 1 A 16 (u8s l)) (hby : ∀ x ∈ l, x < 256) :
    Calls Try.prog 95 #[.slice A 16 cap] w fun e w' => e = .returned (.tuple #[.agg #[.int .i64 (getW l), .int .u32 (getT l), .int .u32 (getM l)], .int .i64 (getE l)]) ∧ Below w.heap.size w w' := by
  obtain ⟨b, o, rfl, hb, hc⟩ := hr.plain (by omega) (by omega)
  go_enter Try.func95, Try.ntmps95
  go_wp2
  have hl : l.length = 16 := by have := hr.1; rw [u8s_length] at this; omega
  go_loopw [4, 7] (fun x s wr => ∃ i m : Nat, i ≤ 8 ∧ s = .int .i64 (i : Int) ∧ x = .int .u64 (m : Int) ∧ Hid (m = num (l.take i)) ∧ wr = w.alloc (.cells #[.int .i64 0, .int .u32 0, .int .u32 0] 49)) (fun _ s _ => (8 - intOf s).toNat)
  case atStart => exact ⟨0, 0, by omega, rfl, rfl, rfl, rfl⟩
  case round =>
    obtain ⟨i, m, hi, rfl, rfl, hm, rfl⟩ := hrel
    by_cases hlt : i < 8
    · have hx : l[i]? = some l[i] := List.getElem?_eq_getElem (by omega)
      have hxb := hby _ (List.getElem_mem (l := l) (n := i) (by omega))
      have hts : num (l.take (i + 1)) = num (l.take i) * 256 + l[i] := by rw [List.take_add_one, hx, ← num_snoc]; rfl
      generalize l[i] = x at hx hxb hts
      have hv : (w.alloc (.cells #[.int .i64 0, .int .u32 0, .int .u32 0] 49)).cell? ⟨b, o + i, none⟩ = some (.int .u8 (x : Int)) := by
        rw [World.cell?_alloc_lt _ _ _ (show b < w.heap.size from hb)]
        exact hc i _ (by simp [u8s, hx])
      have hmb : m < 72057594037927936 := by
        have h1 := num_lt (l.take i) (fun x hx => hby x (List.mem_of_mem_take hx))
        have h2 : (l.take i).length ≤ 7 := by rw [List.length_take]; omega
        have h4 := Nat.pow_le_pow_right (show 0 < 256 by omega) h2
        rw [hm.out]
        omega
      have HT := hide hts
      clear hts hx hc hby hr hl
      go_wp2
      go_roundw
      case rel => exact ⟨i + 1, m * 256 + x, by omega, by go_num, by go_num, by show _ = _; rw [HT.out, hm.out], trivial⟩
      case measure => simp [intOf]; omega
    · obtain rfl : i = 8 := by omega
      clear hlt hi
      have hmb : m < 18446744073709551616 := by
        have h1 := num_lt (l.take 8) (fun x hx => hby x (List.mem_of_mem_take hx))
        have h2 : (l.take 8).length ≤ 8 := by rw [List.length_take]; omega
        have h4 := Nat.pow_le_pow_right (show 0 < 256 by omega) h2
        rw [hm.out]
        omega
      have HB := hide hmb
      clear hmb
      go_wp2
      go_loopw [5, 6, 8] (fun x y s wr => ∃ i p q : Nat, i ≤ 4 ∧ s = .int .i64 (i : Int) ∧ x = .int .u32 (p : Int) ∧ y = .int .u32 (q : Int) ∧ Hid (p = num ((l.drop 8).take i)) ∧ Hid (q = num ((l.drop 12).take i)) ∧ wr = w.alloc (.cells #[.int .i64 0, .int .u32 0, .int .u32 0] 49)) (fun _ _ s _ => (4 - intOf s).toNat)
      case atStart => exact ⟨0, 0, 0, by omega, rfl, rfl, rfl, rfl, rfl, rfl⟩
      case round =>
        obtain ⟨i, p, q, hi, rfl, rfl, rfl, hp, hq, rfl⟩ := hrel
        by_cases hlt : i < 4
        · have step : ∀ (k : Nat), k ≤ 12 → ∃ x : Nat, x < 256 ∧ (w.alloc (.cells #[.int .i64 0, .int .u32 0, .int .u32 0] 49)).cell? ⟨b, o + (k + i), none⟩ = some (.int .u8 (x : Int)) ∧
              num ((l.drop k).take (i + 1)) = num ((l.drop k).take i) * 256 + x ∧ num ((l.drop k).take i) < 16777216 := fun k hk => by
            have hx : l[k + i]? = some l[k + i] := List.getElem?_eq_getElem (by omega)
            refine ⟨l[k + i], hby _ (List.getElem_mem (l := l) (n := k + i) (by omega)), ?_, ?_, ?_⟩
            · rw [World.cell?_alloc_lt _ _ _ (show b < w.heap.size from hb)]
              exact hc (k + i) _ (by simp [u8s, hx])
            · rw [List.take_add_one, List.getElem?_drop, hx, ← num_snoc]; rfl
            · have h1 := num_lt ((l.drop k).take i) (fun x hx => hby x (List.mem_of_mem_drop (List.mem_of_mem_take hx)))
              have h2 : ((l.drop k).take i).length ≤ 3 := by rw [List.length_take]; omega
              have h4 := Nat.pow_le_pow_right (show 0 < 256 by omega) h2
              omega
          obtain ⟨x, hxb, hvx, hx, hpb⟩ := step 8 (by omega)
          obtain ⟨y, hyb, hvy, hy, hqb⟩ := step 12 (by omega)
          rw [← hp.out] at hx hpb
          rw [← hq.out] at hy hqb
          have HX := hide hx
          have HY := hide hy
          clear hx hy step hc hby hr hl
          go_wp2
          go_roundw
          case rel => exact ⟨i + 1, p * 256 + x, q * 256 + y, by omega, by go_num, by go_num, by go_num, HX.out.symm, HY.out.symm, trivial⟩
          case measure => simp [intOf]; omega
        · obtain rfl : i = 4 := by omega
          have hq' : Hid (q = num (l.drop 12)) := by
            show _ = _
            rw [hq.out, List.take_of_length_le (by rw [List.length_drop]; omega)]
          have HL := hide hl
          clear hlt hi hc hby hr hl hq
          by_cases hle : m ≤ 4611686018427387904
          · have E : Hid (getE l = 0 ∧ getW l = m ∧ getT l = p ∧ getM l = q) := by
              show _ ∧ _ ∧ _ ∧ _
              have : getE l = 0 := by simp [getE, HL.out, ← hm.out, hle]
              exact ⟨this, by simp [getW, this, ← hm.out], by simp [getT, this, ← hp.out], by simp [getM, this, ← hq'.out]⟩
            go_wp2
            refine bodyPost_ret (v := _) (by simp [results, Try.results95, go_sem] <;> rfl) rfl ⟨?_, by (repeat' (first | with_reducible exact Below.refl _ _ | with_reducible refine Below.ext ?_ ?_ _ | with_reducible refine Below.alloc ?_ ?_ _ | with_reducible refine Below.setCell ?_ ?_ _ | with_reducible refine Below.drew ?_ | with_reducible assumption | (simp [World.size_ext]; done) | (simp [World.size_ext]; omega)))⟩
            rw [E.out.1, E.out.2.1, E.out.2.2.1, E.out.2.2.2]
          · have E : Hid (getE l = 10 ∧ getW l = 0 ∧ getT l = 0 ∧ getM l = 0) := by
              show _ ∧ _ ∧ _ ∧ _
              have : getE l = 10 := by simp [getE, HL.out, ← hm.out, hle]
              exact ⟨this, by simp [getW, this], by simp [getT, this], by simp [getM, this]⟩
            go_wp2
            refine bodyPost_ret (v := _) (by simp [results, Try.results95, go_sem] <;> rfl) rfl ⟨?_, by (repeat' (first | with_reducible exact Below.refl _ _ | with_reducible refine Below.ext ?_ ?_ _ | with_reducible refine Below.alloc ?_ ?_ _ | with_reducible refine Below.setCell ?_ ?_ _ | with_reducible refine Below.drew ?_ | with_reducible assumption | (simp [World.size_ext]; done) | (simp [World.size_ext]; omega)))⟩
            rw [E.out.1, E.out.2.1, E.out.2.2.1, E.out.2.2.2]

theorem get_any (A : Option Addr) (n cap : Nat) (l : List Nat) (w : World) (hr : Reads w w.heap.size 1 A n (u8s l)) (hby : ∀ x ∈ l, x < 256) :
    Calls Try.prog 84 #[.slice A n cap] w fun e w' => e = .returned (.tuple #[.agg #[.int .i64 (getW l), .int .u32 (getT l), .int .u32 (getM l)], .int .i64 (getE l)]) ∧ Below w.heap.size w w' := by
  by_cases hn : n = 16
  · subst hn; exact get_yes A cap l w hr hby
  · exact get_no A n cap l w hr hn
theorem rget_any (A : Option Addr) (n cap : Nat) (l : List Nat) (w : World) (hr : Reads w w.heap.size 1 A n (u8s l)) (hby : ∀ x ∈ l, x < 256) :
    Calls Try.prog 95 #[.slice A n cap] w fun e w' => e = .returned (.tuple #[.agg #[.int .i64 (getW l), .int .u32 (getT l), .int .u32 (getM l)], .int .i64 (getE l)]) ∧ Below w.heap.size w w' := by
  by_cases hn : n = 16
  · subst hn; exact rget_yes A cap l w hr hby
  · exact rget_no A n cap l w hr hn
end Go.Proofs.Ythajbeooemngpaa
