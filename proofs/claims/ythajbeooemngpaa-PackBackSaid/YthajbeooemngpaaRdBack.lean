import Derived.Test.YthajbeooemngpaaRd6
import Derived.Test.YthajbeooemngpaaItem2
import Derived.Test.YthajbeooemngpaaOrder2
/-! What was laid is taken off as it was: plain. -/
namespace Go.Proofs.Ythajbeooemngpaa
open Go.RowKit
set_option linter.unusedVariables false
set_option linter.unusedSimpArgs false
theorem be_bytes (k n : Nat) : ∀ x ∈ be k n, x < 256 := be_lt k n
theorem stampBytes_bytes (a b c : Int) : ∀ x ∈ stampBytes a b c, x < 256 := fun x hx => by
  unfold stampBytes at hx
  simp only [List.mem_append] at hx
  rcases hx with h | h | h <;> exact be_bytes _ _ x h
theorem get_stamp (a b c : Int) (hb : U32 b) (hc : U32 c) (r : rightB a = true) : getE (stampBytes a b c) = 0 ∧ getW (stampBytes a b c) = a ∧ getT (stampBytes a b c) = b ∧ getM (stampBytes a b c) = c := by
  simp [rightB] at r
  unfold U32 at hb hc
  have h8 : (stampBytes a b c).take 8 = be 8 (u64 a) := by
    unfold stampBytes; rw [List.take_append_of_le_length (by rw [be_length]; omega), List.take_of_length_le (by rw [be_length]; omega)]
  have hd : (stampBytes a b c).drop 8 = be 4 b.toNat ++ be 4 c.toNat := by
    unfold stampBytes; rw [List.drop_left' (be_length _ _)]
  have hd2 : (stampBytes a b c).drop 12 = be 4 c.toNat := by
    have : (stampBytes a b c).drop 12 = ((stampBytes a b c).drop 8).drop 4 := by rw [List.drop_drop]
    rw [this, hd, List.drop_left' (be_length _ _)]
  have hu : u64 a = a.toNat := by unfold u64; omega
  have e : getE (stampBytes a b c) = 0 := by
    unfold getE; rw [h8, num_be, stampBytes_length, hu]; rw [if_pos rfl, if_pos (by omega)]
  refine ⟨e, ?_, ?_, ?_⟩
  · unfold getW; rw [if_pos e, h8, num_be, hu]; omega
  · unfold getT; rw [if_pos e, hd, take4 _ _ (be_length _ _), num_be]; omega
  · unfold getM; rw [if_pos e, hd2, num_be]; omega

theorem num_numB {n : Nat} : num (be (longN n) n) = n := by rw [num_be, Nat.mod_eq_of_lt (lt_longN n)]
theorem longN_one {n : Nat} (h : 0 < n) : 1 ≤ longN n := by rw [longN_pos h]; omega
theorem numP_numB {n : Nat} (h : n < 18446744073709551616) (rest : List Nat) : numP ⟨numB n ++ rest, 0⟩ = (n, ⟨rest, 0⟩) := by
  unfold numB
  by_cases h1 : n < 248
  · rw [if_pos h1]
    exact numP_low rest h1
  · rw [if_neg h1]
    have h2 := longN_le 8 n (by omega)
    have h3 := longN_one (n := n) (by omega)
    have hk : 247 + longN n - 247 = longN n := by omega
    have hl := be_length (longN n) n
    have hn := @num_numB n
    rw [List.cons_append, numP_long (by omega) (by rw [hk, List.length_append]; omega), hk, List.take_left' hl, List.drop_left' hl, hn, if_neg (fun h => by rcases h with h | h <;> omega)]
theorem flagP_flagB (f : Bool) (rest : List Nat) : flagP ⟨flagB f ++ rest, 0⟩ = (f, ⟨rest, 0⟩) := by
  unfold flagP flagB
  cases f
  · rw [show ([if false = true then 1 else 0] ++ rest : List Nat) = 0 :: rest from rfl, numP_low rest (by omega)]; rfl
  · rw [show ([if true = true then 1 else 0] ++ rest : List Nat) = 1 :: rest from rfl, numP_low rest (by omega)]; rfl
theorem textP_textB (s : ByteArray) (h : s.size < 9223372036854775808) (rest : List Nat) : textP (s.size : Int) ⟨textB s ++ rest, 0⟩ = (numsOf s, ⟨rest, 0⟩) := by
  have hl := numsOf_length s
  have hc : countP (s.size : Int) ⟨textB s ++ rest, 0⟩ = (s.size, ⟨numsOf s ++ rest, 0⟩) := by
    unfold countP textB
    rw [List.append_assoc, numP_numB (by omega), Int.toNat_natCast, if_neg (fun h => by rcases h with h | h <;> simp only at h <;> omega)]
  unfold textP
  rw [hc]
  simp only
  rw [takeP_ok (by rw [List.length_append]; omega), List.take_left' hl, List.drop_left' hl]
theorem stampP_stampB (a b c : Int) (hb : U32 b) (hc : U32 c) (r : rightB a = true) (rest : List Nat) : stampP ⟨stampBytes a b c ++ rest, 0⟩ = ((a, b, c), ⟨rest, 0⟩) := by
  have hl := stampBytes_length a b c
  obtain ⟨e1, e2, e3, e4⟩ := get_stamp a b c hb hc r
  unfold stampP
  rw [takeP_ok (by rw [List.length_append]; omega), List.take_left' hl, List.drop_left' hl]
  simp only
  rw [if_neg (fun h => by rw [h] at hl; simp at hl), e1, e2, e3, e4, if_pos rfl]
theorem itemsB_drop {l : List It} {j : Nat} {x : It} (h : l[j]? = some x) : itemsB (l.drop j) = itemB x ++ itemsB (l.drop (j + 1)) := by
  obtain ⟨hj, rfl⟩ := List.getElem?_eq_some_iff.1 h
  rw [List.drop_eq_getElem_cons hj]
  rfl
theorem itemB_bytes {x : It} (hx : x.ok) (hs : x.text.size < 18446744073709551616) : ∀ y ∈ itemB x, y < 256 := by
  obtain ⟨h1, h2, h3, h4, h5, h6, h7⟩ := hx
  unfold U64 at h2
  unfold I64 at h3
  intro y hy
  unfold itemB at hy
  split at hy
  · exact numB_lt _ (by omega) y hy
  · split at hy
    · exact numB_lt _ (zig_lt _ h3) y hy
    · split at hy
      · unfold flagB at hy
        simp only [List.mem_singleton] at hy
        split at hy <;> omega
      · split at hy
        · unfold textB at hy
          rcases List.mem_append.1 hy with h | h
          · exact numB_lt _ hs y h
          · exact numsOf_lt _ y h
        · split at hy
          · exact stampBytes_bytes _ _ _ y hy
          · cases hy
theorem itemsB_bytes {l : List It} (hok : ∀ x ∈ l, x.ok) (hs : ∀ x ∈ l, x.text.size < 18446744073709551616) : ∀ y ∈ itemsB l, y < 256 := fun y hy => by
  obtain ⟨x, hx, h⟩ := List.mem_flatMap.1 hy
  exact itemB_bytes (hok x hx) (hs x hx) y h
theorem itemsB_text {l : List It} {x : It} (hx : x ∈ l) (h3 : x.kind = 3) : x.text.size ≤ (itemsB l).length := by
  obtain ⟨i, hi, rfl⟩ := List.getElem_of_mem hx
  have h1 := itemsB_take (List.getElem?_eq_getElem hi)
  have h2 := itemsB_le l (i + 1)
  rw [h1, List.length_append] at h2
  have h4 : itemB l[i] = textB l[i].text := by unfold itemB; simp [h3]
  rw [h4] at h2
  unfold textB at h2
  rw [List.length_append, numsOf_length] at h2
  omega
end Go.Proofs.Ythajbeooemngpaa
