import Derived.Test.YthajbeooemngpaaChecked
import Derived.Test.YthajbeooemngpaaOnly
import Derived.Lib.SliceRun
/-! Rows of ints; slices.Index, Contains, Clone at them. -/
namespace Go.Proofs.Ythajbeooemngpaa
open Go.RowKit
set_option linter.unusedVariables false
set_option linter.unusedSimpArgs false
def ints (l : List Int) : List Value := l.map (Value.int .i64)
theorem ints_length (l : List Int) : (ints l).length = l.length := by simp [ints]
theorem ints_get {l : List Int} {j : Nat} {x : Int} (h : l[j]? = some x) : (ints l)[j]? = some (.int .i64 x) := by simp [ints, h]
theorem ints_take (l : List Int) (k : Nat) : (ints l).take k = ints (l.take k) := by simp [ints, List.map_take]
theorem ints_append (l m : List Int) : ints (l ++ m) = ints l ++ ints m := by simp [ints]
theorem reads_len {w : World} {B : Nat} {A : Option Addr} {n : Nat} {l : List Int} (h : Reads w B 1 A n (ints l)) : l.length = n := by have := h.1; rw [ints_length] at this; omega
def hasB (l : List Int) (x : Int) : Bool := l.any (fun y => y == x)
theorem hasB_mem {l : List Int} {x : Int} : hasB l x = true ↔ x ∈ l := by simp [hasB]
theorem hasB_not {l : List Int} {x : Int} : hasB l x = false ↔ x ∉ l := by
  cases h : hasB l x with
  | true => simp [hasB_mem.1 h]
  | false => simp only [true_iff]; intro hm; rw [hasB_mem.2 hm] at h; cases h
theorem infoI64 : (Try.prog.info? 3).map (fun i => (i.zero, i.size, i.bytes)) = some (some (.int .i64 0), 1, 8) := by kernel_rfl
set_option maxHeartbeats 1000000 in
theorem index_any (A : Option Addr) (n c : Nat) (l : List Int) (x : Int) (w : World) (hr : Reads w w.heap.size 1 A n (ints l)) (hn : n ≤ 9223372036854775807) :
    Calls Try.prog 92 #[.slice A n c, .int .i64 x] w fun e w' => (∃ k : Int, e = .returned (.int .i64 k) ∧ decide (0 ≤ k) = hasB l x) ∧ w' = w := by
  have hl := reads_len hr
  go_enter Try.func92, Try.ntmps92
  go_wp2
  go_loopw [8] (fun s wr => ∃ j : Nat, j ≤ n ∧ s = .int .i64 (j : Int) ∧ (∀ (i : Nat) (y : Int), i < j → l[i]? = some y → y ≠ x) ∧ wr = w) (fun s _ => ((n : Int) - intOf s).toNat)
  case atStart => exact ⟨0, by omega, rfl, fun i y hi => by omega, rfl⟩
  case round =>
    obtain ⟨j, hj, rfl, hno, rfl⟩ := hrel
    by_cases hlt : j < n
    · obtain ⟨b, o, rfl, hbb, hc⟩ := hr.plain (by omega) (by omega)
      have hg : l[j]? = some l[j] := List.getElem?_eq_getElem (by omega)
      have m1 := hc _ _ (ints_get hg)
      have hlj : (j : Int) < n := by omega
      by_cases hx : l[j] = x
      · have hH : hasB l x = true := hasB_mem.2 (hx ▸ List.getElem_mem _)
        rw [hx] at m1
        have hH := hide hH
        clear hc hr hno hg
        go_wp2
        go_ret
        exact ⟨⟨_, rfl, by rw [hH.out]; simp⟩, rfl⟩
      · have hb : (x == l[j]) = false := by simp; exact fun h => hx h.symm
        have HN := hide (fun (i : Nat) (y : Int) (hi : i < j + 1) (h : l[i]? = some y) => show y ≠ x from by
          rcases Nat.lt_or_ge i j with h' | h'
          · exact hno i y h' h
          · obtain rfl : i = j := by omega
            rw [hg] at h; cases h; exact hx)
        clear hno hg hc
        generalize l[j] = y at *
        have hb' : (x = y) = False := eq_false (fun h => hx h.symm)
        go_wp2
        go_roundw
        case rel => exact ⟨j + 1, by omega, by go_num, HN.out, by trivial⟩
        case measure => simp [intOf]; omega
    · obtain rfl : j = n := by omega
      have hH : hasB l x = false := hasB_not.2 fun hm => by
        obtain ⟨i, hi, h⟩ := List.getElem_of_mem hm
        exact hno i _ (by omega) (List.getElem?_eq_getElem hi) h
      have hH := hide hH
      clear hno
      go_wp2
      go_ret
      exact ⟨⟨-1, rfl, by rw [hH.out]; simp⟩, rfl⟩
theorem has_any (A : Option Addr) (n c : Nat) (l : List Int) (x : Int) (w : World) (hr : Reads w w.heap.size 1 A n (ints l)) (hn : n ≤ 9223372036854775807) :
    Calls Try.prog 75 #[.slice A n c, .int .i64 x] w fun e w' => e = .returned (.bool (hasB l x)) ∧ w' = w := by
  go_enter Try.func75, Try.ntmps75
  go_wp2_with (go_at_call 92; (with_reducible refine (index_any _ _ _ _ _ _ hr hn).mono ?_); rintro e w1 ⟨⟨k, rfl, hk⟩, rfl⟩)
  go_ret
  exact ⟨rfl, rfl⟩
theorem clone_any (A : Option Addr) (n c : Nat) (l : List Int) (w : World) (hr : Reads w w.heap.size 1 A n (ints l)) (hn : n * 8 ≤ 140737488355328) :
    Calls Try.prog 76 #[.slice A n c] w fun e w' => (∃ v, e = .returned v ∧ w'.ownsRow w.heap.size 3 1 v n (ints l)) ∧ Below w.heap.size w w' := by
  have hl := reads_len hr
  obtain ⟨i0, hi, hz0, hz1, hz2⟩ := info_parts infoI64
  have q : ∀ (w : World) (a : Option Addr) (n c n' c' : Nat), (binOp .eql 54 (.slice a n c) (.slice none n' c')).run Try.prog w = .ok (.bool a.isNone) w := fun w a n c n' c' => Lib.run_eql_slice_nil w _ _ a n c n' c' Try.underlying54
  cases A with
  | none =>
    obtain rfl : n = 0 := by
      rcases Nat.eq_zero_or_pos n with h | h
      · exact h
      · obtain ⟨_, e, _⟩ := hr.2 h; cases e
    obtain rfl : l = [] := List.eq_nil_of_length_eq_zero hl
    go_enter Try.func76, Try.ntmps76
    go_wp2
    go_ret
    exact ⟨⟨_, rfl, World.ownsRow_nil _ _ _ _⟩, Below.refl _ _⟩
  | some ad =>
    have hc : ∀ j u, (ints l)[j]? = some u → (w.alloc (.cells #[] 3)).cell? (ad.add j) = some u := fun j u hu => by
      have hn0 : 0 < n := by
        have := (List.getElem?_eq_some_iff.1 hu).1
        rw [ints_length] at this
        omega
      obtain ⟨ad', e, hb, h⟩ := hr.2 hn0
      cases e
      rw [World.cell?_alloc_lt w _ _ (by rw [block_of_add]; exact hb)]
      exact h j u hu
    go_enter Try.func76, Try.ntmps76
    go_wp2_with (at_builtin; refine wpList_append_own _ rfl _ _ 54 rfl w.heap.size 3 i0 (.int .i64 0) 1 8 Try.underlying54 hi hz0 hz1 hz2 rfl (by decide) _ _ _ rfl (World.ownsRow_made w #[] 0 (Nat.le_refl _) (Nat.zero_le _) rfl) ad n c (ints l) rfl ?qc1 ?qc2 ?qc3 ?qc4 ?qc5 ?qc6 ?_)
    case qc1 => simp [ints_length, hl]
    case qc2 => exact hc
    case qc3 => intro u hu; simp only [ints, List.mem_map] at hu; obtain ⟨x, _, rfl⟩ := hu; rfl
    case qc4 => unfold maxLen; omega
    case qc5 => omega
    case qc6 => simp
    intro v' w1 hown hgrow hnil
    go_wp2
    go_ret
    exact ⟨⟨v', rfl, by simpa using hown⟩, ((Below.refl _ w).alloc (Nat.le_refl _) _).grown hgrow (by simp) (by intro k hk; simp [Value.ownBlock] at hk; omega)⟩
end Go.Proofs.Ythajbeooemngpaa
