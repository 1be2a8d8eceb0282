import Derived.Test.YthajbeooemngpaaView
/-! Whether a view may be; a control that is told that a view is active. -/
namespace Go.Proofs.Ythajbeooemngpaa
open Go.RowKit
set_option linter.unusedVariables false
set_option linter.unusedSimpArgs false
def rightV (e p : Int) (l : List Int) : Bool := decide (1 ≤ e) && decide (e ≤ 4611686018427387904) && risingB l && hasB l p
set_option maxHeartbeats 1000000 in
theorem vright_any (e p : Int) (A : Option Addr) (n c : Nat) (l : List Int) (w : World) (hr : Reads w w.heap.size 1 A n (ints l)) (hn : n ≤ 9223372036854775807) :
    Calls Try.prog 39 #[.agg #[.int .i64 e, .int .i64 p, .slice A n c]] w fun r w' => r = .returned (.bool (rightV e p l)) ∧ Below w.heap.size w w' := by
  have hr' : ∀ o, Reads (w.alloc o) (w.alloc o).heap.size 1 A n (ints l) := fun o => (hr.alloc (Nat.le_refl _) o).more (by simp)
  have hR : ∀ o, _ := fun o => rising_any A n c l (w.alloc o) (hr' o) hn
  have hH : ∀ o, _ := fun o => has_any A n c l p (w.alloc o) (hr' o) hn
  clear hr' hr
  unfold rightV
  by_cases h1 : 1 ≤ e
  · by_cases h2 : e ≤ 4611686018427387904
    · cases hu : risingB l with
      | true =>
        rw [hu] at hR
        rw [decide_eq_true h1, decide_eq_true h2]
        go_enter Try.func39, Try.ntmps39
        go_wp2_with (first | (go_at_call 74; (with_reducible refine (hR _).mono ?_); rintro e w1 ⟨rfl, rfl⟩) | (go_at_call 75; (with_reducible refine (hH _).mono ?_); rintro e w1 ⟨rfl, rfl⟩))
        go_ret
        exact ⟨rfl, by (repeat' (first | with_reducible exact Below.refl _ _ | with_reducible refine Below.ext ?_ ?_ _ | with_reducible refine Below.alloc ?_ ?_ _ | with_reducible refine Below.setCell ?_ ?_ _ | with_reducible refine Below.drew ?_ | with_reducible assumption | (simp [World.size_ext]; done) | (simp [World.size_ext]; omega)))⟩
      | false =>
        rw [hu] at hR
        rw [decide_eq_true h1, decide_eq_true h2]
        go_enter Try.func39, Try.ntmps39
        go_wp2_with (first | (go_at_call 74; (with_reducible refine (hR _).mono ?_); rintro e w1 ⟨rfl, rfl⟩))
        go_ret
        exact ⟨rfl, by (repeat' (first | with_reducible exact Below.refl _ _ | with_reducible refine Below.ext ?_ ?_ _ | with_reducible refine Below.alloc ?_ ?_ _ | with_reducible refine Below.setCell ?_ ?_ _ | with_reducible refine Below.drew ?_ | with_reducible assumption | (simp [World.size_ext]; done) | (simp [World.size_ext]; omega)))⟩
    · rw [decide_eq_true h1, decide_eq_false h2]
      go_enter Try.func39, Try.ntmps39
      go_wp2
      go_ret
      exact ⟨rfl, by (repeat' (first | with_reducible exact Below.refl _ _ | with_reducible refine Below.ext ?_ ?_ _ | with_reducible refine Below.alloc ?_ ?_ _ | with_reducible refine Below.setCell ?_ ?_ _ | with_reducible refine Below.drew ?_ | with_reducible assumption | (simp [World.size_ext]; done) | (simp [World.size_ext]; omega)))⟩
  · rw [decide_eq_false h1]
    go_enter Try.func39, Try.ntmps39
    go_wp2
    go_ret
    exact ⟨rfl, by (repeat' (first | with_reducible exact Below.refl _ _ | with_reducible refine Below.ext ?_ ?_ _ | with_reducible refine Below.alloc ?_ ?_ _ | with_reducible refine Below.setCell ?_ ?_ _ | with_reducible refine Below.drew ?_ | with_reducible assumption | (simp [World.size_ext]; done) | (simp [World.size_ext]; omega)))⟩
/-- Two old blocks are changed at most. -/
structure Both2 (w w' : World) (g s : Nat) : Prop where
  os : w'.os = w.os
  tape : w'.tape = w.tape
  output : w'.output = w.output
  size : w.heap.size ≤ w'.heap.size
  block : ∀ k, k < w.heap.size → k ≠ g → k ≠ s → w'.heap[k]? = w.heap[k]?
theorem Both2.refl (w : World) (g s : Nat) : Both2 w w g s := ⟨rfl, rfl, rfl, Nat.le_refl _, fun _ _ _ _ => rfl⟩
theorem Both2.of_below {w w' : World} {g s : Nat} (h : Below w.heap.size w w') : Both2 w w' g s := ⟨h.os, h.tape, h.output, h.size, fun k hk _ _ => h.block k hk⟩
theorem Both2.of_only {w w' : World} {g s : Nat} (h : Only w w' g) : Both2 w w' g s := ⟨h.os, h.tape, h.output, h.size, fun k hk h1 _ => h.block k hk h1⟩
theorem Both2.trans {w w' w'' : World} {g s : Nat} (h : Both2 w w' g s) (k : Both2 w' w'' g s) : Both2 w w'' g s :=
  ⟨k.os.trans h.os, k.tape.trans h.tape, k.output.trans h.output, Nat.le_trans h.size k.size, fun i hi h1 h2 => (k.block i (Nat.lt_of_lt_of_le hi h.size) h1 h2).trans (h.block i hi h1 h2)⟩
theorem Both2.below {w w' : World} {g s B : Nat} (h : Both2 w w' g s) (hg : B ≤ g) (hs : B ≤ s) (hB : B ≤ w.heap.size) : Below B w w' := ⟨h.os, h.tape, h.output, h.size, fun k hk => h.block k (by omega) (by omega) (by omega)⟩
def activeE (k : Vw) (n : Int) : Int := if n < 1 ∨ k.e < n then 1 else 0
def activeK (k : Vw) (n : Int) : Vw := if n < 1 ∨ k.e < n then k else if n = k.e then { k with ss := k.ms } else k
theorem active_nil (n : Int) (w : World) :
    Calls Try.prog 29 #[.pointer none, .int .i64 n] w fun r w' => r = .returned (.int .i64 2) ∧ w' = w := by
  go_enter Try.func29, Try.ntmps29
  go_wp2
  go_ret
  exact ⟨rfl, rfl⟩
set_option maxHeartbeats 1000000 in
theorem active_any (g bm bs : Nat) (k : Vw) (n : Int) (w : World) (h : Ctl w g bm bs k) (hn : k.ms.length * 8 ≤ 140737488355328) (h0 : 0 < k.ms.length) :
    Calls Try.prog 29 #[.pointer (some ⟨g, 0, none⟩), .int .i64 n] w fun r w' => r = .returned (.int .i64 (activeE k n)) ∧ (∃ bs', Ctl w' g bm bs' (activeK k n) ∧ (bs' = bs ∨ w.heap.size ≤ bs')) ∧ Both2 w w' g bs := by
  have hC := h
  obtain ⟨cm, cs, h1, h2, h3, h4⟩ := h
  have c1 := h1.cell
  have f1 := h1.frozen
  have l1 := h1.lt
  unfold activeE activeK
  by_cases q1 : n < 1
  · rw [if_pos (.inl q1), if_pos (.inl q1)]
    clear h1 h2 h3
    have HC := hide hC
    clear hC
    go_enter Try.func29, Try.ntmps29
    go_wp2
    go_ret
    exact ⟨rfl, ⟨bs, HC.out, .inl rfl⟩, Both2.refl _ _ _⟩
  · have d1 : decide (n < 1) = false := decide_eq_false q1
    by_cases q2 : k.e < n
    · rw [if_pos (.inr q2), if_pos (.inr q2)]
      clear h1 h2 h3
      have HC := hide hC
      clear hC
      go_enter Try.func29, Try.ntmps29
      go_wp2
      go_ret
      exact ⟨rfl, ⟨bs, HC.out, .inl rfl⟩, Both2.refl _ _ _⟩
    · have d2 : decide (k.e < n) = false := decide_eq_false q2
      rw [if_neg (by omega), if_neg (by omega)]
      by_cases q3 : n = k.e
      · rw [if_pos q3]
        have hk := clone_any _ _ cm k.ms w h2.reads hn
        have H := hide (⟨h1, h2, h4⟩ : _ ∧ _ ∧ _)
        clear h1 h2 h3 hC h4
        subst q3
        go_enter Try.func29, Try.ntmps29
        go_wp2_with (go_at_call 76; (with_reducible refine hk.mono ?_); rintro e w1 ⟨⟨v, rfl, ho1⟩, hb1⟩; obtain ⟨b1, k1, rfl, hg1, hR1⟩ := RowAt.of_own' ho1 h0 rfl; obtain ⟨Y, rfl⟩ := World.ext_of_below hb1; clear hb1 ho1)
        go_ret
        obtain ⟨h1, h2, h4⟩ := H.out
        have q2 := h2.lt
        exact ⟨rfl, ⟨b1, ⟨cm, k1, Blk.set_to (Blk.ext h1 Y) rfl, (h2.ext Y).set_ (by exact fun e => h4.1 e.symm) _, hR1.set_ (by show b1 ≠ g; omega) _, h4.1, by omega, by omega⟩, .inr hg1⟩, Both2.of_only (by (repeat' (first | with_reducible exact h1 | with_reducible exact Only.refl _ _ | with_reducible refine Only.set_ ?_ ?_ _ | with_reducible refine Only.alloc ?_ _ | with_reducible refine Only.ext ?_ _ | exact .inl rfl | (right; first | omega | (simp [World.size_ext]; done) | (simp [World.size_ext]; omega)))))⟩
      · rw [if_neg q3]
        have d3 : (n == k.e) = false := by simpa using q3
        have HC := hide hC
        clear hC h1 h2 h3
        go_enter Try.func29, Try.ntmps29
        go_wp2
        go_ret
        exact ⟨rfl, ⟨bs, HC.out, .inl rfl⟩, Both2.refl _ _ _⟩
end Go.Proofs.Ythajbeooemngpaa
