import Derived.Test.YthajbeooemngpaaRd4
/-! The wire's reader: texts, stamps, a new reader. -/
namespace Go.Proofs.Ythajbeooemngpaa
open Go.RowKit
set_option linter.unusedVariables false
set_option linter.unusedSimpArgs false
/-- A text. -/
def textP (most : Int) (r : Rest) : List Nat × Rest := takeP (countP most r).1 (countP most r).2
/-- A stamp. -/
def stampP (r : Rest) : (Int × Int × Int) × Rest := if (takeP 16 r).1 = [] then ((0, 0, 0), (takeP 16 r).2) else
  ((getW (takeP 16 r).1, getT (takeP 16 r).1, getM (takeP 16 r).1), if getE (takeP 16 r).1 = 0 then (takeP 16 r).2 else failP (getE (takeP 16 r).1) (takeP 16 r).2)
theorem countP_le {most : Int} {r : Rest} (hm : I64 most) : ((countP most r).1 : Nat) ≤ 9223372036854775807 := by
  unfold I64 at hm
  unfold countP
  split
  · simp
  · rename_i h
    by_cases h1 : most.toNat < (numP r).1
    · exact absurd (.inl h1) h
    · omega
theorem rdtext_any (g b : Nat) (xs : List Nat) (e most : Int) (w : World) (h : Rdr w g b xs e) (hm : I64 most) :
    Calls Try.prog 56 #[.pointer (some ⟨g, 0, none⟩), .int .i64 most] w fun e' w' => e' = .returned (.string (strOf (textP most ⟨xs, e⟩).1)) ∧ Rdr w' g b (textP most ⟨xs, e⟩).2.xs (textP most ⟨xs, e⟩).2.e ∧ Only w w' g := by
  have hc := rdcount_any g b xs e most w h hm
  have hle := countP_le (r := ⟨xs, e⟩) hm
  unfold textP
  generalize countP most ⟨xs, e⟩ = q at *
  obtain ⟨n, q, e1⟩ := q
  simp only at *
  have ht := fun w1 (h1 : Rdr w1 g b q e1) => take_any g b q e1 n w1 h1 hle
  generalize takeP n ⟨q, e1⟩ = p at *
  obtain ⟨p, q2, e2⟩ := p
  simp only at *
  go_enter Try.func56, Try.ntmps56
  go_wp2_with (first | (go_at_call 60; (with_reducible refine hc.mono ?_); rintro e w1 ⟨rfl, hr1, ho1⟩) | (go_at_call 82; (with_reducible refine (ht _ hr1).mono ?_); rintro e w2 ⟨A2, k2, rfl, hs2, hk2, hm2, hr2, ho2⟩; have hcv := conv_bytes (P := Try.prog) hs2.reads Try.underlying23 Try.underlying5 Try.underlying9 k2))
  go_ret
  exact ⟨rfl, hr2, ho1.trans ho2⟩
theorem Row.sees {w : World} {base : Nat} {v : Value} {xs : List Nat} (h : Row w base v xs) (hb : base < w.heap.size) (hx : ∀ x ∈ xs, x < 256) : ∃ A c b, v = .slice A xs.length c ∧ Sees w b A xs ∧ xs.length ≤ c ∧ c ≤ maxLen ∧ base ≤ b := by
  rcases Nat.eq_zero_or_pos xs.length with h0 | h0
  · obtain ⟨A, c, e, h1, h2, -⟩ := h.slice
    obtain rfl : xs = [] := List.eq_nil_of_length_eq_zero h0
    exact ⟨A, c, base, e, Sees.nil A hb, h1, h2, Nat.le_refl _⟩
  · obtain ⟨g, cap, e, hl, hge, h1, h2, hc⟩ := h.at_ h0
    exact ⟨_, cap, g, e, ⟨hl, fun _ => ⟨0, rfl, fun j x hx => by rw [Nat.zero_add]; exact hc j x hx⟩, hx⟩, h1, h2, hge⟩
theorem read_any (A : Option Addr) (c : Nat) (l : List Nat) (w : World) (hr : Reads w w.heap.size 1 A l.length (u8s l)) (hx : ∀ x ∈ l, x < 256) (hnil : A = none → c = 0) (hlen : l.length ≤ 140737488355328) :
    Calls Try.prog 55 #[.slice A l.length c] w fun e w' => ∃ g b, e = .returned (.pointer (some ⟨g, 0, none⟩)) ∧ Rdr w' g b l 0 ∧ w.heap.size ≤ g ∧ w.heap.size ≤ b ∧ Below w.heap.size w w' := by
  go_enter Try.func55, Try.ntmps55
  go_wp2_with (at_builtin; go_must (refine app_row rfl (.tmp 3) (.tmp 4) 23 rfl Try.underlying23 infoU8 w.heap.size _ ([]) (l) A l.length c rfl (row_made w) rfl ?c0 ?c1 ?c2 ?c3 ?c4 ?_))
  case c0 => rfl
  case c1 => exact (hr.alloc (Nat.le_refl _) _).more (by simp)
  case c2 => exact hnil
  case c3 => simp; omega
  case c4 => simp
  intro u w1 hr1 hc1
  have hb1 := hc1.below (base := w.heap.size) (row_made w) (by simp)
  have hs1 := hb1.size
  have hs2 := hc1.size
  obtain ⟨A1, c1, b1, rfl, hse, hlc, hcm, hge⟩ := hr1.sees (by simp at hs2; omega) hx
  go_wp2
  have hlt := hse.lt
  refine bodyPost_ret (v := _) (by simp [results, Try.results55, go_sem] <;> rfl) rfl ⟨w1.heap.size, b1, rfl, ⟨⟨A1, c1, Blk.new w1 _ _, hse.below (Below.alloc (Below.refl _ _) (Nat.le_refl _) _), hlc, hcm⟩, by omega⟩, by simp at hs2; omega, hge, ?_⟩
  exact ((Below.alloc (Below.refl _ _) (Nat.le_refl _) _).trans hb1).alloc (by simp at hs2; omega) _
end Go.Proofs.Ythajbeooemngpaa
