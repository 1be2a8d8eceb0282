import Derived.Test.YthajbeooemngpaaVNil
import Derived.Test.YthajbeooemngpaaVRef
import Derived.Test.YthajbeooemngpaaVOps
/-! Who is safe. -/
namespace Go.Proofs.Ythajbeooemngpaa
open Go.RowKit
set_option linter.unusedVariables false
set_option linter.unusedSimpArgs false
theorem own_addr {w : World} {base size n c : Nat} {e : TypeId} {A : Option Addr} {xs : List Value} (h : w.ownsRow base e size (.slice A n c) n xs) : ∀ a, A = some a → base ≤ a.block ∧ a.block < w.heap.size := fun a ha => by
  rcases h.2 with ⟨h', _⟩ | ⟨g, cap, cur, hv, hb, hh, r⟩
  · cases h'; cases ha
  · cases hv; cases ha; exact ⟨hb, Blk.lt hh⟩
theorem changeE_zero {k : Vw} {n : Int} {ms : List Int} (h : changeE k n ms = 0) : risingB ms = true ∧ hasB ms n = true ∧ hasB k.ss n = true ∧ k.e < 4611686018427387904 := by
  unfold changeE at h
  split at h
  · simp at h
  · split at h
    · simp at h
    · split at h
      · simp at h
      · rename_i h1 h2 h3
        simp only [Bool.not_eq_false, Bool.and_eq_true] at h1 h2
        exact ⟨h1.1, h1.2, h2, by omega⟩
theorem changeK_ok {k : Vw} (hk : k.ok) {n : Int} {ms : List Int} (h : changeE k n ms = 0) (hm : ms.length * 8 ≤ 140737488355328) : Vw.ok ⟨k.e + 1, n, ms, k.ss.filter (hasB ms)⟩ := by
  obtain ⟨h1, h2, h3, h4⟩ := changeE_zero h
  have he := hk.e
  exact ⟨⟨by simp only; omega, by simp only; omega⟩, h1, hasB_mem.1 h2, List.mem_filter.2 ⟨hasB_mem.1 h3, h2⟩, fun x hx => hasB_mem.1 (List.mem_filter.1 hx).2, hm, by
    have := List.length_filter_le (hasB ms) k.ss
    have := hk.sb
    simp only
    omega⟩
theorem activeK_ok {k : Vw} (hk : k.ok) (n : Int) : (activeK k n).ok := by
  unfold activeK
  split
  · exact hk
  · split
    · exact ⟨hk.e, hk.up, hk.p, hk.p, fun x hx => hx, hk.mb, hk.mb⟩
    · exact hk
theorem Vw.ok.pos {k : Vw} (hk : k.ok) : 0 < k.ms.length := List.length_pos_of_mem hk.p
theorem change_safe (g bm bs : Nat) (k : Vw) (n : Int) (A : Option Addr) (m c : Nat) (ms : List Int) (w : World) (h : Ctl w g bm bs k) (hk : k.ok) (hr : Reads w w.heap.size 1 A m (ints ms)) (hm : m * 8 ≤ 140737488355328)
    (hAg : 0 < m → ∀ a, A = some a → a.block ≠ g) (hAs : 0 < m → ∀ a, A = some a → a.block ≠ bs) :
    Calls Try.prog 27 #[.pointer (some ⟨g, 0, none⟩), .int .i64 n, .slice A m c] w fun r w' => (∃ u, r = .returned u) ∧ (∃ bm' k', Ctl w' g bm' bs k' ∧ k'.ok ∧ (∀ x ∈ k'.ss, x ∈ k.ss) ∧ (bm' = bm ∨ w.heap.size ≤ bm')) ∧ Both2 w w' g bs := by
  by_cases he : changeE k n ms = 0
  · refine (change_yes g bm bs k n A m c ms w h hr hm hk.sb he hk.e.1 hAg hAs).mono ?_
    rintro r w' ⟨⟨v, bm', B5, rfl, _, hC, hb, _⟩, hO⟩
    exact ⟨⟨_, rfl⟩, ⟨bm', _, hC, changeK_ok hk he (by rw [reads_len hr]; exact hm), fun x hx => (List.mem_filter.1 hx).1, .inr hb⟩, hO⟩
  · refine (change_no g bm bs k n A m c ms w h hr (by omega) (by have := hk.sb; omega) he).mono ?_
    rintro r w' ⟨rfl, hb⟩
    exact ⟨⟨_, rfl⟩, ⟨bm, k, h.below hb, hk, fun x hx => hx, .inl rfl⟩, Both2.of_below hb⟩
theorem active_safe (g bm bs : Nat) (k : Vw) (n : Int) (w : World) (h : Ctl w g bm bs k) (hk : k.ok) :
    Calls Try.prog 29 #[.pointer (some ⟨g, 0, none⟩), .int .i64 n] w fun r w' => (∃ u, r = .returned u) ∧ (∃ bs' k', Ctl w' g bm bs' k' ∧ k'.ok ∧ (bs' = bs ∨ w.heap.size ≤ bs')) ∧ Both2 w w' g bs := by
  refine (active_any g bm bs k n w h hk.mb hk.pos).mono ?_
  rintro r w' ⟨rfl, ⟨bs', hC, hb⟩, hO⟩
  exact ⟨⟨_, rfl⟩, ⟨bs', _, hC, activeK_ok hk n, hb⟩, hO⟩
theorem vright_yes (k : Vw) (hk : k.ok) (A : Option Addr) (n c : Nat) (w : World) (hr : Reads w w.heap.size 1 A n (ints k.ms)) (hn : n ≤ 9223372036854775807) :
    Calls Try.prog 39 #[.agg #[.int .i64 k.e, .int .i64 k.p, .slice A n c]] w fun r w' => r = .returned (.bool true) ∧ Below w.heap.size w w' := by
  have h := vright_any k.e k.p A n c k.ms w hr hn
  have h2 : rightV k.e k.p k.ms = true := by
    have he := hk.e
    simp [rightV, he.1, he.2, hk.up, hasB_mem.2 hk.p]
  rw [h2] at h
  exact h
theorem rhas_yes (A : Option Addr) (n c : Nat) (l : List Int) (x : Int) (w : World) (hr : Reads w w.heap.size 1 A n (ints l)) (hn : n ≤ 9223372036854775807) (hx : x ∈ l) :
    Calls Try.prog 41 #[.slice A n c, .int .i64 x] w fun e w' => e = .returned (.bool true) ∧ w' = w := by
  have h := rhas_any A n c l x w hr hn
  rw [hasB_mem.2 hx] at h
  exact h
end Go.Proofs.Ythajbeooemngpaa
