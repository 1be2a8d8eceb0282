import Derived.Test.YtjhcgnmibnjocaaY4
/-! Copies of bytes and of entries. -/
namespace Go.Proofs.Ytjhcgnmibnjocaa
open Go.RowKit Go.Maps
set_option linter.unusedVariables false
set_option linter.unusedSimpArgs false
theorem infoEnt : (Try.prog.info? 103).map (fun i => (i.zero, i.size, i.bytes)) = some (some (.agg #[.int .i64 0, .slice none 0 0]), 2, 32) := by kernel_rfl
theorem Bsl.exR {w : World} {T : Nat → Prop} {v : Value} {t : List Nat} (h : Bsl w T v t) : ∃ A c, v = .slice A t.length c ∧ Reads w w.heap.size 1 A t.length (u8s t) ∧ (A = none → c = 0) := by
  obtain ⟨⟨A, c, e, hr, hn, _⟩, _⟩ := h
  exact ⟨A, c, e, hr, hn⟩
set_option maxHeartbeats 1000000 in
theorem cloneB_any {T : Nat → Prop} (u : Value) (t : List Nat) (w : World) (h : Bsl w T u t) (hn : t.length ≤ 1000000) :
    Calls Try.prog 45 #[u] w fun e w' => ∃ v, e = .returned v ∧ Row w' w.heap.size v t ∧ Below w.heap.size w w' := by
  obtain ⟨A, c, rfl, hr, hnil⟩ := h.exR
  obtain ⟨i0, hi, hz0, hz1, hz2⟩ := info_parts infoU8
  have q : ∀ (w : World) (a : Option Addr) (n c n' c' : Nat), (binOp .eql 32 (.slice a n c) (.slice none n' c')).run Try.prog w = .ok (.bool a.isNone) w := fun w a n c n' c' => Lib.run_eql_slice_nil w _ _ a n c n' c' Try.underlying32
  cases A with
  | none =>
    obtain rfl : t = [] := by
      rcases Nat.eq_zero_or_pos t.length with h | h
      · exact List.eq_nil_of_length_eq_zero h
      · obtain ⟨_, e, _⟩ := hr.2 h; cases e
    go_enter Try.func45, Try.ntmps45
    go_wp2
    go_ret
    exact ⟨_, rfl, Row.nil _ _, Below.refl _ _⟩
  | some ad =>
    have hc : ∀ j x, (u8s t)[j]? = some x → (w.alloc (.cells #[] 5)).cell? (ad.add j) = some x := fun j x hu => by
      have hn0 : 0 < t.length := by
        have := (List.getElem?_eq_some_iff.1 hu).1
        rw [u8s_length] at this
        omega
      obtain ⟨ad', e, hb, h⟩ := hr.2 hn0
      cases e
      rw [World.cell?_alloc_lt w _ _ (by rw [block_of_add]; exact hb)]
      exact h j x hu
    go_enter Try.func45, Try.ntmps45
    go_wp2_with (at_builtin; refine wpList_append_own _ rfl _ _ 32 rfl w.heap.size 5 i0 (.int .u8 0) 1 1 Try.underlying32 hi hz0 hz1 hz2 rfl (by decide) _ _ _ rfl (World.ownsRow_made w #[] 0 (Nat.le_refl _) (Nat.zero_le _) rfl) ad t.length c (u8s t) rfl ?qc1 ?qc2 ?qc3 ?qc4 ?qc5 ?qc6 ?_)
    case qc1 => simp [u8s_length]
    case qc2 => exact hc
    case qc3 => intro u hu; simp only [u8s, List.mem_map] at hu; obtain ⟨x, _, rfl⟩ := hu; rfl
    case qc4 => unfold maxLen; omega
    case qc5 => omega
    case qc6 => simp
    intro v' w1 hown hgrow hnil
    go_wp2
    go_ret
    exact ⟨v', rfl, by simpa [Row] using hown, ((Below.refl _ w).alloc (Nat.le_refl _) _).grown hgrow (by simp) (by intro k hk; simp [Value.ownBlock] at hk; omega)⟩
set_option maxHeartbeats 1000000 in
theorem cloneE_any (A : Option Addr) (n c : Nat) (ms : List Em) (w : World) (hr : Reads w w.heap.size 2 A n (emV ms)) (hm : ∀ m ∈ ms, ∃ a n c, m.v = .slice a n c) (hn : n ≤ 4096) (hl : ms.length = n) :
    Calls Try.prog 93 #[.slice A n c] w fun e w' => ∃ v, e = .returned v ∧ w'.ownsRow w.heap.size 103 2 v n (emV ms) ∧ Below w.heap.size w w' := by
  obtain ⟨i0, hi, hz0, hz1, hz2⟩ := info_parts infoEnt
  have q : ∀ (w : World) (a : Option Addr) (n c n' c' : Nat), (binOp .eql 52 (.slice a n c) (.slice none n' c')).run Try.prog w = .ok (.bool a.isNone) w := fun w a n c n' c' => Lib.run_eql_slice_nil w _ _ a n c n' c' Try.underlying52
  cases A with
  | none =>
    obtain rfl : n = 0 := by
      rcases Nat.eq_zero_or_pos n with h | h
      · exact h
      · obtain ⟨_, e, _⟩ := hr.2 h; cases e
    obtain rfl : ms = [] := List.eq_nil_of_length_eq_zero hl
    go_enter Try.func93, Try.ntmps93
    go_wp2
    go_ret
    exact ⟨_, rfl, World.ownsRow_nil _ _ _ _, Below.refl _ _⟩
  | some ad =>
    have hc : ∀ j x, (emV ms)[j]? = some x → (w.alloc (.cells #[] 103)).cell? (ad.add j) = some x := fun j x hu => by
      have hn0 : 0 < n := by
        have := (List.getElem?_eq_some_iff.1 hu).1
        rw [emV_length] at this
        omega
      obtain ⟨ad', e, hb, h⟩ := hr.2 hn0
      cases e
      rw [World.cell?_alloc_lt w _ _ (by rw [block_of_add]; exact hb)]
      exact h j x hu
    go_enter Try.func93, Try.ntmps93
    go_wp2_with (at_builtin; refine wpList_append_own _ rfl _ _ 52 rfl w.heap.size 103 i0 (.agg #[.int .i64 0, .slice none 0 0]) 2 32 Try.underlying52 hi hz0 hz1 hz2 rfl (by decide) _ _ _ rfl (World.ownsRow_made w #[] 0 (Nat.le_refl _) (Nat.zero_le _) rfl) ad n c (emV ms) rfl ?qc1 ?qc2 ?qc3 ?qc4 ?qc5 ?qc6 ?_)
    case qc1 => simp [emV_length, hl]
    case qc2 => exact hc
    case qc3 =>
      intro u hu
      simp only [emV, rowsV, List.mem_flatMap] at hu
      obtain ⟨m, hmm, hu⟩ := hu
      obtain ⟨a, n', c', e⟩ := hm m hmm
      simp only [Em.cells, e, List.mem_cons, List.not_mem_nil, or_false] at hu
      rcases hu with rfl | rfl <;> rfl
    case qc4 => unfold maxLen; omega
    case qc5 => omega
    case qc6 => simp
    intro v' w1 hown hgrow hnil
    go_wp2
    go_ret
    exact ⟨v', rfl, by simpa using hown, ((Below.refl _ w).alloc (Nat.le_refl _) _).grown hgrow (by simp) (by intro k hk; simp [Value.ownBlock] at hk; omega)⟩
end Go.Proofs.Ytjhcgnmibnjocaa
