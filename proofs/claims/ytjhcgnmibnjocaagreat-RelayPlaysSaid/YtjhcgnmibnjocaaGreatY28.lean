import Derived.Test.YtjhcgnmibnjocaaGreatY27
import Derived.Deep.AppendSrc
/-! The law's entries as the program's. -/
namespace Go.Proofs.YtjhcgnmibnjocaaGreat
open Go.RowKit Go.Maps
set_option linter.unusedVariables false
set_option linter.unusedSimpArgs false
theorem run_copyU {T : Nat → Prop} (w : World) (u : Value) (t : List Nat) (h : Bsl w T u t) (hn : t.length ≤ 1000000) :
  ∃ v w', (Builtin.append_ #[36, 36] 36 #[.slice (some ⟨w.heap.size, 0, none⟩) 0 0, u]).run Tryz.prog (w.alloc (.cells #[] 5)) = .ok v w' ∧ Row w' w.heap.size v t ∧ Below w.heap.size w w' := by
 obtain ⟨A, c, rfl, hr, hnil⟩ := h.exR
 obtain ⟨i0, hi, hz0, hz1, hz2⟩ := info_parts infoU8
 have hb := Below.alloc (Below.refl w.heap.size w) (Nat.le_refl _) (.cells #[] 5)
 cases A with
 | none =>
  obtain rfl : t = [] := by
   rcases Nat.eq_zero_or_pos t.length with h | h
   ·exact List.eq_nil_of_length_eq_zero h
   ·obtain ⟨_, e, _⟩ := hr.2 h; cases e
  have h := run_append_room_src (P := Tryz.prog) (w.alloc (.cells #[] 5)) 36 36 36 5 i0 Tryz.underlying36 hi w.heap.size 0 0 0 (.slice none 0 c) 0 [] (Src.ofNil (w.alloc (.cells #[] 5)) Tryz.underlying36 c) (Nat.le_refl _) (fun j hj => by cases hj) (fun j hj => by cases hj)
  exact ⟨_, _, h, World.ownsRow_made w #[] 0 (Nat.le_refl _) (Nat.zero_le _) rfl, hb⟩
 | some ad =>
  obtain ⟨v, w', h1, h2, h3, _⟩ := run_append_own (P := Tryz.prog) (w.alloc (.cells #[] 5)) w.heap.size 36 36 5 i0 (.int .u8 0) 1 1 Tryz.underlying36 hi hz0 hz1 hz2 rfl (by decide) (.slice (some ⟨w.heap.size, 0, none⟩) 0 0) 0 [] (World.ownsRow_made w #[] 0 (Nat.le_refl _) (Nat.zero_le _) rfl) ad t.length c (u8s t) (by simp [u8s_length])
   (fun j u hu => by
    have hn0 : 0 < t.length := by
     have := (List.getElem?_eq_some_iff.1 hu).1
     rw [u8s_length] at this
     omega
    obtain ⟨ad', e, hb', h⟩ := hr.2 hn0
    cases e
    rw [World.cell?_alloc_lt w _ _ (by rw [block_of_add]; exact hb')]
    exact h j u hu)
   (fun u hu => by simp only [u8s, List.mem_map] at hu; obtain ⟨x, _, rfl⟩ := hu; rfl) (by unfold maxLen; omega) (by omega) (by simp)
  exact ⟨v, w', h1, by simpa [Row] using h2, hb.grown h3 (by simp) (by intro k hk; simp [Value.ownBlock] at hk; omega)⟩
end Go.Proofs.YtjhcgnmibnjocaaGreat
