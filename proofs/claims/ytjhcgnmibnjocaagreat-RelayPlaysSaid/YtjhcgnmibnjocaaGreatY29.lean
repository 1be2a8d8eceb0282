import Derived.Test.YtjhcgnmibnjocaaGreatY28
/-! The law's entries as the program's. -/
namespace Go.Proofs.YtjhcgnmibnjocaaGreat
open Go.RowKit Go.Maps
set_option linter.unusedVariables false
set_option linter.unusedSimpArgs false
theorem run_copyU_grown {T : Nat → Prop} {w w' : World} {u v : Value} {t : List Nat} (h : Bsl w T u t) (hn : t.length ≤ 1000000)
  (hr : (Builtin.append_ #[36, 36] 36 #[.slice (some ⟨w.heap.size, 0, none⟩) 0 0, u]).run Tryz.prog (w.alloc (.cells #[] 5)) = .ok v w') : First.Grown (w.alloc (.cells #[] 5)) w' := by
 obtain ⟨A, c, rfl, hR, hnil⟩ := h.exR
 obtain ⟨i0, hi, hz0, hz1, hz2⟩ := info_parts infoU8
 rcases Nat.eq_zero_or_pos t.length with h0 | h0
 ·obtain rfl : t = [] := List.eq_nil_of_length_eq_zero h0
  have hs : Src Tryz.prog i0.size 36 (.slice A 0 c) 0 [] (w.alloc (.cells #[] 5)) := by
   cases A with
   | none => exact Src.ofNil _ Tryz.underlying36 c
   | some ad => exact Src.ofSlice _ Tryz.underlying36 ad 0 c [] (by simp) (fun j u hu => by cases hu) (fun u hu => by cases hu)
  have h2 := run_append_room_src (P := Tryz.prog) (w.alloc (.cells #[] 5)) 36 36 36 5 i0 Tryz.underlying36 hi w.heap.size 0 0 0 (.slice A 0 c) 0 [] hs (Nat.le_refl _) (fun j hj => by cases hj) (fun j hj => by cases hj)
  simp only [List.length_nil] at hr
  rw [hr] at h2
  injection h2 with _ h3
  rw [h3]
  exact First.Grown.refl _
 ·obtain ⟨ad, rfl, hb, hc⟩ := hR.2 h0
  have h2 := run_append_grow (P := Tryz.prog) (w.alloc (.cells #[] 5)) 36 36 5 i0 (.int .u8 0) Tryz.underlying36 hi hz0 ⟨w.heap.size, 0, none⟩ 0 0 [] (by simp) (fun j u hu => by cases hu) ad t.length c (u8s t) (by rw [u8s_length, hz1, Nat.mul_one])
   (fun j u hu => by rw [World.cell?_alloc_lt w _ _ (by rw [block_of_add]; exact hb)]; exact hc j u hu) (by omega) (by omega) (growslice_fits (by omega) (by rw [hz2]; omega))
  rw [hr] at h2
  injection h2 with _ h3
  rw [h3]
  have hbb : Below (w.alloc (.cells #[] 5)).heap.size (w.alloc (.cells #[] 5)) (w.alloc (.cells #[] 5)).drew := Below.drew (Below.refl _ _)
  exact World.ext_of_below (hbb.alloc (Nat.le_refl _) _)
theorem own_ge {w : World} {T : Nat → Prop} {base : Nat} {v : Value} {l : List Ent} (h : OwnE w T base v l) : ∀ k, v.ownBlock = some k → base ≤ k ∧ k < w.heap.size := fun k hk => by
 obtain ⟨ms, _, ho, _⟩ := h
 obtain ⟨A, c, rfl, _⟩ := own_sl ho
 cases A with
 | none => cases hk
 | some ad => cases hk; exact own_addr ho _ rfl
theorem Chg.low {w w' : World} {base : Nat} {v v' : Value} (h : Chg w w' v v') (hv : ∀ k, v.ownBlock = some k → base ≤ k) (hb : base ≤ w.heap.size) : Below base w w' :=
 ⟨h.os, h.tape, h.output, h.size, fun k hk => h.block k (by omega) (fun e => by have := hv k e; omega)⟩
end Go.Proofs.YtjhcgnmibnjocaaGreat
