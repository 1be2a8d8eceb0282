import Derived.Test.YtmfbidhnafpkdaaTx
import Derived.Test.YtmfbidhnafpkdaaMake
/-! The example of labels. -/
namespace Go.Proofs.Ytmfbidhnafpkdaa
open Go.RowKit
set_option linter.unusedVariables false
set_option linter.unusedSimpArgs false
def exB : Par := ⟨⟨#[98]⟩, ⟨#[49]⟩⟩
def exA : Par := ⟨⟨#[97]⟩, ⟨#[50]⟩⟩
theorem ex_order {Q : List Par} (h : Q.Perm [exB, exA]) (hs : SrtS Q 0 2) : Q = [exA, exB] := by
  have hl := h.length_eq
  match Q, hl with
  | [p, r], _ =>
    have hp : p ∈ [exB, exA] := h.mem_iff.1 (by simp)
    simp only [List.mem_cons, List.not_mem_nil, or_false] at hp
    rcases hp with rfl | rfl
    · have hr := List.perm_singleton.1 (List.Perm.cons_inv h)
      cases hr
      have := hs 0 1 exB exA (by omega) (by omega) (by omega) rfl rfl
      exact absurd this (by unfold leN; decide)
    · have hr := List.perm_singleton.1 (List.Perm.cons_inv (h.trans (List.Perm.swap _ _ _)))
      cases hr
      rfl
theorem ex_err : mkE [exA, exB] = 0 := by decide
theorem ex_res : mkR [exA, exB] = [exA, exB] := by decide
theorem ex_text : textB [exA, exB] = ⟨#[123, 97, 61, 34, 50, 34, 44, 98, 61, 34, 49, 34, 125]⟩ := by rfl
theorem ex_short : Short [exA, exB] := by
  refine ⟨by decide, fun x hx => ?_, by decide⟩
  simp only [List.mem_cons, List.not_mem_nil, or_false] at hx
  rcases hx with rfl | rfl <;> decide
theorem ex_ok : ∀ x ∈ [exB, exA], x.ok := fun x hx => by
  simp only [List.mem_cons, List.not_mem_nil, or_false] at hx
  rcases hx with rfl | rfl <;> (unfold Par.ok maxLen; decide)
set_option maxRecDepth 100000 in
set_option maxHeartbeats 4000000 in
theorem lawake_any (w : World) : Calls Try.prog 10 #[] w fun e w' => e = .returned (.bool true) ∧ Below w.heap.size w w' := by
  have hB := Blk.new w 49 #[.string ⟨#[98]⟩, .string ⟨#[49]⟩, .string ⟨#[97]⟩, .string ⟨#[50]⟩]
  have hP : Pz (w.alloc (.cells #[.string ⟨#[98]⟩, .string ⟨#[49]⟩, .string ⟨#[97]⟩, .string ⟨#[50]⟩] 49)) (.slice (some ⟨w.heap.size, 0, none⟩) 2 2) [exB, exA] :=
    Pz.own (base := 0) (n := 2) (t := 49) (hB.own (b := 0) (size := 2) (n := 2) (cap := 2) (Nat.zero_le _) (Nat.le_refl _) (by unfold maxLen; omega) rfl rfl rfl)
  have hC := make_of _ [exB, exA] _ hP ex_ok (by decide) (fun h => absurd h (by decide))
  have hb0 : Below w.heap.size w (w.alloc (.cells #[.string ⟨#[98]⟩, .string ⟨#[49]⟩, .string ⟨#[97]⟩, .string ⟨#[50]⟩] 49)) := Below.alloc (Below.refl _ _) (Nat.le_refl _) _
  have hT := fun (u : Value) w h => ptext_any u [exA, exB] w h ex_short
  rw [ex_text] at hT
  clear hB hP
  go_enter Try.func10, Try.ntmps10
  go_wp2_with (first
    | (go_at_call 16; (with_reducible refine hC.mono ?_); rintro e w1 ⟨⟨Q, u, hperm, hsrt, rfl, hu⟩, hb1⟩; obtain rfl := ex_order hperm hsrt; rw [ex_res] at hu; rw [ex_err]; have hb01 := hb0.trans (hb1.mono (by simp)))
    | (go_at_call 32; (with_reducible refine (hT _ _ hu).mono ?_); rintro e w2 ⟨rfl, hb2⟩))
  go_ret
  exact ⟨rfl, hb01.trans (hb2.mono hb01.size)⟩
end Go.Proofs.Ytmfbidhnafpkdaa
