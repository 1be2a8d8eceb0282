import Derived.Test.YtghinjnhcepaeaaCh16
/-! The example. -/
namespace Go.Proofs.Ytghinjnhcepaeaa
open Go.RowKit
set_option linter.unusedVariables false
set_option linter.unusedSimpArgs false
def vA : Ver := ⟨3, 0, 0, 3, 0, ⟨#[]⟩⟩
def vB : Ver := ⟨1, 0, 0, 1, 5, ⟨#[]⟩⟩
def tA : Ver := ⟨2, 0, 0, 0, 0, ⟨#[]⟩⟩
theorem vA_ok : vA.ok := by unfold Ver.ok vA I64 U32; simp; decide
theorem vB_ok : vB.ok := by unfold Ver.ok vB I64 U32; simp; decide
theorem tA_ok : tA.ok := by unfold Ver.ok tA I64 U32; simp; decide
theorem empty_list : (⟨#[]⟩ : ByteArray).toList = [] := by
  unfold ByteArray.toList
  unfold ByteArray.toList.loop
  rw [if_neg (by decide)]
  rfl
theorem vA_right : vright vA = true := by
  simp only [vright, vA, empty_list]
  decide
theorem vB_right : vright vB = true := by
  simp only [vright, vB, empty_list]
  decide
theorem eA : errL [] vA = 0 := errL_zero.2 ⟨vA_right, rfl⟩
theorem eB : errL [vA] vB = 0 := errL_zero.2 ⟨vB_right, by decide⟩
theorem rA : resL [] vA = [vA] := by unfold resL; rw [if_pos eA]; rfl
theorem rB : resL [vA] vB = [vB, vA] := by unfold resL; rw [if_pos eB]; rfl
theorem gtA : getV [vB, vA] tA.k = some vB := by rw [stand_some (m := 0) (x := vB) (by decide) rfl]; rfl
theorem gtB : getV [vB, vA] vA.k = none := by rw [stand_some (m := 1) (x := vA) (by decide) rfl]; rfl
theorem ctA : cutV [vB, vA] vA.k = [] := by unfold cutV cutI; rw [gtB]; rfl
theorem gA : Good [vA] := Good.put Good.nil vA_ok vA_right rfl
theorem gB : Good [vB, vA] := Good.put gA vB_ok vB_right (by decide)
set_option maxRecDepth 100000 in
set_option maxHeartbeats 4000000 in
theorem chawake_any (w : World) :
    Calls Try.prog 8 #[] w fun e w' => e = .returned (.bool true) ∧ Below w.heap.size w w' := by
  have h1 := fun w => put_g (s := .slice none 0 0) vA w (Chn.nil w) Good.nil vA_ok (by simp)
  rw [eA, rA] at h1
  have h2 := fun s w h => put_g (s := s) vB w h gA vB_ok (by simp)
  rw [eB, rB] at h2
  have h3 := fun s w h => get_g (s := s) tA w h gB tA_ok (by simp)
  rw [gtA] at h3
  have h4 := fun s w h => get_g (s := s) vA w h gB vA_ok (by simp)
  rw [gtB] at h4
  have h5 := fun s w h => cut_g (s := s) vA w h gB vA_ok (by simp)
  rw [ctA] at h5
  simp only [vA, vB, tA, gvD, Ver.arr, Option.getD_some, Option.getD_none, Option.isSome_some, Option.isSome_none] at h1 h2 h3 h4 h5
  go_enter Try.func8, Try.ntmps8
  go_wp2_with (first
    | (go_at_call 21; (with_reducible refine (h1 _).mono ?_); rintro e w1 ⟨⟨u1, rfl, hu1⟩, hb1⟩)
    | (go_at_call 21; (with_reducible refine (h2 _ _ hu1).mono ?_); rintro e w2 ⟨⟨u2, rfl, hu2⟩, hb2⟩; have hb02 := hb1.trans (hb2.mono hb1.size))
    | (go_at_call 13; (with_reducible refine (h3 _ _ hu2).mono ?_); rintro e w3 ⟨rfl, hb3⟩; have hb03 := hb02.trans (hb3.mono hb02.size); have hV := Blk.new w3 31 #[.int .i64 1, .int .u32 0, .int .u32 0, .int .i64 1, .int .i64 5, .string ⟨#[]⟩])
    | (go_at_call 13; (with_reducible refine (h4 _ _ ((hu2.below hb3).below (Below.alloc (Below.refl _ _) (Nat.le_refl _) _))).mono ?_); rintro e w4 ⟨rfl, hb4⟩; have hV4 := hV.below hb4 hV.lt; have cV := hV4.cell; have lV := hV4.lt; have hb04 := (hb03.alloc hb03.size _).trans (hb4.mono (by have := hb03.size; simp; omega)))
    | (go_at_call 19; (with_reducible refine (h5 _ _ ((((hu2.below hb3).below (Below.alloc (Below.refl _ _) (Nat.le_refl _) _)).below hb4).below (Below.alloc (Below.refl _ _) (Nat.le_refl _) _))).mono ?_); rintro e w5 ⟨⟨u5, rfl, hu5⟩, hb5⟩; obtain ⟨A5, c5, rfl, _, _, _⟩ := hu5; have hb05 := (hb04.alloc hb04.size _).trans (hb5.mono (by have := hb04.size; simp; omega))))
  go_ret
  exact ⟨rfl, hb05⟩
end Go.Proofs.Ytghinjnhcepaeaa
