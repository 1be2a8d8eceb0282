import Derived.Test.YtmfbidhnafpkdaaDoorPar
import Derived.WalkSpells
import Derived.WalkLawsBesides
import Derived.WalkMore
/-! Labels as the program's, and as the document's. -/
namespace Go.Proofs.YtmfbidhnafpkdaaDoor
open Go.RowKit
set_option linter.unusedVariables false
set_option linter.unusedSimpArgs false
set_option maxRecDepth 100000 in
set_option maxHeartbeats 4000000 in
theorem lto_any (v : Value) (l : List Par) (w : World) (h : Pz w v l) (hn : l.length * 32 ≤ 140737488355328) :
    Calls Tryd.prog 13 #[v] w fun e w' => (∃ u, e = .returned u ∧ w'.ownsRow w.heap.size 39 2 u l.length (psV l)) ∧ Below w.heap.size w w' := by
  obtain ⟨i0, hi, hz0, hz1, hz2⟩ := info_parts infoP
  obtain ⟨A, c, rfl⟩ := h.shape
  obtain ⟨q, hq⟩ : ∃ q, w.heap.size = q := ⟨_, rfl⟩
  have hB : Below q w w := by rw [← hq]; exact Below.refl _ _
  rw [hq]
  go_enter Tryd.func13, Tryd.ntmps13
  go_wp2
  go_loopw [3, 8] (fun s3 s8 wr => ∃ j : Nat, j ≤ l.length ∧ s8 = .int .i64 (j : Int) ∧ wr.ownsRow q 39 2 s3 j (psV (l.take j)) ∧ Below q w wr) (fun _ s8 _ => ((l.length : Int) - intOf s8).toNat)
  case atStart => exact ⟨0, by omega, rfl, World.ownsRow_nil _ _ _ _, hB⟩
  case round =>
    clear hB
    obtain ⟨j, hj, rfl, hown, hbel⟩ := hrel
    have hszw : q ≤ wr.heap.size := by rw [← hq]; exact hbel.size
    by_cases hlt : j < l.length
    · obtain ⟨x, hx⟩ : ∃ x, l[j]? = some x := ⟨_, List.getElem?_eq_getElem hlt⟩
      obtain ⟨b, o, rfl, hbb, m0, m1⟩ := (h.below (by rw [hq]; exact hbel)).at_ hx
      have H := hide (psV_take1 hx)
      have hjj : (j : Int) < l.length := by omega
      clear h hx
      go_wp2_with (at_builtin; go_must (refine wpList_append_own _ rfl (.tmp 12) (.tmp 18) 30 rfl (q) 39 i0 (.agg #[.string ⟨#[]⟩, .string ⟨#[]⟩]) 2 32 Tryd.underlying30 hi hz0 hz1 hz2 rfl (by decide) _ (j) _ rfl (((hown.alloc _).alloc _)) ⟨wr.heap.size + 1, 0, none⟩ 1 1 (x.cells) rfl rfl ?c1 ?c2 ?c3 ?c4 ?c5 ?_))
      case c1 => first | exact fun j u hu => hu | exact cells_new_at _ #[.string x.a, .string x.b] _ rfl | exact cells_new_at _ #[.string x.a, .string x.b] _ (by simp)
      case c2 => exact fun u hu => psV_one (l := [x]) (by rw [psV_cons]; exact List.mem_append_left _ hu)
      case c3 => unfold maxLen; omega
      case c4 => omega
      case c5 => first | omega | (simp; omega)
      intro v' w1 hown1 hg1 _
      have hbel1 := own_below ((hbel.alloc hszw _).alloc (by simp; omega) _) ((hown.alloc _).alloc _) hg1 (Nat.le_refl _) (by simp; omega)
      rw [H.out] at hown1
      clear hg1 hbel hown
      go_wp2
      go_roundw
      case rel => exact ⟨j + 1, by omega, by go_num, hown1, hbel1⟩
      case measure => simp [intOf]; omega
    · obtain rfl : j = l.length := by omega
      rw [List.take_length] at hown
      go_wp2
      go_ret
      exact ⟨⟨_, rfl, hown⟩, hbel⟩
end Go.Proofs.YtmfbidhnafpkdaaDoor
