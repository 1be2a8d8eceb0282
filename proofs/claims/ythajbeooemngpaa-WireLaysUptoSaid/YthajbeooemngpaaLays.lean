import Derived.Test.YthajbeooemngpaaItem3
import Derived.Deep.CondSized
/-! The law of what is laid. -/
namespace Go.Proofs.Ythajbeooemngpaa
open Go.RowKit
set_option linter.unusedVariables false
set_option linter.unusedSimpArgs false
set_option maxRecDepth 100000 in
set_option maxHeartbeats 1000000 in
theorem law_wireLays (A : Option Addr) (n c : Nat) (l : List It) (w : World) (hr : Reads w w.heap.size 9 A n (itms l)) (hok : ∀ x ∈ l, x.ok) (hlen : (itemsB l).length ≤ 140737488350000) (hn : n ≤ 9223372036854775807) :
    Calls Try.prog 5 #[.slice A n c] w fun e w' => e = .returned (.bool true) ∧ Below w.heap.size w w' := by
  have hla : ∀ w', Below w.heap.size w w' → _ := fun w' (h : Below w.heap.size w w') => laid_any A n c l w' ((hr.below h).more h.size) hok (by omega) hn
  have hT : textB { data := #[120] } = [1, 120] := by rfl
  have hS : strOf [1, 120] = { data := #[1, 120] } := by rfl
  go_enter Try.func5, Try.ntmps5
  go_wp2_with (first | (go_at_call 22; (with_reducible refine (hla _ (Below.refl _ _)).mono ?_); rintro e w1 ⟨u1, v1, rfl, hu1, hv1, hb1⟩; have hs1 := hb1.size) | (go_at_call 23; (with_reducible refine (new_any _).mono ?_); rintro e w2 ⟨rfl, hw2, hb2⟩; have hb02 := hb1.trans (hb2.mono hs1); have hs2 := hb02.size) | (go_at_call 24; (with_reducible refine (text_any _ _ _ _ _ _ hw2 (by decide)).mono ?_); rintro e w3 ⟨rfl, v3, hw3, hg3⟩; have hb3 := hg3.below hw2) | (go_at_call 25; (with_reducible refine (bytes_any _ _ _ _ _ hw3 (by decide)).mono ?_); rintro e w4 ⟨u4, rfl, hu4, hb4⟩; rw [hT, List.nil_append] at hu4 hw3; obtain ⟨g, cap, rfl, hgl, hgb, hcap, hcapm, -⟩ := hu4.at_ (by decide)))
  obtain ⟨cs, hBg, hcs⟩ : ∃ cs : Array Value, Blk w4 g 5 cs ∧ 2 ≤ cs.size := by
    rcases hu4.2 with ⟨e, _⟩ | ⟨g', cap', cur, e, _, h3, h4, _, h6, _⟩
    · cases e
    · cases e
      exact ⟨cur, h3, by simp at h4; omega⟩
  have hs3 := hb3.size
  have hs4 := hb4.size
  go_loopw [20] (fun vi wr => ∃ (j : Nat) (cs : Array Value), j ≤ 2 ∧ vi = .int .i64 (j : Int) ∧ Blk wr g 5 cs ∧ 2 ≤ cs.size ∧ Below w3.heap.size w3 wr) (fun vi _ => ((2 : Int) - intOf vi).toNat)
  case atStart => exact ⟨0, cs, by omega, rfl, hBg, hcs, hb4⟩
  case round =>
    clear hBg hcs
    obtain ⟨j, cs, hj, rfl, hBg, hcs, hbr⟩ := hrel
    obtain ⟨wo, rfl⟩ : ∃ wo : World, wo = wr := ⟨_, rfl⟩
    have hfr := Blk.frozen hBg
    have hlg := Blk.lt hBg
    by_cases hlt : j < 2
    · obtain ⟨x0, hx0⟩ : ∃ x0, wo.cell? ⟨g, j, none⟩ = some x0 := by
        rw [Blk.cell hBg]
        exact ⟨_, Array.getElem?_eq_getElem (by omega)⟩
      have hB2 := Blk.set_ hBg j (.int .u8 9)
      have hlj : (j : Int) < 2 := by omega
      have hjc : j < cap := by simp at hcap; omega
      go_wp2
      go_roundw
      case rel => exact ⟨j + 1, _, by omega, by go_num, hB2, by simpa using hcs, hbr.setCell (by omega) _⟩
      case measure => simp [intOf]; omega
    · obtain rfl : j = 2 := by omega
      have hb0r : Below w1.heap.size w1 wo := (hb2.trans hb3).trans (hbr.mono (by have := hb2.size; omega))
      have hu1' := hu1.below hb0r
      have hv1' := hv1.below hb0r
      have hwr := hw3.below hbr
      have hb00 := hb1.trans (hb0r.mono hs1)
      obtain ⟨A1, n1, k1, rfl⟩ := hu1.shape
      obtain ⟨A2, n2, k2, rfl⟩ := hv1.shape

      go_wp2_with (first | (go_at_call 26; (with_reducible refine (wawake_any _).mono ?_); rintro e w5 ⟨rfl, hb5⟩; have hq1 := Row.conv (P := Try.prog) (hu1'.below hb5) Try.underlying23 Try.underlying5 Try.underlying9; have hq2 := Row.conv (P := Try.prog) (hv1'.below hb5) Try.underlying23 Try.underlying5 Try.underlying9; have hwr5 := hwr.below hb5) | (go_at_call 25; (with_reducible refine (bytes_any _ _ _ _ _ hwr5 (by decide)).mono ?_); rintro e w6 ⟨u6, rfl, hu6, hb6⟩; obtain ⟨A6, n6, k6, rfl⟩ := hu6.shape; have hq6 := Row.conv (P := Try.prog) hu6 Try.underlying23 Try.underlying5 Try.underlying9; rw [hS] at hq6))
      go_ret
      exact ⟨rfl, (hb00.trans (hb5.mono hb00.size)).trans (hb6.mono (Nat.le_trans hb00.size hb5.size))⟩
section
open Go.ChangeShapes Go.WideShapes Go.ChangeAt
variable {H : Type} {enc : TypeId × Value → H}
set_option maxRecDepth 100000 in
theorem wireLays_walk : LawWalkU enc Try.prog 5 Try.f5 Rows.uptoSmall := by
  intro W base args ds ps hval hA hlt _ hk hs
  rw [Try.params5] at hA hval hs
  obtain ⟨v0, d0, rfl, rfl, h0⟩ := trodAll_one hA
  obtain ⟨A, n, c, l, rfl, hnc, hcm, hr, hl, hb⟩ := items_open (hval 0 _ v0 rfl rfl) h0
  have hk' := bulk_bound hk
  simp only [Rows.uptoBulkAll] at hk'
  exact law_wireLays A n c l W hr hl (by omega) (by unfold maxLen at hcm; omega)
set_option maxRecDepth 100000 in
theorem wireLays_lifted (os : Os) (started : os.Started) (H : Type) (enc : TypeId × Value → H) (F : Stop.Interp) :
    ReturnsInHanded {} Try.checked os 5 .any ((Rows.OpenSpec.upto Rows.wireLaysSpec).pre6 enc Try.prog Try.f5 Rows.wireLaysUptoRow.domain false) (((Rows.OpenSpec.upto Rows.wireLaysSpec).at F).post enc Try.prog Try.f5 false true false false) :=
  law_lifted_upto (C := Try.checked) (s := Rows.OpenSpec.upto Rows.wireLaysSpec) (s0 := Rows.wireLaysSpec) (k := Rows.uptoSmall) rfl rfl own started (by kernel_rfl) Try.func5 laidOut (by kernel_rfl) rfl Try.underlying4 rfl rfl rfl
    (fun ds h => by obtain ⟨d0, rfl⟩ := list1 h; rfl)
    (OpenSpec.witness (enc := enc) (C := Try.checked) (s := Rows.OpenSpec.upto Rows.wireLaysSpec) (k := Rows.uptoSmall) rfl false ⟨#[], #[.slice none 0 0], []⟩ 8 (by kernel_rfl) (by kernel_rfl) (by kernel_rfl)
      (x := ([.nil], [], [])) (by kernel_rfl) rfl (by kernel_rfl))
    wireLays_walk
theorem wireLays_holds : Rows.WireLaysUptoSaid :=
  OpenClaim.holds_of_cond 5 Try.f5 rfl rfl rfl rfl rfl rfl rfl ⟨rfl, rfl, rfl, rfl, rfl⟩ rfl rfl rfl rfl rfl (by kernel_rfl) Try.func5 (by kernel_rfl)
    (of_decide_eq_true (by kernel_rfl)) (by unfold Func.isWrapper; rw [if_neg (of_decide_eq_false (by kernel_rfl))]; exact ⟨rfl, rfl⟩)
    (fun os started H enc _ F => wireLays_lifted os started H enc F)
#print axioms wireLays_holds
end
end Go.Proofs.Ythajbeooemngpaa
