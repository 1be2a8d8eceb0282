import Derived.Test.YtmfbidhnafpkdaaLo
import Derived.Test.YtmfbidhnafpkdaaBulk
/-! LabelQuotes: any text as a value is written, and the value with which any text begins, are the document's; what was written is read back, whatever stands behind. Of texts that are together of at most 1048576 bytes. -/
namespace Go.Proofs.Ytmfbidhnafpkdaa
open Go.RowKit
set_option linter.unusedVariables false
set_option linter.unusedSimpArgs false
theorem uq_back : ∀ (l acc t : List UInt8) (k : Nat), uqF false (qB l ++ 34 :: t) acc k = some (acc ++ l, k + (qB l).length + 1)
  | [], acc, t, k => by simp [qB, uqF]
  | x :: l, acc, t, k => by
    have hq : qB (x :: l) = esc x ++ qB l := by simp [qB]
    rw [hq]
    by_cases hx : x = 34 ∨ x = 92
    · have he : esc x = [92, x] := by unfold esc; rw [if_pos hx]
      rw [he]
      simp only [List.cons_append, List.nil_append, uqF]
      rw [if_neg (by decide), if_pos trivial, if_pos hx, uq_back l]
      simp
      omega
    · have he : esc x = [x] := by unfold esc; rw [if_neg hx]
      rw [he]
      simp only [List.cons_append, List.nil_append, uqF]
      rw [if_neg (fun e => hx (.inl e)), if_neg (fun e => hx (.inr e)), uq_back l]
      simp
      omega
theorem uqL_back (l t : List UInt8) : uqL (qL l ++ t) = some (l, (qL l).length) := by
  simp only [qL, List.cons_append, List.append_assoc, List.nil_append]
  rw [uqL_cons, if_pos rfl, uqS, uq_back]
  simp
  omega
set_option maxRecDepth 100000 in
set_option maxHeartbeats 16000000 in
theorem law_quotes (s t : ByteArray) (hs : s.size ≤ 1048576) (ht : t.size ≤ 1048576) (w : World) :
    Calls Try.prog 5 #[.string s, .string t] w fun e w' => e = .returned (.bool true) ∧ Below w.heap.size w w' := by
  have h1 := fun w => pquote_any s (by omega) w
  have h2 := fun w => punq_any t (by omega) w
  have h3 := fun w => runq_any t (by omega) w
  have h5 := fun w => rquote_any s (by omega) w
  have hlen : (qL s.data.toList).length ≤ 2097154 := by
    have := qB_len s.data.toList
    have := Lib.size_eq s
    simp only [qL, List.length_cons, List.length_append, List.length_nil]
    omega
  have hcs : ¬ (9223372036854775807 < (qL s.data.toList).length + t.size) := by omega
  have h4 := fun w => punq_any ((⟨(qL s.data.toList).toArray⟩ : ByteArray) ++ t) (by rw [ByteArray.size_append]; show (qL s.data.toList).toArray.size + t.size ≤ _; simp; omega) w
  have e4 : ((⟨(qL s.data.toList).toArray⟩ : ByteArray) ++ t).data.toList = qL s.data.toList ++ t.data.toList := by rw [ba_append]
  rw [e4, uqL_back] at h4
  have e5 : uqT (some (s.data.toList, (qL s.data.toList).length)) = s := by
    show (⟨s.data.toList.toArray⟩ : ByteArray) = s
    exact Lib.mk_data s
  rw [e5] at h4
  have e6 : uqN (some (s.data.toList, (qL s.data.toList).length)) = (qL s.data.toList).length := rfl
  rw [e6] at h4
  generalize uqT (uqL t.data.toList) = ut at *
  generalize uqN (uqL t.data.toList) = un at *
  generalize qL s.data.toList = qs at *
  clear e4 e5 e6 hs ht
  go_enter Try.func5, Try.ntmps5
  go_wp2_with (first
    | (go_at_call 24; (with_reducible refine (h1 _).mono ?_); rintro e w1 ⟨rfl, hb1⟩)
    | (go_at_call 25; (with_reducible refine (h2 _).mono ?_); rintro e w2 ⟨rfl, hb2⟩; have hb02 := hb1.trans (hb2.mono hb1.size))
    | (go_at_call 26; (with_reducible refine (h3 _).mono ?_); rintro e w3 ⟨rfl, hb3⟩; have hb03 := hb02.trans (hb3.mono hb02.size))
    | (go_at_call 25; (with_reducible refine (h4 _).mono ?_); rintro e w4 ⟨rfl, hb4⟩; have hb04 := hb03.trans (hb4.mono hb03.size))
    | (go_at_call 10; (with_reducible refine (lawake_any _).mono ?_); rintro e w5 ⟨rfl, hb5⟩; have hb05 := hb04.trans (hb5.mono hb04.size))
    | (go_at_call 27; (with_reducible refine (h5 _).mono ?_); rintro e w6 ⟨rfl, hb6⟩; have hb06 := hb05.trans (hb6.mono hb05.size)))
  go_ret
  exact ⟨rfl, hb06⟩
section
open Go.ChangeShapes Go.WideShapes Go.ChangeAt Go.Joins
variable {H : Type} {enc : TypeId × Value → H}
theorem str_open2 {W : World} {base : Nat} {d : DataW H} {p : List MemPlace} {v : Value} {sp : Nat → Bool} (hv : Value.okWide Try.prog W .any base 9 v) (h : DataW.Trod enc Try.prog W 0 sp true 9 v d p) : ∃ s : ByteArray, v = .string s ∧ s.size ≤ maxLen ∧ d = .lit (.string s.data.toList) := by
  obtain ⟨s, rfl⟩ := okWide_string Try.underlying9 hv
  obtain ⟨fuel, hf⟩ := h
  obtain ⟨a, e, hx, w⟩ := DataW.trod_string Try.underlying9 hf
  simp [Value.cells] at e
  subst e
  exact ⟨_, rfl, w, congrArg Prod.fst hx⟩
set_option maxRecDepth 100000 in
theorem labelQuotes_walk : LawWalkU enc Try.prog 5 Try.f5 Rows.uptoSmall := by
  intro W base args ds ps hval hA hlt _ hk hs
  rw [Try.params5] at hA hval hs
  obtain ⟨v0, v1, d0, d1, p0, p1, rfl, rfl, rfl, h0, h1⟩ := trodAll_two hA
  obtain ⟨s, rfl, _, rfl⟩ := str_open2 (hval 0 _ v0 rfl rfl) h0
  obtain ⟨t, rfl, _, rfl⟩ := str_open2 (hval 1 _ v1 rfl rfl) h1
  have hk' := bulk_bound hk
  simp only [Rows.uptoBulkAll, bulk_string] at hk'
  have e1 := Lib.size_eq s
  have e2 := Lib.size_eq t
  exact law_quotes s t (by omega) (by omega) W
set_option maxRecDepth 100000 in
theorem labelQuotes_lifted (os : Os) (started : os.Started) (H : Type) (enc : TypeId × Value → H) (F : Stop.Interp) :
    ReturnsInHanded {} Try.checked os 5 .any ((Rows.OpenSpec.upto Rows.labelQuotesSpec).pre6 enc Try.prog Try.f5 Rows.labelQuotesUptoRow.domain false) (((Rows.OpenSpec.upto Rows.labelQuotesSpec).at F).post enc Try.prog Try.f5 false true false false) :=
  law_lifted_upto (C := Try.checked) (s := Rows.OpenSpec.upto Rows.labelQuotesSpec) (s0 := Rows.labelQuotesSpec) (k := Rows.uptoSmall) rfl rfl own started (by kernel_rfl) Try.func5 laidOut (by kernel_rfl) rfl Try.underlying4 rfl rfl rfl
    (fun ds h => by obtain ⟨d0, d1, rfl⟩ := list2 h; rfl)
    (OpenSpec.witness (enc := enc) (C := Try.checked) (s := Rows.OpenSpec.upto Rows.labelQuotesSpec) (k := Rows.uptoSmall) rfl false ⟨#[], #[.string ⟨#[]⟩, .string ⟨#[]⟩], []⟩ 8 (by kernel_rfl) (by kernel_rfl) (by kernel_rfl)
      (x := ([.lit (.string []), .lit (.string [])], [], [])) (by kernel_rfl) rfl (by kernel_rfl))
    labelQuotes_walk
theorem labelQuotes_holds : Rows.LabelQuotesUptoSaid :=
  OpenClaim.holds_of_cond 5 Try.f5 rfl rfl rfl rfl rfl rfl rfl ⟨rfl, rfl, rfl, rfl, rfl⟩ rfl rfl rfl rfl rfl (by kernel_rfl) Try.func5 (by kernel_rfl)
    (of_decide_eq_true (by kernel_rfl)) (by unfold Func.isWrapper; rw [if_neg (of_decide_eq_false (by kernel_rfl))]; exact ⟨rfl, rfl⟩)
    (fun os started H enc _ F => labelQuotes_lifted os started H enc F)
#print axioms labelQuotes_holds
end
end Go.Proofs.Ytmfbidhnafpkdaa
