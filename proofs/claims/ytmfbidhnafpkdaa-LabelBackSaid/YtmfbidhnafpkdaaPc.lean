import Derived.Test.YtmfbidhnafpkdaaPs
/-! A text cut at its first '='. -/
namespace Go.Proofs.Ytmfbidhnafpkdaa
open Go.RowKit
set_option linter.unusedVariables false
set_option linter.unusedSimpArgs false
def cutE (l : List UInt8) : ByteArray × ByteArray × Bool := match fE l with
  | some i => (⟨(l.take i).toArray⟩, ⟨(l.drop (i + 1)).toArray⟩, true)
  | none => (⟨l.toArray⟩, ⟨#[]⟩, false)
set_option maxRecDepth 100000 in
set_option maxHeartbeats 2000000 in
theorem scut_any (s : ByteArray) (hs : s.size ≤ 140737488355328) (w : World) :
    Calls Try.prog 48 #[.string s, .string ⟨#[61]⟩] w fun e w' => e = .returned (.tuple #[.string (cutE s.data.toList).1, .string (cutE s.data.toList).2.1, .bool (cutE s.data.toList).2.2]) ∧ Below w.heap.size w w' := by
  have hI := fun w => Try.stringslite_Index_one s 61 w
  rw [fE_index] at hI
  have hmk := Lib.mk_data s
  unfold cutE
  cases hf : fE s.data.toList with
  | none =>
    rw [hf] at hI
    dsimp only at hI ⊢
    rw [hmk]
    clear hf hmk
    go_enter Try.func48, Try.ntmps48
    go_wp2_with (go_at_call 55; (with_reducible refine (hI _).mono ?_); rintro e w1 ⟨rfl, rfl⟩)
    refine bodyPost_ret (v := .tuple #[.string s, .string ⟨#[]⟩, .bool false]) (by simp [results, Try.results48, go_sem] <;> rfl) rfl ⟨rfl, Below.refl _ _⟩
  | some i =>
    rw [hf] at hI
    dsimp only at hI ⊢
    obtain ⟨h1, h2, h3⟩ := fE_some hf
    have hlt : i < s.size := by rw [Lib.size_eq]; exact h1
    have e1 : s.extract 0 i = ⟨(s.data.toList.take i).toArray⟩ := by rw [Lib.extract_eq]; simp
    have e2 : s.extract (i + 1) s.size = ⟨(s.data.toList.drop (i + 1)).toArray⟩ := by
      rw [Lib.extract_eq]
      congr 2
      rw [Lib.size_eq, List.take_of_length_le (by rw [List.length_drop]; omega)]
    have i1 : (0 : Int) ≤ (i : Int) + 1 := by omega
    have i2 : (i : Int) + 1 ≤ s.size := by omega
    have i3 : (i : Int) ≤ s.size := by omega
    have i4 : IntKind.i64.wrap ((i : Int) + 1) = (i : Int) + 1 := by rw [IntKind.wrap_i64]; omega
    have i5 : ((i : Int) + 1).toNat = i + 1 := by omega
    have H := hide (⟨e1, e2⟩ : _ ∧ _)
    clear hf hmk h1 h2 h3 e1 e2
    go_enter Try.func48, Try.ntmps48
    go_wp2_with (go_at_call 55; (with_reducible refine (hI _).mono ?_); rintro e w1 ⟨rfl, rfl⟩)
    refine First.wp_region_first_ext [2, 8] [0, 1, 3, 4, 5, 6, 7] [(true, false, 0), (true, false, 1), (true, true, 2), (true, false, 3), (true, false, 4), (true, false, 5), (true, false, 6), (true, false, 7), (true, true, 8), (false, true, 9), (false, false, 10), (false, false, 11)] (by kernel_rfl) (by kernel_rfl) (fun X => ?_); simp only [List.map_cons, List.map_nil, List.getD_cons_zero, List.getD_cons_succ]
    (repeat (first | (refine First.wpF_pure (fun K hK => ?_); go_simp; first | (refine hK _ _ ?_; clear hK K) | (apply Exists.intro; refine ⟨fun _ => ?_, hK _ _ ?_⟩; fail)) | (refine First.wpF_free (fun K hK => ?_); go_simp; first | (refine hK _ _ ?_; clear hK K))))
    (repeat (refine First.wpF_must (fun K hK => ?_); go_wp2; (refine hK _ _ (fun hnd => by first | exact Bool.noConfusion hnd | assumption | with_reducible exact grown_alloc _ _ | with_reducible exact First.Grown.refl _ | with_reducible exact First.Grown.cat _ _ _ | with_reducible exact First.Grown.ext _ _) ?_; clear hK K)))
    refine First.wpF_nil ?_
    go_wp2
    refine bodyPost_ret (v := .tuple #[.string (s.extract 0 i), .string (s.extract (i + 1) s.size), .bool true]) (by simp [results, Try.results48, go_sem] <;> rfl) rfl ⟨?_, World.below_ext _ _⟩
    rw [H.out.1, H.out.2]
theorem pcut_any (s : ByteArray) (hs : s.size ≤ 140737488355328) (w : World) :
    Calls Try.prog 43 #[.string s, .string ⟨#[61]⟩] w fun e w' => e = .returned (.tuple #[.string (cutE s.data.toList).1, .string (cutE s.data.toList).2.1, .bool (cutE s.data.toList).2.2]) ∧ Below w.heap.size w w' := by
  have h := fun w => scut_any s hs w
  generalize (cutE s.data.toList).1 = a at *
  generalize (cutE s.data.toList).2.1 = b at *
  generalize (cutE s.data.toList).2.2 = c at *
  go_enter Try.func43, Try.ntmps43
  go_wp2_with (go_at_call 48; (with_reducible refine (h _).mono ?_); rintro e w1 ⟨rfl, hb⟩)
  refine bodyPost_ret (v := .tuple #[.string a, .string b, .bool c]) (by simp [results, Try.results43, go_sem] <;> rfl) rfl ⟨rfl, hb⟩
end Go.Proofs.Ytmfbidhnafpkdaa
