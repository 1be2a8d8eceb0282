import Derived.Test.YtacnfcolkllagaaDoorRp
import Derived.WalkSpells
import Derived.WalkLawsBesides
import Derived.Lib.ItoaLen
/-! A stamp's text: the program's, the document's. -/
namespace Go.Proofs.YtacnfcolkllagaaDoor
open Go.RowKit
set_option linter.unusedVariables false
set_option linter.unusedSimpArgs false
theorem Sx.more {w W : World} (h : Sx w) (hb : Below w.heap.size w W) (X : Ext) : Sx (W.ext X) := h.below (hb.trans ((World.below_ext W X).mono hb.size))
/-- A stamp's text. -/
def txt (a : Int) (b c : Nat) : ByteArray := (⟨(Lib.itoa a).toArray⟩ : ByteArray) ++ ⟨#[46]⟩ ++ ⟨(Lib.decDigits b).toArray⟩ ++ ⟨#[46]⟩ ++ ⟨(Lib.decDigits c).toArray⟩
theorem itoaB {a : Int} (h0 : -9223372036854775808 ≤ a) (h1 : a ≤ 9223372036854775807) : (⟨(Lib.itoa a).toArray⟩ : ByteArray).size ≤ 21 := by
  rw [Lib.size_eq]; simpa using Lib.itoa_length_le a h0 h1
theorem decB {u : Nat} (h : u < 18446744073709551616) : (⟨(Lib.decDigits u).toArray⟩ : ByteArray).size ≤ 20 := by
  rw [Lib.size_eq]; simpa using nd20 h
set_option maxRecDepth 100000 in
set_option maxHeartbeats 4000000 in
theorem text9_any (a : Int) (b c : Nat) (h0 : -9223372036854775808 ≤ a) (h1 : a ≤ 9223372036854775807) (hb : b < 4294967296) (hc : c < 4294967296) (w : World) (hx : Sx w) :
    Calls Tryd.prog 4 #[.agg #[.int .i64 a, .int .u32 (b : Int), .int .u32 (c : Int)]] w fun e w' => e = .returned (.string (txt a b c)) ∧ Below w.heap.size w w' := by
  have hT : ∃ t, txt a b c = t := ⟨_, rfl⟩
  obtain ⟨t, ht⟩ := hT
  rw [ht]
  have s1 := itoaB h0 h1
  have s2 := decB (u := b) (by omega)
  have s3 := decB (u := c) (by omega)
  have F1 : ∀ W, Sx W → Calls Tryd.prog 11 #[.int .i64 a, .int .i64 10] W fun e w' => e = .returned (.string ⟨(Lib.itoa a).toArray⟩) ∧ Below W.heap.size W w' := fun W hW =>
    (Tryd.strconv_FormatInt_10 a h0 h1 W hW.tab).mono fun e w' ⟨he, k, os, hk⟩ => ⟨he, hk ▸ grow_below W k os⟩
  have F2 : ∀ W, Sx W → Calls Tryd.prog 12 #[.int .u64 (b : Int), .int .i64 10] W fun e w' => e = .returned (.string ⟨(Lib.decDigits b).toArray⟩) ∧ Below W.heap.size W w' := fun W hW => fmtU_any b (by omega) W hW.tab
  have F3 : ∀ W, Sx W → Calls Tryd.prog 12 #[.int .u64 (c : Int), .int .i64 10] W fun e w' => e = .returned (.string ⟨(Lib.decDigits c).toArray⟩) ∧ Below W.heap.size W w' := fun W hW => fmtU_any c (by omega) W hW.tab
  unfold txt at ht
  generalize (⟨(Lib.itoa a).toArray⟩ : ByteArray) = x1 at *
  generalize hx2 : (⟨(Lib.decDigits b).toArray⟩ : ByteArray) = x2 at *
  generalize hx3 : (⟨(Lib.decDigits c).toArray⟩ : ByteArray) = x3 at *
  have v1 : IntKind.u64.wrap (b : Int) = b := by rw [IntKind.wrap_u64]; omega
  have v2 : IntKind.u64.wrap (c : Int) = c := by rw [IntKind.wrap_u64]; omega
  have g1 : ¬ (9223372036854775807 < x1.size + 1) := by omega
  have g2 : ¬ (9223372036854775807 < x1.size + 1 + x2.size) := by omega
  have g3 : ¬ (9223372036854775807 < x1.size + 1 + x2.size + 1) := by omega
  have g4 : ¬ (9223372036854775807 < x1.size + 1 + x2.size + 1 + x3.size) := by omega
  have HT := hide ht
  clear ht hx2 hx3 s1 s2 s3 h0 h1 hb hc
  go_enter Tryd.func4, Tryd.ntmps4
  go_wp2
  have hw : ∀ X, Sx ((w.alloc (.cells #[.int .i64 a, .int .u32 b, .int .u32 c] 26)).ext X) := fun X => hx.more (by (repeat' (first | with_reducible exact Below.refl _ _ | with_reducible refine Below.ext ?_ ?_ _ | with_reducible refine Below.alloc ?_ ?_ _ | with_reducible refine Below.setCell ?_ ?_ _ | with_reducible refine Below.drew ?_ | with_reducible assumption | (simp [World.size_ext]; done) | (simp [World.size_ext]; omega)))) X
  refine wp_region_ext_lit (by kernel_rfl) (by kernel_rfl) ?_
  (repeat (first | ((with_reducible refine wpQuiet_step (fun K hK => ?_)); go_simp; first | ((with_reducible refine hK _ ?_); clear hK K) | (apply Exists.intro; (with_reducible refine ⟨fun _ => ?_, hK _ ?_⟩); first | (go_at_call 11; exact Calls.ext_of (F1 _ (hw _))) | (go_at_call 12; exact Calls.ext_of (F2 _ (hw _))) | (go_at_call 12; exact Calls.ext_of (F3 _ (hw _))); clear hK K)) | ((with_reducible refine quiet_skipN ?_ (fun K hK => ?_)); (rfl); go_simp; (with_reducible refine hK _ ?_); clear hK K)))
  (with_reducible refine wpQuiet_nil ?_); intro _ hw'; obtain ⟨X, hw''⟩ := hw'; subst hw''
  go_wp2
  refine bodyPost_ret (v := .string t) (by rw [← HT.out]; simp [results, Tryd.results4, go_sem] <;> rfl) rfl ⟨rfl, by (repeat' (first | with_reducible exact Below.refl _ _ | with_reducible refine Below.ext ?_ ?_ _ | with_reducible refine Below.alloc ?_ ?_ _ | with_reducible refine Below.setCell ?_ ?_ _ | with_reducible refine Below.drew ?_ | with_reducible assumption | (simp [World.size_ext]; done) | (simp [World.size_ext]; omega)))⟩
end Go.Proofs.YtacnfcolkllagaaDoor
