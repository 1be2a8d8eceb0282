import Derived.Test.YthajbeooemngpaaPackBack
import Derived.Test.YthajbeooemngpaaIn
/-! The law: what was packed is unpacked as it was; bytes that are unpacked are packed again as they were. -/
namespace Go.Proofs.Ythajbeooemngpaa
open Go.RowKit
set_option linter.unusedVariables false
set_option linter.unusedSimpArgs false
theorem ppack_yes (A : Option Addr) (n c : Nat) (l : List (Int × Int)) (w : World) (hr : Reads w w.heap.size 2 A n (smps l)) (h64 : I64s l) (hn : n * 16 ≤ 140737488355328) (hf : fineP l = true) :
    Calls Try.prog 15 #[.slice A n c] w fun e w' => ∃ u, e = .returned (.tuple #[u, .int .i64 0]) ∧ Row w' w.heap.size u (packB l n) ∧ Below w.heap.size w w' := by
  refine (ppack_any A n c l w hr h64 hn).mono ?_
  rintro e w' ⟨⟨_, u, h1, h2⟩ | ⟨h, _⟩, hb⟩
  · exact ⟨u, h1, h2, hb⟩
  · rw [hf] at h; cases h
theorem ppack_no (A : Option Addr) (n c : Nat) (l : List (Int × Int)) (w : World) (hr : Reads w w.heap.size 2 A n (smps l)) (h64 : I64s l) (hn : n * 16 ≤ 140737488355328) (hf : fineP l = false) :
    Calls Try.prog 15 #[.slice A n c] w fun e w' => e = .returned (.tuple #[.slice none 0 0, .int .i64 1]) ∧ Below w.heap.size w w' := by
  refine (ppack_any A n c l w hr h64 hn).mono ?_
  rintro e w' ⟨⟨h, _⟩ | ⟨_, h⟩, hb⟩
  · rw [hf] at h; cases h
  · exact ⟨h, hb⟩
theorem unpack_yes (A : Option Addr) (c : Nat) (b : List Nat) (l : List (Int × Int)) (w : World) (hr : Reads w w.heap.size 1 A b.length (u8s b)) (hx : ∀ x ∈ b, x < 256) (hnil : A = none → c = 0) (hlen : b.length ≤ 140737488355328) (h : unpackP b = some l) :
    Calls Try.prog 42 #[.slice A b.length c] w fun e w' => ∃ v, e = .returned (.tuple #[v, .int .i64 0]) ∧ w'.ownsRow w.heap.size 36 2 v l.length (smps l) ∧ Below w.heap.size w w' := by
  refine (unpack_any A c b w hr hx hnil hlen).mono ?_
  rintro e w' ⟨⟨l', h1, _, v, h2, h3⟩ | ⟨h1, _⟩, hb⟩
  · rw [h] at h1
    injection h1 with h1
    subst h1
    exact ⟨v, h2, h3, hb⟩
  · rw [h] at h1; cases h1
theorem unpack_no (A : Option Addr) (c : Nat) (b : List Nat) (w : World) (hr : Reads w w.heap.size 1 A b.length (u8s b)) (hx : ∀ x ∈ b, x < 256) (hnil : A = none → c = 0) (hlen : b.length ≤ 140737488355328) (h : unpackP b = none) :
    Calls Try.prog 42 #[.slice A b.length c] w fun e w' => ∃ er : Int, er ≠ 0 ∧ e = .returned (.tuple #[.slice none 0 0, .int .i64 er]) ∧ Below w.heap.size w w' := by
  refine (unpack_any A c b w hr hx hnil hlen).mono ?_
  rintro e w' ⟨⟨l', h1, _⟩ | ⟨_, er, h1, h2⟩, hb⟩
  · rw [h] at h1; cases h1
  · exact ⟨er, h1, h2, hb⟩
set_option maxRecDepth 100000 in
set_option maxHeartbeats 8000000 in
theorem law_packBack (A : Option Addr) (n c : Nat) (l : List (Int × Int)) (Ab : Option Addr) (cb : Nat) (bs : List Nat) (w : World) (hr : Reads w w.heap.size 2 A n (smps l)) (h64 : I64s l) (hn : n * 16 ≤ 140737488355328)
    (hrb0 : Reads w w.heap.size 1 Ab bs.length (u8s bs)) (hby : ∀ x ∈ bs, x < 256) (hnil : Ab = none → cb = 0) (hlen : bs.length ≤ 140737488355328) :
    Calls Try.prog 10 #[.slice A n c, .slice Ab bs.length cb] w fun e w' => e = .returned (.bool true) ∧ Below w.heap.size w w' := by
  have hl : l.length = n := by have := hr.1; rw [smps_length] at this; omega
  subst hl
  have hto : ∀ w', Below w.heap.size w w' → Calls Try.prog 16 #[.slice A l.length c] w' fun e w'' => ∃ v, e = .returned v ∧ w''.ownsRow w'.heap.size 36 2 v l.length (smps l) ∧ Below w'.heap.size w' w'' := fun w' h => to_any A l.length c l w' ((hr.below h).more h.size) hn
  have hrl : ∀ w', Below w.heap.size w w' → Reads w' w'.heap.size 2 A l.length (smps l) := fun w' h => (hr.below h).more h.size
  have hrb : ∀ w', Below w.heap.size w w' → Reads w' w'.heap.size 1 Ab bs.length (u8s bs) := fun w' h => (hrb0.below h).more h.size
  clear hr hrb0
  by_cases hf : fineP l = true
  · have hnl : l.length * 16 ≤ 140737488355328 := hn
    have hl65 : l.length ≤ 65536 := by unfold fineP at hf; simp at hf; exact hf.1
    have hg : goodP l = true := by unfold fineP at hf; simp at hf; exact hf.2
    have hby2 := packB_bytes hf
    have hlen2 : (packB l l.length).length ≤ 140737488355328 := by have := packB_length l (by omega) hg l.length (Nat.le_refl _); omega
    have hup := unpackP_packed hf h64
    cases hub : unpackP bs with
    | none =>
      go_enter Try.func10, Try.ntmps10
      go_wp2_with (first | (go_at_call 43; (with_reducible refine (psame_any _ _ _ _ _ _ _ hq4 (hrl _ (((hb1.trans (hb2.mono hb1.size)).trans (hb3.mono (Nat.le_trans hb1.size hb2.size))).trans (hb4.mono (Nat.le_trans (Nat.le_trans hb1.size hb2.size) hb3.size)))) hnl).mono ?_); rintro e w5 ⟨rfl, hb5⟩; have hb05 := (((hb1.trans (hb2.mono hb1.size)).trans (hb3.mono (Nat.le_trans hb1.size hb2.size))).trans (hb4.mono (Nat.le_trans (Nat.le_trans hb1.size hb2.size) hb3.size))).trans (hb5.mono (Nat.le_trans (Nat.le_trans (Nat.le_trans hb1.size hb2.size) hb3.size) hb4.size))) | (go_at_call 44; (with_reducible refine (pfrom_any _ _ _ _ _ hq3 hnl).mono ?_); rintro e w4 ⟨v4, rfl, hu4, hb4⟩; obtain ⟨A4, c4, rfl, hc4⟩ := own_slice hu4; have hq4 := Reads.of_own hu4) | (go_at_call 42; (with_reducible refine (unpack_no _ _ _ _ (hrb _ hb05) hby hnil hlen hub).mono ?_); rintro e w6 ⟨er, her, rfl, hb6⟩; have her' := beq_false_of_ne her; have hb06 := hb05.trans (hb6.mono hb05.size)) | (go_at_call 42; (with_reducible refine (unpack_yes _ _ _ _ _ hr2 hby2 hnil2 hlen2 hup).mono ?_); rintro e w3 ⟨v3, rfl, hu3, hb3⟩; obtain ⟨A3, c3, rfl, hc3⟩ := own_slice hu3; have hq3 := Reads.of_own hu3) | (go_at_call 15; (with_reducible refine (ppack_yes _ _ _ _ _ hq1 h64 hn hf).mono ?_); rintro e w2 ⟨u2, rfl, hu2, hb2⟩; obtain ⟨A2, c2, rfl, hc2, hm2, hnil2, hr2⟩ := hu2.slice) | (go_at_call 16; (with_reducible refine (hto _ (Below.refl _ _)).mono ?_); rintro e w1 ⟨v, rfl, ho, hb1⟩; obtain ⟨A1, cap1, rfl, hcap1⟩ := own_slice ho; have hq1 := Reads.of_own ho; clear ho) | (go_at_call 18; (with_reducible refine (pawake_any _).mono ?_); rintro e w8 ⟨rfl, hb8⟩))
      go_ret
      exact ⟨rfl, hb06.trans (hb8.mono hb06.size)⟩
    | some m =>
      obtain ⟨hmb, hmf⟩ := unpackP_canon hby hub
      have hm64 := unpackP_i64 hub
      have hml : m.length ≤ 65536 := by unfold fineP at hmf; simp at hmf; exact hmf.1
      have hmn : m.length * 16 ≤ 140737488355328 := by omega
      have hmb := hide hmb
      go_enter Try.func10, Try.ntmps10
      go_wp2_with (first | (go_at_call 43; (with_reducible refine (psame_any _ _ _ _ _ _ _ hq4 (hrl _ (((hb1.trans (hb2.mono hb1.size)).trans (hb3.mono (Nat.le_trans hb1.size hb2.size))).trans (hb4.mono (Nat.le_trans (Nat.le_trans hb1.size hb2.size) hb3.size)))) hnl).mono ?_); rintro e w5 ⟨rfl, hb5⟩; have hb05 := (((hb1.trans (hb2.mono hb1.size)).trans (hb3.mono (Nat.le_trans hb1.size hb2.size))).trans (hb4.mono (Nat.le_trans (Nat.le_trans hb1.size hb2.size) hb3.size))).trans (hb5.mono (Nat.le_trans (Nat.le_trans (Nat.le_trans hb1.size hb2.size) hb3.size) hb4.size))) | (go_at_call 44; (with_reducible refine (pfrom_any _ _ _ _ _ hq3 hnl).mono ?_); rintro e w4 ⟨v4, rfl, hu4, hb4⟩; obtain ⟨A4, c4, rfl, hc4⟩ := own_slice hu4; have hq4 := Reads.of_own hu4) | (go_at_call 15; (with_reducible refine (ppack_yes _ _ _ _ _ hq6 hm64 hmn hmf).mono ?_); rintro e w7 ⟨u7, rfl, hu7, hb7⟩; obtain ⟨A7, n7, c7, rfl⟩ := hu7.shape; have hcv := Row.conv (P := Try.prog) hu7 Try.underlying23 Try.underlying5 Try.underlying9; have hb07 := hb06.trans (hb7.mono hb06.size); have hcb := conv_bytes (P := Try.prog) (hrb _ hb07) Try.underlying23 Try.underlying5 Try.underlying9 cb; rw [hmb.out] at hcv) | (go_at_call 42; (with_reducible refine (unpack_yes _ _ _ _ _ (hrb _ hb05) hby hnil hlen hub).mono ?_); rintro e w6 ⟨v6, rfl, hu6, hb6⟩; obtain ⟨A6, c6, rfl, hc6⟩ := own_slice hu6; have hq6 := Reads.of_own hu6; have hb06 := hb05.trans (hb6.mono hb05.size)) | (go_at_call 42; (with_reducible refine (unpack_yes _ _ _ _ _ hr2 hby2 hnil2 hlen2 hup).mono ?_); rintro e w3 ⟨v3, rfl, hu3, hb3⟩; obtain ⟨A3, c3, rfl, hc3⟩ := own_slice hu3; have hq3 := Reads.of_own hu3) | (go_at_call 15; (with_reducible refine (ppack_yes _ _ _ _ _ hq1 h64 hn hf).mono ?_); rintro e w2 ⟨u2, rfl, hu2, hb2⟩; obtain ⟨A2, c2, rfl, hc2, hm2, hnil2, hr2⟩ := hu2.slice) | (go_at_call 16; (with_reducible refine (hto _ (Below.refl _ _)).mono ?_); rintro e w1 ⟨v, rfl, ho, hb1⟩; obtain ⟨A1, cap1, rfl, hcap1⟩ := own_slice ho; have hq1 := Reads.of_own ho; clear ho) | (go_at_call 18; (with_reducible refine (pawake_any _).mono ?_); rintro e w8 ⟨rfl, hb8⟩))
      go_ret
      exact ⟨rfl, hb07.trans (hb8.mono hb07.size)⟩
  · have hff : fineP l = false := by simpa using hf
    cases hub : unpackP bs with
    | none =>
      go_enter Try.func10, Try.ntmps10
      go_wp2_with (first | (go_at_call 42; (with_reducible refine (unpack_no _ _ _ _ (hrb _ hb05) hby hnil hlen hub).mono ?_); rintro e w6 ⟨er, her, rfl, hb6⟩; have her' := beq_false_of_ne her; have hb06 := hb05.trans (hb6.mono hb05.size)) | (go_at_call 15; (with_reducible refine (ppack_no _ _ _ _ _ hq1 h64 hn hff).mono ?_); rintro e w5 ⟨rfl, hb2⟩; have hb05 := hb1.trans (hb2.mono hb1.size)) | (go_at_call 16; (with_reducible refine (hto _ (Below.refl _ _)).mono ?_); rintro e w1 ⟨v, rfl, ho, hb1⟩; obtain ⟨A1, cap1, rfl, hcap1⟩ := own_slice ho; have hq1 := Reads.of_own ho; clear ho) | (go_at_call 18; (with_reducible refine (pawake_any _).mono ?_); rintro e w8 ⟨rfl, hb8⟩))
      go_ret
      exact ⟨rfl, hb06.trans (hb8.mono hb06.size)⟩
    | some m =>
      obtain ⟨hmb, hmf⟩ := unpackP_canon hby hub
      have hm64 := unpackP_i64 hub
      have hml : m.length ≤ 65536 := by unfold fineP at hmf; simp at hmf; exact hmf.1
      have hmn : m.length * 16 ≤ 140737488355328 := by omega
      have hmb := hide hmb
      go_enter Try.func10, Try.ntmps10
      go_wp2_with (first | (go_at_call 15; (with_reducible refine (ppack_yes _ _ _ _ _ hq6 hm64 hmn hmf).mono ?_); rintro e w7 ⟨u7, rfl, hu7, hb7⟩; obtain ⟨A7, n7, c7, rfl⟩ := hu7.shape; have hcv := Row.conv (P := Try.prog) hu7 Try.underlying23 Try.underlying5 Try.underlying9; have hb07 := hb06.trans (hb7.mono hb06.size); have hcb := conv_bytes (P := Try.prog) (hrb _ hb07) Try.underlying23 Try.underlying5 Try.underlying9 cb; rw [hmb.out] at hcv) | (go_at_call 42; (with_reducible refine (unpack_yes _ _ _ _ _ (hrb _ hb05) hby hnil hlen hub).mono ?_); rintro e w6 ⟨v6, rfl, hu6, hb6⟩; obtain ⟨A6, c6, rfl, hc6⟩ := own_slice hu6; have hq6 := Reads.of_own hu6; have hb06 := hb05.trans (hb6.mono hb05.size)) | (go_at_call 15; (with_reducible refine (ppack_no _ _ _ _ _ hq1 h64 hn hff).mono ?_); rintro e w5 ⟨rfl, hb2⟩; have hb05 := hb1.trans (hb2.mono hb1.size)) | (go_at_call 16; (with_reducible refine (hto _ (Below.refl _ _)).mono ?_); rintro e w1 ⟨v, rfl, ho, hb1⟩; obtain ⟨A1, cap1, rfl, hcap1⟩ := own_slice ho; have hq1 := Reads.of_own ho; clear ho) | (go_at_call 18; (with_reducible refine (pawake_any _).mono ?_); rintro e w8 ⟨rfl, hb8⟩))
      go_ret
      exact ⟨rfl, hb07.trans (hb8.mono hb07.size)⟩
section
open Go.ChangeShapes Go.WideShapes Go.ChangeAt
variable {H : Type} {enc : TypeId × Value → H}
set_option maxRecDepth 100000 in
theorem packBack_walk : LawWalkS enc Try.prog 10 Try.f10 := by
  intro W base args ds ps hval hA hlt _ hs
  rw [Try.params10] at hA hval hs
  obtain ⟨v0, v1, d0, d1, p0, p1, rfl, rfl, rfl, h0, h1⟩ := trodAll_two hA
  obtain ⟨A, n, c, l, rfl, hnc, hr, hl, hn⟩ := smps_open (hval 0 _ v0 rfl rfl) h0
  have hn' := bound_of hs (j := 0) rfl rfl hn
  obtain ⟨Ab, cb, bs, rfl, hbc, hrb, hby, hnil, hbd⟩ := bytes_open2 Try.underlying23 Try.underlying5 (by kernel_rfl) (hval 1 _ v1 rfl rfl) h1 (fun x hx => hlt x (by simp [hx]))
  have hbb := bytes_bound hs (j := 1) Try.underlying23 (by kernel_rfl) rfl rfl hbd
  exact law_packBack A n c l Ab cb bs W hr hl (by omega) hrb hby hnil (by omega)
set_option maxRecDepth 100000 in
theorem packBack_lifted (os : Os) (started : os.Started) (H : Type) (enc : TypeId × Value → H) :
    ReturnsInHanded {} Try.checked os 10 .any (Rows.packBackSpec.pre6 enc Try.prog Try.f10 Rows.packBackRow.domain false) (Rows.packBackSpec.post enc Try.prog Try.f10 false true false false) :=
  law_lifted_sized (C := Try.checked) own started (by kernel_rfl) Try.func10 laidOut (by kernel_rfl) rfl Try.underlying4 rfl rfl
    (fun ds h => by obtain ⟨d0, d1, rfl⟩ := list2 h; rfl)
    (ChangeSpec.witness6 (enc := enc) (C := Try.checked) false ⟨#[], #[.slice none 0 0, .slice none 0 0], []⟩ 8 (by kernel_rfl) (by kernel_rfl) (by kernel_rfl) (by kernel_rfl))
    packBack_walk
theorem packBack_holds : Rows.PackBackSaid :=
  OpenClaim.holds_of_wide 10 Try.f10 rfl rfl rfl rfl rfl rfl rfl ⟨rfl, rfl, rfl, rfl, rfl⟩ rfl rfl rfl rfl rfl (by kernel_rfl) Try.func10 (by kernel_rfl)
    (of_decide_eq_true (by kernel_rfl)) (by unfold Func.isWrapper; rw [if_neg (of_decide_eq_false (by kernel_rfl))]; exact ⟨rfl, rfl⟩)
    (fun os started H enc _ => packBack_lifted os started H enc)
#print axioms packBack_holds
end
end Go.Proofs.Ythajbeooemngpaa
