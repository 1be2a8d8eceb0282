import Derived.Test.YtacnfcolkllagaaDoorSx
import Derived.WalkSpells
import Derived.WalkLawsBesides
import Derived.WalkMore
/-! A part of a stamp's text. -/
namespace Go.Proofs.YtacnfcolkllagaaDoor
open Go.RowKit
set_option linter.unusedVariables false
set_option linter.unusedSimpArgs false
theorem eqB9 (a b : ByteArray) : (a.toList == b.toList) = decide (a.data.toList = b.data.toList) := by
  rw [ByteArray.toList_eq, ByteArray.toList_eq, Bool.eq_iff_iff]
  simp
/-- strconv.ParseUint at base 10, 64 bits. -/
theorem pu_any (s : ByteArray) (hs : s.size ≤ 281474976710656) (w : World) (hx : Sx w) :
    Calls Tryd.prog 21 #[.string s, .int .i64 10, .int .i64 64] w fun e w' => (∃ v, e = .returned (.tuple #[.int .u64 ((partP s.data.toList).1 : Int), v]) ∧ (match Lib.parseUintB 64 s.data.toList with | .ok _ => v = .nilIface | _ => ∃ t p, v = .iface t (.pointer p))) ∧ Below w.heap.size w w' := by
  unfold partP
  cases h : Lib.parseUintB 64 s.data.toList with
  | ok u =>
    refine (Tryd.strconv_ParseUint_10_at64_ok s (by omega) u h w).mono ?_
    rintro e w' ⟨rfl, hw⟩
    refine ⟨⟨_, rfl, rfl⟩, ?_⟩
    rcases hw with rfl | rfl
    · exact Below.refl _ _
    · exact Lib.bytesWorld_below _ _ _
  | range =>
    obtain ⟨tp, p, hv⟩ := hx.rng
    refine (Tryd.strconv_ParseUint_10_at64_range_var s hs h tp p w hv).mono ?_
    rintro e w' ⟨N, rfl, _, _, hb⟩
    exact ⟨⟨_, rfl, _, _, rfl⟩, hb⟩
  | _ =>
    obtain ⟨tp, p, hv⟩ := hx.syn
    refine (Any.strconv_ParseUint_10_at64_syntax_var Tryd.laysPu14 s hs h tp p w hv).mono ?_
    rintro e w' ⟨N, rfl, _, _, hb⟩
    exact ⟨⟨_, rfl, _, _, rfl⟩, hb⟩
theorem partP_lt (l : List UInt8) : (partP l).1 < 18446744073709551616 := by
  unfold partP
  cases h : Lib.parseUintB 64 l with
  | ok u =>
    unfold Lib.parseUintB at h
    split at h
    · cases h
    · rename_i hne
      have key : ∀ (l : List UInt8) (n u : Nat), n ≤ 18446744073709551615 → Lib.parseUintM 18446744073709551615 n l = .ok u → u ≤ 18446744073709551615 := by
        intro l
        induction l with
        | nil => intro n u hn h; simp only [Lib.parseUintM] at h; injection h with h; omega
        | cons x l ih =>
          intro n u hn h
          rw [Lib.parseUintM] at h
          split at h
          · split at h
            · cases h
            · split at h
              · cases h
              · exact ih _ _ (by omega) h
          · cases h
      have := key l 0 u (by omega) h
      show u < _
      omega
  | range => show (18446744073709551615 : Nat) < _; omega
  | _ => show (0 : Nat) < _; omega
set_option maxRecDepth 100000 in
set_option maxHeartbeats 4000000 in
theorem part_any (s : ByteArray) (hs : s.size ≤ 281474976710656) (w : World) (hx : Sx w) :
    Calls Tryd.prog 14 #[.string s] w fun e w' => e = .returned (.tuple #[.int .u64 ((partP s.data.toList).1 : Int), .bool (partP s.data.toList).2]) ∧ Below w.heap.size w w' := by
  have hP := pu_any s hs w hx
  have hlt := partP_lt s.data.toList
  obtain ⟨u, hu⟩ : ∃ u, (partP s.data.toList).1 = u := ⟨_, rfl⟩
  obtain ⟨b, hb⟩ : ∃ b, (partP s.data.toList).2 = b := ⟨_, rfl⟩
  have hF := fun w (hx : Sx w) => fmtU_any u (by omega) w hx.tab
  cases h : Lib.parseUintB 64 s.data.toList with
  | ok n =>
    have e1 : u = n := by rw [← hu]; unfold partP; rw [h]
    have e2 : b = decide (Lib.decDigits u = s.data.toList) := by rw [← hb, e1]; unfold partP; rw [h]
    rw [h] at hP
    rw [hu, hb]
    rw [hu] at hP
    have hq := eqB9 ⟨(Lib.decDigits u).toArray⟩ s
    simp only [List.toList_toArray] at hq
    rw [← e2] at hq
    generalize (⟨(Lib.decDigits u).toArray⟩ : ByteArray) = tx at *
    clear hu hb e1 e2 h hlt
    go_enter Tryd.func14, Tryd.ntmps14
    go_wp2_with (first
      | (go_at_call 21; (with_reducible refine hP.mono ?_); rintro e w1 ⟨⟨v, rfl, hv⟩, hb1⟩; obtain rfl : v = .nilIface := hv; have hF1 := hF w1 (hx.below hb1))
      | (go_at_call 12; (with_reducible refine hF1.mono ?_); rintro e w2 ⟨rfl, hb2⟩))
    (try simp only [hq])
    refine bodyPost_ret (v := .tuple #[.int .u64 (u : Int), .bool b]) (by simp [results, Tryd.results14, go_sem] <;> rfl) rfl ⟨rfl, hb1.trans (hb2.mono hb1.size)⟩
  | range =>
    have e2 : b = false := by rw [← hb]; unfold partP; rw [h]
    subst e2
    rw [h] at hP
    rw [hu, hb]
    rw [hu] at hP
    clear hu hb h hlt hF
    go_enter Tryd.func14, Tryd.ntmps14
    go_wp2_with (first
      | (go_at_call 21; (with_reducible refine hP.mono ?_); rintro e w1 ⟨⟨v, rfl, hv⟩, hb1⟩; obtain ⟨t, p, rfl⟩ := hv))
    refine bodyPost_ret (v := .tuple #[.int .u64 (u : Int), .bool false]) (by simp [results, Tryd.results14, go_sem] <;> rfl) rfl ⟨rfl, hb1⟩
  | _ =>
    have e2 : b = false := by rw [← hb]; unfold partP; rw [h]
    subst e2
    rw [h] at hP
    rw [hu, hb]
    rw [hu] at hP
    clear hu hb h hlt hF
    go_enter Tryd.func14, Tryd.ntmps14
    go_wp2_with (first
      | (go_at_call 21; (with_reducible refine hP.mono ?_); rintro e w1 ⟨⟨v, rfl, hv⟩, hb1⟩; obtain ⟨t, p, rfl⟩ := hv))
    refine bodyPost_ret (v := .tuple #[.int .u64 (u : Int), .bool false]) (by simp [results, Tryd.results14, go_sem] <;> rfl) rfl ⟨rfl, hb1⟩
end Go.Proofs.YtacnfcolkllagaaDoor
