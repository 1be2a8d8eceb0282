import Derived.Test.YtacnfcolkllagaaDoorPt
import Derived.Lib.Bytes
import Derived.Lib.ConvBytes
import Derived.Lib.ItoaLen
/-! The document's numerals. -/
namespace Go.Proofs.YtacnfcolkllagaaDoor
open Go.RowKit
set_option linter.unusedVariables false
set_option linter.unusedSimpArgs false
theorem decL_step {n : Nat} (h : 9 < n) : Lib.decDigits n = Lib.decDigits (n / 10) ++ [UInt8.ofNat (48 + n % 10)] := by
  conv => lhs; rw [Lib.decDigits, dif_neg (by omega)]
theorem ba_app (a b : ByteArray) : a ++ b = ⟨(a.data.toList ++ b.data.toList).toArray⟩ := by
  apply ByteArray.ext
  apply Array.toList_inj.1
  simp
theorem nd20 {u : Nat} (h : u < 18446744073709551616) : (Lib.decDigits u).length ≤ 20 := by
  rw [Lib.decDigits_length]
  exact Lib.nDigits_le20 u h
theorem cv1 (W : World) (y : UInt8) (k : Int) (hk : (y.toNat : Int) = k) : (convert 53 9 (.slice (some ⟨W.heap.size, 0, none⟩) 1 1)).run Tryd.prog (W.alloc (.cells #[.int .u8 k] 5)) = .ok (.string ⟨#[y]⟩) (W.alloc (.cells #[.int .u8 k] 5)) := by
  subst hk
  exact run_convert_bytes_back (P := Tryd.prog) (W.alloc (.cells #[.int .u8 (y.toNat : Int)] 5)) 53 9 5 ⟨W.heap.size, 0, none⟩ 1 [y] Tryd.underlying53 Tryd.underlying5 Tryd.underlying9 (fun j hj => by
    have : j = 0 := by simpa using hj
    subst this
    simp [Addr.add])
set_option maxRecDepth 100000 in
set_option maxHeartbeats 4000000 in
theorem dec_any (u : Nat) (hu : u < 18446744073709551616) (w : World) :
    Calls Tryd.prog 17 #[.int .u64 (u : Int)] w fun e w' => e = .returned (.string ⟨(Lib.decDigits u).toArray⟩) ∧ Below w.heap.size w w' := by
  obtain ⟨q, hq⟩ : ∃ q, w.heap.size = q := ⟨_, rfl⟩
  have hB : Below q w w := by rw [← hq]; exact Below.refl _ _
  have hl := nd20 hu
  rw [hq]
  go_enter Tryd.func17, Tryd.ntmps17
  go_wp2
  go_loopw [0, 3] (fun s0 s3 wr => ∃ (n : Nat) (s : ByteArray), n < 18446744073709551616 ∧ s0 = .int .u64 (n : Int) ∧ s3 = .string s ∧ Lib.decDigits u = Lib.decDigits n ++ s.data.toList ∧ Below q w wr) (fun s0 _ _ => (intOf s0).toNat)
  case atStart => exact ⟨u, _, hu, rfl, rfl, by simp, hB⟩
  case round =>
    clear hB
    obtain ⟨n, s, hn, rfl, rfl, hD, hb⟩ := hrel
    have hqw : q ≤ wr.heap.size := by rw [← hq]; exact hb.size
    have hsz : s.size ≤ 20 := by
      have := congrArg List.length hD
      rw [List.length_append, ← Lib.size_eq] at this
      omega
    by_cases h9 : 9 < n
    · have i1 : (9 : Int) < n := by omega
      have hst := decL_step h9
      have hm : n % 10 < 10 := Nat.mod_lt _ (by omega)
      have hv := ofNat_val hm
      obtain ⟨y, hy⟩ : ∃ y, UInt8.ofNat (48 + n % 10) = y := ⟨_, rfl⟩
      rw [hy] at hst hv
      have hcv := cv1 wr y (48 + (n : Int) % 10) (by omega)
      have g1 : ¬ (9223372036854775807 < 1 + s.size) := by omega
      have hD' := hide (show Lib.decDigits u = Lib.decDigits (n / 10) ++ ((⟨#[y]⟩ : ByteArray) ++ s).data.toList from by rw [hD, hst, ba_app]; simp)
      clear hl hD hst hy hv
      go_wp2
      go_roundw
      case rel => exact ⟨n / 10, _, by omega, by go_num, rfl, hD'.out, hb.trans ((by (repeat' (first | with_reducible exact Below.refl _ _ | with_reducible refine Below.ext ?_ ?_ _ | with_reducible refine Below.alloc ?_ ?_ _ | with_reducible refine Below.setCell ?_ ?_ _ | with_reducible refine Below.drew ?_ | with_reducible assumption | (simp [World.size_ext]; done) | (simp [World.size_ext]; omega))) : Below wr.heap.size wr _).mono hqw)⟩
      case measure => first | (simp [intOf]; done) | (simp [intOf]; omega)
    · have i1 : ¬ (9 : Int) < n := by omega
      have hm : n < 10 := by omega
      have hv := ofNat_val hm
      obtain ⟨y, hy⟩ : ∃ y, UInt8.ofNat (48 + n) = y := ⟨_, rfl⟩
      have hst : Lib.decDigits n = [y] := by rw [Lib.decDigits, dif_pos hm, hy]
      rw [hy] at hv
      have hcv := cv1 wr y (48 + (n : Int)) (by omega)
      have g1 : ¬ (9223372036854775807 < 1 + s.size) := by omega
      have hD' := hide (show (⟨#[y]⟩ : ByteArray) ++ s = ⟨(Lib.decDigits u).toArray⟩ from by rw [hD, hst, ba_app])
      clear hl hD hst hy hv
      go_wp2
      go_ret
      exact ⟨by rw [← hD'.out]; rfl, hb.trans ((by (repeat' (first | with_reducible exact Below.refl _ _ | with_reducible refine Below.ext ?_ ?_ _ | with_reducible refine Below.alloc ?_ ?_ _ | with_reducible refine Below.setCell ?_ ?_ _ | with_reducible refine Below.drew ?_ | with_reducible assumption | (simp [World.size_ext]; done) | (simp [World.size_ext]; omega))) : Below wr.heap.size wr _).mono hqw)⟩
theorem whole_any (n : Int) (h0 : -9223372036854775808 ≤ n) (h1 : n ≤ 9223372036854775807) (w : World) :
    Calls Tryd.prog 16 #[.int .i64 n] w fun e w' => e = .returned (.string ⟨(Lib.itoa n).toArray⟩) ∧ Below w.heap.size w w' := by
  by_cases hn : n < 0
  · obtain ⟨u, rfl⟩ : ∃ u : Nat, n = -(u : Int) := ⟨n.natAbs, by omega⟩
    have hC := dec_any u (by omega) w
    have hwr : IntKind.u64.wrap (-IntKind.u64.wrap (-(u : Int))) = (u : Int) := by rw [IntKind.wrap_u64, IntKind.wrap_u64]; omega
    have hl := nd20 (u := u) (by omega)
    have he := hide (show (⟨#[45]⟩ : ByteArray) ++ ⟨(Lib.decDigits u).toArray⟩ = ⟨(Lib.itoa (-(u : Int))).toArray⟩ from by rw [Lib.itoa_neg u (by omega), ba_app]; simp)
    obtain ⟨tx, htx⟩ : ∃ tx, (⟨(Lib.decDigits u).toArray⟩ : ByteArray) = tx := ⟨_, rfl⟩
    have hts : tx.size ≤ 20 := by rw [← htx, Lib.size_eq]; simpa using hl
    rw [htx] at hC he
    have g1 : ¬ (9223372036854775807 < 1 + tx.size) := by omega
    clear htx hl
    go_enter Tryd.func16, Tryd.ntmps16
    go_wp2_with (go_at_call 17; (with_reducible refine hC.mono ?_); rintro e w1 ⟨rfl, hb1⟩)
    go_ret
    exact ⟨by rw [← he.out]; rfl, hb1⟩
  · obtain ⟨u, rfl⟩ : ∃ u : Nat, n = u := ⟨n.toNat, by omega⟩
    have hC := dec_any u (by omega) w
    have hwr : IntKind.u64.wrap (u : Int) = (u : Int) := by rw [IntKind.wrap_u64]; omega
    rw [Lib.itoa_nonneg]
    go_enter Tryd.func16, Tryd.ntmps16
    go_wp2_with (go_at_call 17; (with_reducible refine hC.mono ?_); rintro e w1 ⟨rfl, hb1⟩)
    go_ret
    exact ⟨rfl, hb1⟩
end Go.Proofs.YtacnfcolkllagaaDoor
