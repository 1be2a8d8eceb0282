import Derived.Test.YtacnfcolkllagaaDoorTz9
import Derived.Test.YtacnfcolkllagaaDoorTy9
/-! The law's walk. -/
namespace Go.Proofs.YtacnfcolkllagaaDoor
open Go.RowKit
set_option linter.unusedVariables false
set_option linter.unusedSimpArgs false
def rightB (a : Int) : Bool := decide (0 ≤ a) && decide (a ≤ 4611686018427387904)
set_option maxHeartbeats 400000 in
theorem to_any (a b c : Int) (w : World) :
    Calls Tryd.prog 5 #[.agg #[.int .i64 a, .int .u32 b, .int .u32 c]] w fun e w' => e = .returned (.agg #[.int .i64 a, .int .u32 b, .int .u32 c]) ∧ Below w.heap.size w w' := by
  go_enter Tryd.func5, Tryd.ntmps5
  go_wp2
  exact bodyPost_ret (v := .agg #[.int .i64 a, .int .u32 b, .int .u32 c]) (by simp [results, Tryd.results5, go_sem]) rfl ⟨rfl, ((Below.refl _ _).alloc (Nat.le_refl _) _).alloc (by simp) _⟩
set_option maxHeartbeats 400000 in
theorem rright_any (a b c : Int) (w : World) :
    Calls Tryd.prog 10 #[.agg #[.int .i64 a, .int .u32 b, .int .u32 c]] w fun e w' => e = .returned (.bool (rightB a)) ∧ Below w.heap.size w w' := by
  go_enter Tryd.func10, Tryd.ntmps10
  go_wp2
  all_goals
    go_ret
    exact ⟨by congr 2; simp [rightB] at *; omega, (Below.refl _ _).alloc (Nat.le_refl _) _⟩
set_option maxHeartbeats 400000 in
theorem from_any (a b c : Int) (w : World) :
    Calls Tryd.prog 9 #[.agg #[.int .i64 a, .int .u32 b, .int .u32 c]] w fun e w' => e = .returned (.agg #[.int .i64 a, .int .u32 b, .int .u32 c]) ∧ Below w.heap.size w w' := by
  go_enter Tryd.func9, Tryd.ntmps9
  go_wp2
  refine bodyPost_ret (v := _) (by simp [results, Tryd.results9, go_sem] <;> rfl) rfl ⟨?_, by (repeat' (first | with_reducible exact Below.refl _ _ | with_reducible refine Below.ext ?_ ?_ _ | with_reducible refine Below.alloc ?_ ?_ _ | with_reducible refine Below.setCell ?_ ?_ _ | with_reducible refine Below.drew ?_ | with_reducible assumption | (simp [World.size_ext]; done) | (simp [World.size_ext]; omega)))⟩
  rfl
def stEq (a b c a' b' c' : Int) : Bool := a == a' && (b == b' && c == c')
@[go_sem] theorem stEq_self (a b c : Int) : stEq a b c a b c = true := by simp [stEq]
@[go_sem ↓] theorem run_eql_rstamp (a b c a' b' c' : Int) (w : World) : (binOp .eql 24 (.agg #[.int .i64 a, .int .u32 b, .int .u32 c]) (.agg #[.int .i64 a', .int .u32 b', .int .u32 c'])).run Tryd.prog w = .ok (.bool (stEq a b c a' b' c')) w := by
  by_cases h1 : a = a' <;> by_cases h2 : b = b' <;> by_cases h3 : c = c' <;> simp [go_sem, stEq, h1, h2, h3]
theorem rightB_true {a : Int} (h : rightB a = true) : 0 ≤ a ∧ a ≤ 4611686018427387904 := by simpa [rightB] using h
set_option maxRecDepth 100000 in
set_option maxHeartbeats 2000000 in
theorem law_texts (a : Int) (b c : Nat) (h0 : -9223372036854775808 ≤ a) (h1 : a ≤ 9223372036854775807) (hb : b < 4294967296) (hc : c < 4294967296) (s : ByteArray) (hs : s.size < 4294967281) (w : World) (hx : Sx w) :
    Calls Tryd.prog 3 #[.agg #[.int .i64 a, .int .u32 (b : Int), .int .u32 (c : Int)], .string s] w fun e w' => e = .returned (.bool true) ∧ Below w.heap.size w w' := by
  have P1 := fun w hw => sparse_any s hs w hw
  have P2 := fun w => rsparse_any s hs w
  have P3 := fun w hw => sparse_any (txt a b c) (txt_size a b c h0 h1 hb hc) w hw
  have T1 := fun w hw => text9_any a b c h0 h1 hb hc w hw
  have T2 := fun w => rtext9_any a b c h0 h1 hb hc w
  have hR : rightB a = true → stO (dotL (txt a b c).data.toList) = some ⟨a.toNat, b, c⟩ := fun hr => by
    have := rightB_true hr
    obtain ⟨u, rfl⟩ : ∃ u : Nat, a = u := ⟨a.toNat, by omega⟩
    exact back9 u b c (by omega) (by omega) (by omega)
  have hRR : (rightB a = true → a = stW (stO (dotL (txt a b c).data.toList)) ∧ (b : Int) = stT (stO (dotL (txt a b c).data.toList)) ∧ (c : Int) = stM (stO (dotL (txt a b c).data.toList)) ∧ stE (stO (dotL (txt a b c).data.toList)) = 0) := fun hr => by
    have := rightB_true hr
    rw [hR hr]
    exact ⟨by show a = ((a.toNat : Nat) : Int); omega, rfl, rfl, rfl⟩
  clear hR
  generalize stO (dotL s.data.toList) = R at *
  generalize stO (dotL (txt a b c).data.toList) = R2 at *
  generalize txt a b c = t at *
  generalize (b : Int) = b' at *
  generalize (c : Int) = c' at *
  have RR := rright_any a b' c'
  generalize stW R = n1 at *
  generalize stT R = n2 at *
  generalize stM R = n3 at *
  generalize stE R = n4 at *
  generalize stW R2 = m1 at *
  generalize stT R2 = m2 at *
  generalize stM R2 = m3 at *
  generalize stE R2 = m4 at *
  clear h0 h1 hb hc hs
  cases hr : rightB a with
  | true =>
    obtain ⟨rfl, rfl, rfl, rfl⟩ := hRR hr
    rw [hr] at RR
    clear hRR hr
    go_enter Tryd.func3, Tryd.ntmps3
    go_wp2_with (first
      | (go_at_call 5; with_reducible refine (to_any _ _ _ _).mono ?_; rintro e w' ⟨rfl, hb⟩; obtain ⟨X, rfl⟩ := World.ext_of_below hb; clear hb)
      | (go_at_call 4; with_reducible refine (T1 _ (hx.below (by (repeat' (first | with_reducible exact Below.refl _ _ | with_reducible refine Below.ext ?_ ?_ _ | with_reducible refine Below.alloc ?_ ?_ _ | with_reducible refine Below.setCell ?_ ?_ _ | with_reducible refine Below.drew ?_ | with_reducible assumption | (simp [World.size_ext]; done) | (simp [World.size_ext]; omega)))))).mono ?_; rintro e w' ⟨rfl, hb⟩; obtain ⟨X, rfl⟩ := World.ext_of_below hb; clear hb)
      | (go_at_call 6; with_reducible refine (P1 _ (hx.below (by (repeat' (first | with_reducible exact Below.refl _ _ | with_reducible refine Below.ext ?_ ?_ _ | with_reducible refine Below.alloc ?_ ?_ _ | with_reducible refine Below.setCell ?_ ?_ _ | with_reducible refine Below.drew ?_ | with_reducible assumption | (simp [World.size_ext]; done) | (simp [World.size_ext]; omega)))))).mono ?_; rintro e w' ⟨rfl, hb⟩; obtain ⟨X, rfl⟩ := World.ext_of_below hb; clear hb)
      | (go_at_call 6; with_reducible refine (P3 _ (hx.below (by (repeat' (first | with_reducible exact Below.refl _ _ | with_reducible refine Below.ext ?_ ?_ _ | with_reducible refine Below.alloc ?_ ?_ _ | with_reducible refine Below.setCell ?_ ?_ _ | with_reducible refine Below.drew ?_ | with_reducible assumption | (simp [World.size_ext]; done) | (simp [World.size_ext]; omega)))))).mono ?_; rintro e w' ⟨rfl, hb⟩; obtain ⟨X, rfl⟩ := World.ext_of_below hb; clear hb)
      | (go_at_call 7; with_reducible refine (P2 _).mono ?_; rintro e w' ⟨rfl, hb⟩; obtain ⟨X, rfl⟩ := World.ext_of_below hb; clear hb))
    refine wp_region_ext_lit (by kernel_rfl) (by kernel_rfl) ?_
    (repeat (first | ((with_reducible refine wpQuiet_step (fun K hK => ?_)); go_simp; first | ((with_reducible refine hK _ ?_); clear hK K) | (apply Exists.intro; (with_reducible refine ⟨fun _ => ?_, hK _ ?_⟩); first | (go_at_call 8; with_reducible exact Calls.ext_of (T2 _)) | (go_at_call 9; with_reducible exact Calls.ext_of (from_any _ _ _ _)); clear hK K)) | ((with_reducible refine quiet_skipN ?_ (fun K hK => ?_)); (rfl); go_simp; (with_reducible refine hK _ ?_); clear hK K)))
    (with_reducible refine wpQuiet_nil ?_); intro _ hw'; obtain ⟨Y, hw''⟩ := hw'; subst hw''
    go_wp2_with (first
      | (go_at_call 6; with_reducible refine (P1 _ (hx.below (by (repeat' (first | with_reducible exact Below.refl _ _ | with_reducible refine Below.ext ?_ ?_ _ | with_reducible refine Below.alloc ?_ ?_ _ | with_reducible refine Below.setCell ?_ ?_ _ | with_reducible refine Below.drew ?_ | with_reducible assumption | (simp [World.size_ext]; done) | (simp [World.size_ext]; omega)))))).mono ?_; rintro e w' ⟨rfl, hb⟩; obtain ⟨X, rfl⟩ := World.ext_of_below hb; clear hb)
      | (go_at_call 6; with_reducible refine (P3 _ (hx.below (by (repeat' (first | with_reducible exact Below.refl _ _ | with_reducible refine Below.ext ?_ ?_ _ | with_reducible refine Below.alloc ?_ ?_ _ | with_reducible refine Below.setCell ?_ ?_ _ | with_reducible refine Below.drew ?_ | with_reducible assumption | (simp [World.size_ext]; done) | (simp [World.size_ext]; omega)))))).mono ?_; rintro e w' ⟨rfl, hb⟩; obtain ⟨X, rfl⟩ := World.ext_of_below hb; clear hb))
    refine wp_region_ext_lit (by kernel_rfl) (by kernel_rfl) ?_
    (repeat (first | ((with_reducible refine wpQuiet_step (fun K hK => ?_)); go_simp; first | ((with_reducible refine hK _ ?_); clear hK K) | (apply Exists.intro; (with_reducible refine ⟨fun _ => ?_, hK _ ?_⟩); first | (go_at_call 10; with_reducible exact Calls.ext_of (RR _)) | (go_at_call 9; with_reducible exact Calls.ext_of (from_any _ _ _ _)); clear hK K)) | ((with_reducible refine quiet_skipN ?_ (fun K hK => ?_)); (rfl); go_simp; (with_reducible refine hK _ ?_); clear hK K)))
    (repeat (first | ((with_reducible refine wpQuiet_step (fun K hK => ?_)); go_simp; (rw [if_neg (by decide)]); (with_reducible refine hK _ ?_); clear hK K) | ((with_reducible refine quiet_skipN ?_ (fun K hK => ?_)); (rfl); go_simp; (with_reducible refine hK _ ?_); clear hK K) | ((with_reducible refine wpQuiet_step (fun K hK => ?_)); go_simp; (with_reducible refine hK _ ?_); clear hK K)))
    (with_reducible refine wpQuiet_nil ?_); intro _ hw'; obtain ⟨Z, hw''⟩ := hw'; subst hw''
    go_wp2
    refine bodyPost_ret (v := .bool true) (by simp [results, Tryd.results3, go_sem] <;> rfl) rfl ⟨rfl, by (repeat' (first | with_reducible exact Below.refl _ _ | with_reducible refine Below.ext ?_ ?_ _ | with_reducible refine Below.alloc ?_ ?_ _ | with_reducible refine Below.setCell ?_ ?_ _ | with_reducible refine Below.drew ?_ | with_reducible assumption | (simp [World.size_ext]; done) | (simp [World.size_ext]; omega)))⟩
  | false =>
    rw [hr] at RR
    clear hRR hr
    go_enter Tryd.func3, Tryd.ntmps3
    go_wp2_with (first
      | (go_at_call 5; with_reducible refine (to_any _ _ _ _).mono ?_; rintro e w' ⟨rfl, hb⟩; obtain ⟨X, rfl⟩ := World.ext_of_below hb; clear hb)
      | (go_at_call 4; with_reducible refine (T1 _ (hx.below (by (repeat' (first | with_reducible exact Below.refl _ _ | with_reducible refine Below.ext ?_ ?_ _ | with_reducible refine Below.alloc ?_ ?_ _ | with_reducible refine Below.setCell ?_ ?_ _ | with_reducible refine Below.drew ?_ | with_reducible assumption | (simp [World.size_ext]; done) | (simp [World.size_ext]; omega)))))).mono ?_; rintro e w' ⟨rfl, hb⟩; obtain ⟨X, rfl⟩ := World.ext_of_below hb; clear hb)
      | (go_at_call 6; with_reducible refine (P1 _ (hx.below (by (repeat' (first | with_reducible exact Below.refl _ _ | with_reducible refine Below.ext ?_ ?_ _ | with_reducible refine Below.alloc ?_ ?_ _ | with_reducible refine Below.setCell ?_ ?_ _ | with_reducible refine Below.drew ?_ | with_reducible assumption | (simp [World.size_ext]; done) | (simp [World.size_ext]; omega)))))).mono ?_; rintro e w' ⟨rfl, hb⟩; obtain ⟨X, rfl⟩ := World.ext_of_below hb; clear hb)
      | (go_at_call 6; with_reducible refine (P3 _ (hx.below (by (repeat' (first | with_reducible exact Below.refl _ _ | with_reducible refine Below.ext ?_ ?_ _ | with_reducible refine Below.alloc ?_ ?_ _ | with_reducible refine Below.setCell ?_ ?_ _ | with_reducible refine Below.drew ?_ | with_reducible assumption | (simp [World.size_ext]; done) | (simp [World.size_ext]; omega)))))).mono ?_; rintro e w' ⟨rfl, hb⟩; obtain ⟨X, rfl⟩ := World.ext_of_below hb; clear hb)
      | (go_at_call 7; with_reducible refine (P2 _).mono ?_; rintro e w' ⟨rfl, hb⟩; obtain ⟨X, rfl⟩ := World.ext_of_below hb; clear hb))
    refine wp_region_ext_lit (by kernel_rfl) (by kernel_rfl) ?_
    (repeat (first | ((with_reducible refine wpQuiet_step (fun K hK => ?_)); go_simp; first | ((with_reducible refine hK _ ?_); clear hK K) | (apply Exists.intro; (with_reducible refine ⟨fun _ => ?_, hK _ ?_⟩); first | (go_at_call 8; with_reducible exact Calls.ext_of (T2 _)) | (go_at_call 9; with_reducible exact Calls.ext_of (from_any _ _ _ _)); clear hK K)) | ((with_reducible refine quiet_skipN ?_ (fun K hK => ?_)); (rfl); go_simp; (with_reducible refine hK _ ?_); clear hK K)))
    (with_reducible refine wpQuiet_nil ?_); intro _ hw'; obtain ⟨Y, hw''⟩ := hw'; subst hw''
    go_wp2_with (first
      | (go_at_call 6; with_reducible refine (P1 _ (hx.below (by (repeat' (first | with_reducible exact Below.refl _ _ | with_reducible refine Below.ext ?_ ?_ _ | with_reducible refine Below.alloc ?_ ?_ _ | with_reducible refine Below.setCell ?_ ?_ _ | with_reducible refine Below.drew ?_ | with_reducible assumption | (simp [World.size_ext]; done) | (simp [World.size_ext]; omega)))))).mono ?_; rintro e w' ⟨rfl, hb⟩; obtain ⟨X, rfl⟩ := World.ext_of_below hb; clear hb)
      | (go_at_call 6; with_reducible refine (P3 _ (hx.below (by (repeat' (first | with_reducible exact Below.refl _ _ | with_reducible refine Below.ext ?_ ?_ _ | with_reducible refine Below.alloc ?_ ?_ _ | with_reducible refine Below.setCell ?_ ?_ _ | with_reducible refine Below.drew ?_ | with_reducible assumption | (simp [World.size_ext]; done) | (simp [World.size_ext]; omega)))))).mono ?_; rintro e w' ⟨rfl, hb⟩; obtain ⟨X, rfl⟩ := World.ext_of_below hb; clear hb))
    refine wp_region_ext_lit (by kernel_rfl) (by kernel_rfl) ?_
    (repeat (first | ((with_reducible refine wpQuiet_step (fun K hK => ?_)); go_simp; first | ((with_reducible refine hK _ ?_); clear hK K) | (apply Exists.intro; (with_reducible refine ⟨fun _ => ?_, hK _ ?_⟩); first | (go_at_call 10; with_reducible exact Calls.ext_of (RR _)) | (go_at_call 9; with_reducible exact Calls.ext_of (from_any _ _ _ _)); clear hK K)) | ((with_reducible refine quiet_skipN ?_ (fun K hK => ?_)); (rfl); go_simp; (with_reducible refine hK _ ?_); clear hK K)))
    (repeat (first | ((with_reducible refine wpQuiet_step (fun K hK => ?_)); go_simp; (rw [if_neg (by decide)]); (with_reducible refine hK _ ?_); clear hK K) | ((with_reducible refine quiet_skipN ?_ (fun K hK => ?_)); (rfl); go_simp; (with_reducible refine hK _ ?_); clear hK K) | ((with_reducible refine wpQuiet_step (fun K hK => ?_)); go_simp; (with_reducible refine hK _ ?_); clear hK K)))
    (with_reducible refine wpQuiet_nil ?_); intro _ hw'; obtain ⟨Z, hw''⟩ := hw'; subst hw''
    go_wp2
    refine bodyPost_ret (v := .bool true) (by simp [results, Tryd.results3, go_sem] <;> rfl) rfl ⟨rfl, by (repeat' (first | with_reducible exact Below.refl _ _ | with_reducible refine Below.ext ?_ ?_ _ | with_reducible refine Below.alloc ?_ ?_ _ | with_reducible refine Below.setCell ?_ ?_ _ | with_reducible refine Below.drew ?_ | with_reducible assumption | (simp [World.size_ext]; done) | (simp [World.size_ext]; omega)))⟩
end Go.Proofs.YtacnfcolkllagaaDoor
