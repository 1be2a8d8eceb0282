import Derived.Test.YtghinjnhcepaeaaRows
import Derived.Test.YtghinjnhcepaeaaKit
import Derived.WalkSpells
import Derived.WalkLawsBesides
namespace Go.Proofs.Ytghinjnhcepaeaa
open Go.RowKit
set_option linter.unusedVariables false
set_option linter.unusedSimpArgs false

def rightB (a : Int) : Bool := decide (0 ≤ a) && decide (a ≤ 4611686018427387904)

set_option maxHeartbeats 400000 in
theorem to_any (a b c : Int) (w : World) :
    Calls Try.prog 14 #[.agg #[.int .i64 a, .int .u32 b, .int .u32 c]] w fun e w' => e = .returned (.agg #[.int .i64 a, .int .u32 b, .int .u32 c]) ∧ Below w.heap.size w w' := by
  go_enter Try.func14, Try.ntmps14
  go_wp2
  exact bodyPost_ret (v := .agg #[.int .i64 a, .int .u32 b, .int .u32 c]) (by simp [results, Try.results14, go_sem]) rfl ⟨rfl, ((Below.refl _ _).alloc (Nat.le_refl _) _).alloc (by simp) _⟩

set_option maxHeartbeats 400000 in
theorem right_any (a b c : Int) (w : World) :
    Calls Try.prog 24 #[.agg #[.int .i64 a, .int .u32 b, .int .u32 c]] w fun e w' => e = .returned (.bool (rightB a)) ∧ Below w.heap.size w w' := by
  go_enter Try.func24, Try.ntmps24
  go_wp2
  all_goals
    go_ret
    exact ⟨by congr 2; simp [rightB] at *; omega, (Below.refl _ _).alloc (Nat.le_refl _) _⟩

set_option maxHeartbeats 400000 in
theorem rright_any (a b c : Int) (w : World) :
    Calls Try.prog 25 #[.agg #[.int .i64 a, .int .u32 b, .int .u32 c]] w fun e w' => e = .returned (.bool (rightB a)) ∧ Below w.heap.size w w' := by
  go_enter Try.func25, Try.ntmps25
  go_wp2
  all_goals
    go_ret
    exact ⟨by congr 2; simp [rightB] at *; omega, (Below.refl _ _).alloc (Nat.le_refl _) _⟩

set_option maxHeartbeats 400000 in
theorem sign_any (b : Bool) (w : World) :
    Calls Try.prog 32 #[.bool b] w fun e w' => e = .returned (.int .i64 (if b then -1 else 1)) ∧ w = w' := by
  cases b <;> go_enter Try.func32, Try.ntmps32 <;> go_wp2 <;> go_ret <;> exact ⟨rfl, rfl⟩

def cmpI (a b c a' b' c' : Int) : Int :=
  if a < a' then -1 else if a' < a then 1 else if b < b' then -1 else if b' < b then 1 else if c < c' then -1 else if c' < c then 1 else 0
def belowB (a b c a' b' c' : Int) : Bool := cmpI a b c a' b' c' == -1

set_option maxHeartbeats 400000 in
theorem compare_any (a b c a' b' c' : Int) (w : World) :
    Calls Try.prog 22 #[.agg #[.int .i64 a, .int .u32 b, .int .u32 c], .agg #[.int .i64 a', .int .u32 b', .int .u32 c']] w fun e w' => e = .returned (.int .i64 (cmpI a b c a' b' c')) ∧ Below w.heap.size w w' := by
  go_enter Try.func22, Try.ntmps22
  go_wp2_with (go_at_call 32; refine (sign_any _ _).mono ?_; rintro e w' ⟨rfl, rfl⟩)
  all_goals
    go_ret
    exact ⟨by congr 2; simp [cmpI] at *; first | done | omega | (split <;> omega), ((Below.refl _ _).alloc (Nat.le_refl _) _).alloc (by simp) _⟩

set_option maxHeartbeats 400000 in
theorem below_any (a b c a' b' c' : Int) (w : World) :
    Calls Try.prog 23 #[.agg #[.int .i64 a, .int .u32 b, .int .u32 c], .agg #[.int .i64 a', .int .u32 b', .int .u32 c']] w fun e w' => e = .returned (.bool (belowB a b c a' b' c')) ∧ Below w.heap.size w w' := by
  go_enter Try.func23, Try.ntmps23
  go_wp2
  all_goals
    go_ret
    exact ⟨by congr 2; unfold belowB cmpI; simp only [bne_iff_ne, ne_eq, Bool.not_eq_true, bne_eq_false_iff_eq] at *; (repeat' split) <;> simp <;> omega, ((Below.refl _ _).alloc (Nat.le_refl _) _).alloc (by simp) _⟩


theorem cmp_order (a b c a' b' c' : Int) : (if belowB a b c a' b' c' then (-1 : Int) else if belowB a' b' c' a b c then 1 else 0) = cmpI a b c a' b' c' := by
  unfold belowB cmpI; (repeat' split) <;> simp at * <;> omega


/-- Two stamps are one. -/
def stEq (a b c a' b' c' : Int) : Bool := a == a' && (b == b' && c == c')
@[go_sem] theorem stEq_self (a b c : Int) : stEq a b c a b c = true := by simp [stEq]
@[go_sem ↓] theorem run_eql_stamp (a b c a' b' c' : Int) (w : World) : (binOp .eql 29 (.agg #[.int .i64 a, .int .u32 b, .int .u32 c]) (.agg #[.int .i64 a', .int .u32 b', .int .u32 c'])).run Try.prog w = .ok (.bool (stEq a b c a' b' c')) w := by
  by_cases h1 : a = a' <;> by_cases h2 : b = b' <;> by_cases h3 : c = c' <;> simp [go_sem, stEq, h1, h2, h3]
@[go_sem ↓] theorem run_eql_rstamp (a b c a' b' c' : Int) (w : World) : (binOp .eql 24 (.agg #[.int .i64 a, .int .u32 b, .int .u32 c]) (.agg #[.int .i64 a', .int .u32 b', .int .u32 c'])).run Try.prog w = .ok (.bool (stEq a b c a' b' c')) w := by
  by_cases h1 : a = a' <;> by_cases h2 : b = b' <;> by_cases h3 : c = c' <;> simp [go_sem, stEq, h1, h2, h3]

def nextW (a b : Int) : Int := if rightB a then (if b ≠ 4294967295 then a else if a ≠ 4611686018427387904 then a + 1 else 0) else 0
def nextT (a b : Int) : Int := if rightB a then (if b ≠ 4294967295 then b + 1 else 0) else 0
def nextE (a b : Int) : Int := if rightB a then (if b ≠ 4294967295 then 0 else if a ≠ 4611686018427387904 then 0 else 20) else 1

theorem rightB_true {a : Int} (h : rightB a = true) : 0 ≤ a ∧ a ≤ 4611686018427387904 := by simpa [rightB] using h
theorem rightB_mk {a : Int} (h : 0 ≤ a ∧ a ≤ 4611686018427387904) : rightB a = true := by simpa [rightB] using h


set_option maxHeartbeats 400000 in
theorem from_any (a b c : Int) (w : World) :
    Calls Try.prog 29 #[.agg #[.int .i64 a, .int .u32 b, .int .u32 c]] w fun e w' => e = .returned (.agg #[.int .i64 a, .int .u32 b, .int .u32 c]) ∧ Below w.heap.size w w' := by
  go_enter Try.func29, Try.ntmps29
  go_wp2
  refine bodyPost_ret (v := _) (by simp [results, Try.results29, go_sem] <;> rfl) rfl ⟨?_, by (repeat' (first | with_reducible exact Below.refl _ _ | with_reducible refine Below.ext ?_ ?_ _ | with_reducible refine Below.alloc ?_ ?_ _ | with_reducible refine Below.setCell ?_ ?_ _ | with_reducible refine Below.drew ?_ | with_reducible assumption | (simp [World.size_ext]; done) | (simp [World.size_ext]; omega)))⟩
  rfl

def U32 (n : Int) : Prop := 0 ≤ n ∧ n ≤ 4294967295
def U64 (n : Int) : Prop := 0 ≤ n ∧ n ≤ 18446744073709551615
def I64 (n : Int) : Prop := -9223372036854775808 ≤ n ∧ n ≤ 9223372036854775807
section
open Go.ChangeShapes Go.WideShapes Go.ChangeAt Go.Joins
theorem own : ownKnob Try.prog.godebug = none := by kernel_rfl
theorem laidOut : laidOutB Try.prog = true := by kernel_rfl
theorem cellsRefStamp : Try.prog.cellsOf 24 = 3 := by kernel_rfl
variable {H : Type} {enc : TypeId × Value → H}
theorem stamp_open {W : World} {base : Nat} {sp : Nat → Bool} {v : Value} {d : DataW H} {p : List MemPlace} (hv : Value.okWide Try.prog W .any base 24 v) (h : DataW.Trod enc Try.prog W 0 sp true 24 v d p) :
    ∃ a b c : Int, v = .agg #[.int .i64 a, .int .u32 b, .int .u32 c] ∧ I64 a ∧ U32 b ∧ U32 c := by
  obtain ⟨c0, c1, c2, y0, y1, y2, m, rfl, rfl, rfl, hy0, hy1, hy2⟩ := open_agg3 Try.underlying24 (by kernel_rfl) cellsRefStamp hv h
  obtain ⟨a, e0, rfl, wa⟩ := DataW.trod_int Try.underlying2 hy0
  obtain ⟨b, e1, rfl, wb⟩ := DataW.trod_int Try.underlying22 hy1
  obtain ⟨c, e2, rfl, wc⟩ := DataW.trod_int Try.underlying22 hy2
  simp at e0 e1 e2
  subst e0 e1 e2
  simp [Lit.wf, IntKind.min, IntKind.max, IntKind.signed, IntKind.bits] at wa wb wc
  exact ⟨a, b, c, rfl, wa, wb, wc⟩
end

end Go.Proofs.Ytghinjnhcepaeaa
