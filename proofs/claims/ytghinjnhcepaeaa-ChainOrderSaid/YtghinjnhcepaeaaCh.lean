import Derived.Test.YtghinjnhcepaeaaStamp
import Derived.Test.YtghinjnhcepaeaaRows2
import Derived.Test.YtghinjnhcepaeaaSkip
import Derived.Test.YtghinjnhcepaeaaFirst
import Derived.Test.YtghinjnhcepaeaaOnly
/-! Versions: their cells, the program's and the document's; whether one may be. -/
namespace Go.Proofs.Ytghinjnhcepaeaa
open Go.RowKit
set_option linter.unusedVariables false
set_option linter.unusedSimpArgs false
theorem own_slice {base : Nat} {e : TypeId} {size n : Nat} {w : World} {v : Value} {xs : List Value} (h : w.ownsRow base e size v n xs) : ∃ A cap, v = .slice A n cap ∧ n ≤ cap := by
  rcases h.2 with ⟨rfl, rfl⟩ | ⟨g, cap, cur, rfl, -, -, hn, -⟩
  · exact ⟨none, 0, rfl, Nat.le_refl _⟩
  · exact ⟨_, _, rfl, hn⟩
structure Ver where
  a : Int
  b : Int
  c : Int
  kd : Int
  num : Int
  text : ByteArray
  deriving Inhabited
def Ver.arr (x : Ver) : Array Value := #[.int .i64 x.a, .int .u32 x.b, .int .u32 x.c, .int .i64 x.kd, .int .i64 x.num, .string x.text]
def Ver.cells (x : Ver) : List Value := [.int .i64 x.a, .int .u32 x.b, .int .u32 x.c, .int .i64 x.kd, .int .i64 x.num, .string x.text]
theorem Ver.len (x : Ver) : x.cells.length = 6 := rfl
def Ver.ok (x : Ver) : Prop := I64 x.a ∧ U32 x.b ∧ U32 x.c ∧ I64 x.kd ∧ I64 x.num ∧ x.text.size ≤ maxLen
def vsV (l : List Ver) : List Value := rowsV Ver.cells l
theorem infoV : (Try.prog.info? 31).map (fun i => (i.zero, i.size, i.bytes)) = some (some (.agg #[.int .i64 0, .int .u32 0, .int .u32 0, .int .i64 0, .int .i64 0, .string ⟨#[]⟩]), 6, 48) := by kernel_rfl
theorem infoR : (Try.prog.info? 26).map (fun i => (i.zero, i.size, i.bytes)) = some (some (.agg #[.int .i64 0, .int .u32 0, .int .u32 0, .int .i64 0, .int .i64 0, .string ⟨#[]⟩]), 6, 48) := by kernel_rfl
theorem Blk.six {w : World} {g : Nat} {t : TypeId} {a b c d e f u v x y z q : Value} (h : Blk w g t #[a, b, c, d, e, f]) :
    Blk ((((((w.setCell ⟨g, 0, none⟩ u).setCell ⟨g, 1, none⟩ v).setCell ⟨g, 2, none⟩ x).setCell ⟨g, 3, none⟩ y).setCell ⟨g, 4, none⟩ z).setCell ⟨g, 5, none⟩ q) g t #[u, v, x, y, z, q] := (((((h.set_ 0 u).set_ 1 v).set_ 2 x).set_ 3 y).set_ 4 z).set_ 5 q
set_option maxRecDepth 100000 in
set_option maxHeartbeats 1000000 in
theorem vto_any (x : Ver) (w : World) :
    Calls Try.prog 10 #[.agg #[.int .i64 x.a, .int .u32 x.b, .int .u32 x.c, .int .i64 x.kd, .int .i64 x.num, .string x.text]] w fun e w' => e = .returned (.agg #[.int .i64 x.a, .int .u32 x.b, .int .u32 x.c, .int .i64 x.kd, .int .i64 x.num, .string x.text]) ∧ Below w.heap.size w w' := by
  have hN := Blk.made w (.cells x.arr 26) 31 #[.int .i64 0, .int .u32 0, .int .u32 0, .int .i64 0, .int .i64 0, .string ⟨#[]⟩]
  go_enter Try.func10, Try.ntmps10
  go_wp2
  refine First.wp_region_first_ext [1, 4, 6, 8] [0, 3, 5, 7, 9] [(true, false, 0), (true, true, 1), (true, false, 3), (true, true, 4), (true, false, 5), (true, true, 6), (true, false, 7), (true, true, 8), (false, true, 2), (true, false, 9), (false, false, 10)] (by kernel_rfl) (by kernel_rfl) (fun Y => ?_); simp only [List.map_cons, List.map_nil, List.getD_cons_zero, List.getD_cons_succ]
  (repeat (first | (refine First.wpF_pure (fun K hK => ?_); go_simp; first | (refine hK _ _ ?_; clear hK K) | (apply Exists.intro; refine ⟨fun _ => ?_, hK _ _ ?_⟩; fail)) | (refine First.wpF_free (fun K hK => ?_); go_simp; first | (refine hK _ _ ?_; clear hK K))))
  refine First.wpF_must (fun K hK => ?_)
  go_wp2_with (go_at_call 14; (with_reducible refine (to_any _ _ _ _).mono ?_); rintro e w' ⟨rfl, hb⟩; obtain ⟨X, rfl⟩ := World.ext_of_below hb; clear hb)
  (refine hK _ _ (fun hnd => by first | exact Bool.noConfusion hnd | assumption | with_reducible exact grown_alloc _ _ | with_reducible exact First.Grown.refl _ | with_reducible exact First.Grown.cat _ _ _ | with_reducible exact First.Grown.ext _ _) ?_; clear hK K)
  (repeat (first | (refine First.wpF_pure (fun K hK => ?_); go_simp; first | (refine hK _ _ ?_; clear hK K) | (apply Exists.intro; refine ⟨fun _ => ?_, hK _ _ ?_⟩; fail)) | (refine First.wpF_free (fun K hK => ?_); go_simp; first | (refine hK _ _ ?_; clear hK K))))
  refine First.wpF_must (fun K hK => ?_)
  go_wp2
  (refine hK _ _ (fun hnd => by first | exact Bool.noConfusion hnd | assumption | with_reducible exact grown_alloc _ _ | with_reducible exact First.Grown.refl _ | with_reducible exact First.Grown.cat _ _ _ | with_reducible exact First.Grown.ext _ _) ?_; clear hK K)
  refine First.wpF_nil ?_
  go_wp2
  refine bodyPost_cell Try.results10 rfl (Blk.six (hN.ext (Y.cat X))) Try.underlying31 rfl (by kernel_rfl) rfl ⟨rfl, ?_⟩
  clear hN
  (repeat' (first | with_reducible exact Below.refl _ _ | with_reducible refine Below.ext ?_ ?_ _ | with_reducible refine Below.alloc ?_ ?_ _ | with_reducible refine Below.setCell ?_ ?_ _ | with_reducible refine Below.drew ?_ | with_reducible assumption | (simp [World.size_ext]; done) | (simp [World.size_ext]; omega)))
set_option maxRecDepth 100000 in
set_option maxHeartbeats 1000000 in
theorem vfrom_any (x : Ver) (w : World) :
    Calls Try.prog 16 #[.agg #[.int .i64 x.a, .int .u32 x.b, .int .u32 x.c, .int .i64 x.kd, .int .i64 x.num, .string x.text]] w fun e w' => e = .returned (.agg #[.int .i64 x.a, .int .u32 x.b, .int .u32 x.c, .int .i64 x.kd, .int .i64 x.num, .string x.text]) ∧ Below w.heap.size w w' := by
  have hN := Blk.made w (.cells x.arr 31) 26 #[.int .i64 0, .int .u32 0, .int .u32 0, .int .i64 0, .int .i64 0, .string ⟨#[]⟩]
  go_enter Try.func16, Try.ntmps16
  go_wp2
  refine First.wp_region_first_ext [1, 4, 6, 8] [0, 3, 5, 7, 9] [(true, false, 0), (true, true, 1), (true, false, 3), (true, true, 4), (true, false, 5), (true, true, 6), (true, false, 7), (true, true, 8), (false, true, 2), (true, false, 9), (false, false, 10)] (by kernel_rfl) (by kernel_rfl) (fun Y => ?_); simp only [List.map_cons, List.map_nil, List.getD_cons_zero, List.getD_cons_succ]
  (repeat (first | (refine First.wpF_pure (fun K hK => ?_); go_simp; first | (refine hK _ _ ?_; clear hK K) | (apply Exists.intro; refine ⟨fun _ => ?_, hK _ _ ?_⟩; fail)) | (refine First.wpF_free (fun K hK => ?_); go_simp; first | (refine hK _ _ ?_; clear hK K))))
  refine First.wpF_must (fun K hK => ?_)
  go_wp2_with (go_at_call 29; (with_reducible refine (from_any _ _ _ _).mono ?_); rintro e w' ⟨rfl, hb⟩; obtain ⟨X, rfl⟩ := World.ext_of_below hb; clear hb)
  (refine hK _ _ (fun hnd => by first | exact Bool.noConfusion hnd | assumption | with_reducible exact grown_alloc _ _ | with_reducible exact First.Grown.refl _ | with_reducible exact First.Grown.cat _ _ _ | with_reducible exact First.Grown.ext _ _) ?_; clear hK K)
  (repeat (first | (refine First.wpF_pure (fun K hK => ?_); go_simp; first | (refine hK _ _ ?_; clear hK K) | (apply Exists.intro; refine ⟨fun _ => ?_, hK _ _ ?_⟩; fail)) | (refine First.wpF_free (fun K hK => ?_); go_simp; first | (refine hK _ _ ?_; clear hK K))))
  refine First.wpF_must (fun K hK => ?_)
  go_wp2
  (refine hK _ _ (fun hnd => by first | exact Bool.noConfusion hnd | assumption | with_reducible exact grown_alloc _ _ | with_reducible exact First.Grown.refl _ | with_reducible exact First.Grown.cat _ _ _ | with_reducible exact First.Grown.ext _ _) ?_; clear hK K)
  refine First.wpF_nil ?_
  go_wp2
  refine bodyPost_cell Try.results16 rfl (Blk.six (hN.ext (Y.cat X))) Try.underlying26 rfl (by kernel_rfl) rfl ⟨rfl, ?_⟩
  clear hN
  (repeat' (first | with_reducible exact Below.refl _ _ | with_reducible refine Below.ext ?_ ?_ _ | with_reducible refine Below.alloc ?_ ?_ _ | with_reducible refine Below.setCell ?_ ?_ _ | with_reducible refine Below.drew ?_ | with_reducible assumption | (simp [World.size_ext]; done) | (simp [World.size_ext]; omega)))
def vright (x : Ver) : Bool :=
  rightB x.a && decide (x.text.size ≤ 256) && (if x.kd = 1 then x.text.toList.isEmpty else if x.kd = 2 then x.num == 0 else if x.kd = 3 then x.text.toList.isEmpty && x.num == 0 else false)
set_option maxRecDepth 100000 in
set_option maxHeartbeats 4000000 in
theorem vright_any (x : Ver) (w : World) :
    Calls Try.prog 9 #[.agg #[.int .i64 x.a, .int .u32 x.b, .int .u32 x.c, .int .i64 x.kd, .int .i64 x.num, .string x.text]] w fun e w' => e = .returned (.bool (vright x)) ∧ Below w.heap.size w w' := by
  obtain ⟨a, b, c, kd, num, text⟩ := x
  generalize hv : vright ⟨a, b, c, kd, num, text⟩ = r
  replace hv := hide hv
  cases h1 : rightB a with
  | false =>
    go_enter Try.func9, Try.ntmps9
    go_wp2_with (first | (go_at_call 24; (with_reducible refine (right_any _ _ _ _).mono ?_); rintro e w' ⟨rfl, hb⟩; obtain ⟨X, rfl⟩ := World.ext_of_below hb; clear hb; rw [h1]))
    go_ret
    exact ⟨by rw [← hv.out]; simp [vright, h1], by (repeat' (first | with_reducible exact Below.refl _ _ | with_reducible refine Below.ext ?_ ?_ _ | with_reducible refine Below.alloc ?_ ?_ _ | with_reducible refine Below.setCell ?_ ?_ _ | with_reducible refine Below.drew ?_ | with_reducible assumption | (simp [World.size_ext]; done) | (simp [World.size_ext]; omega)))⟩
  | true =>
    go_enter Try.func9, Try.ntmps9
    go_wp2_with (first | (go_at_call 24; (with_reducible refine (right_any _ _ _ _).mono ?_); rintro e w' ⟨rfl, hb⟩; obtain ⟨X, rfl⟩ := World.ext_of_below hb; clear hb; rw [h1]))
    all_goals
      go_ret
      refine ⟨congrArg (fun b => Ending.returned (.bool b)) (Eq.trans ?_ hv.out), by (repeat' (first | with_reducible exact Below.refl _ _ | with_reducible refine Below.ext ?_ ?_ _ | with_reducible refine Below.alloc ?_ ?_ _ | with_reducible refine Below.setCell ?_ ?_ _ | with_reducible refine Below.drew ?_ | with_reducible assumption | (simp [World.size_ext]; done) | (simp [World.size_ext]; omega)))⟩
      simp only [vright, h1, Bool.true_and, beq_iff_eq, beq_eq_false_iff_ne, ne_eq] at *
      simp [*] <;> omega
set_option maxRecDepth 100000 in
set_option maxHeartbeats 4000000 in
theorem rright10_any (x : Ver) (w : World) :
    Calls Try.prog 11 #[.agg #[.int .i64 x.a, .int .u32 x.b, .int .u32 x.c, .int .i64 x.kd, .int .i64 x.num, .string x.text]] w fun e w' => e = .returned (.bool (vright x)) ∧ Below w.heap.size w w' := by
  obtain ⟨a, b, c, kd, num, text⟩ := x
  generalize hv : vright ⟨a, b, c, kd, num, text⟩ = r
  replace hv := hide hv
  cases h1 : rightB a with
  | false =>
    go_enter Try.func11, Try.ntmps11
    go_wp2_with (first | (go_at_call 25; (with_reducible refine (rright_any _ _ _ _).mono ?_); rintro e w' ⟨rfl, hb⟩; obtain ⟨X, rfl⟩ := World.ext_of_below hb; clear hb; rw [h1]))
    go_ret
    exact ⟨by rw [← hv.out]; simp [vright, h1], by (repeat' (first | with_reducible exact Below.refl _ _ | with_reducible refine Below.ext ?_ ?_ _ | with_reducible refine Below.alloc ?_ ?_ _ | with_reducible refine Below.setCell ?_ ?_ _ | with_reducible refine Below.drew ?_ | with_reducible assumption | (simp [World.size_ext]; done) | (simp [World.size_ext]; omega)))⟩
  | true =>
    go_enter Try.func11, Try.ntmps11
    go_wp2_with (first | (go_at_call 25; (with_reducible refine (rright_any _ _ _ _).mono ?_); rintro e w' ⟨rfl, hb⟩; obtain ⟨X, rfl⟩ := World.ext_of_below hb; clear hb; rw [h1]))
    all_goals
      go_ret
      refine ⟨congrArg (fun b => Ending.returned (.bool b)) (Eq.trans ?_ hv.out), by (repeat' (first | with_reducible exact Below.refl _ _ | with_reducible refine Below.ext ?_ ?_ _ | with_reducible refine Below.alloc ?_ ?_ _ | with_reducible refine Below.setCell ?_ ?_ _ | with_reducible refine Below.drew ?_ | with_reducible assumption | (simp [World.size_ext]; done) | (simp [World.size_ext]; omega)))⟩
      simp only [vright, h1, Bool.true_and, beq_iff_eq, beq_eq_false_iff_ne, ne_eq] at *
      have e1 : ∀ k : Int, kd = k → (kd == 1) = (k == 1) ∧ (kd == 2) = (k == 2) := fun k h => by subst h; exact ⟨rfl, rfl⟩
      first | (simp [*] <;> omega; done) | ((repeat' split) <;> simp_all <;> omega)
end Go.Proofs.Ytghinjnhcepaeaa
