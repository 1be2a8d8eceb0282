import Derived.Test.YtijegnhkkgdihaaTally7
/-! Window by window: the program. -/
namespace Go.Proofs.Ytijegnhkkgdihaa
open Go.RowKit
set_option linter.unusedVariables false
set_option linter.unusedSimpArgs false
/-- From a place on, the samples ahead of a time are passed. -/
def adv (l : List (Int × Int)) (t : Int) (a : Nat) : Nat := a + ((l.drop a).takeWhile fun p => decide (p.1 < t)).length
theorem adv_step {l : List (Int × Int)} {t : Int} {a : Nat} {p : Int × Int} (hp : l[a]? = some p) (h : p.1 < t) : adv l t (a + 1) = adv l t a := by
  unfold adv
  have hd : l.drop a = p :: l.drop (a + 1) := by
    obtain ⟨ha, rfl⟩ := List.getElem?_eq_some_iff.1 hp
    exact List.drop_eq_getElem_cons ha
  rw [hd, List.takeWhile_cons, if_pos (by simpa using h)]
  simp only [List.length_cons]
  omega
theorem adv_stop {l : List (Int × Int)} {t : Int} {a : Nat} {p : Int × Int} (hp : l[a]? = some p) (h : ¬p.1 < t) : adv l t a = a := by
  unfold adv
  have hd : l.drop a = p :: l.drop (a + 1) := by
    obtain ⟨ha, rfl⟩ := List.getElem?_eq_some_iff.1 hp
    exact List.drop_eq_getElem_cons ha
  rw [hd, List.takeWhile_cons, if_neg (by simpa using h)]
  rfl
theorem adv_end {l : List (Int × Int)} {t : Int} {a : Nat} (h : l.length ≤ a) : adv l t a = a := by
  unfold adv
  rw [List.drop_of_length_le h]
  rfl
theorem adv_le {l : List (Int × Int)} {t : Int} {a : Nat} (h : a ≤ l.length) : adv l t a ≤ l.length := by
  unfold adv
  have := (List.takeWhile_sublist (fun p : Int × Int => decide (p.1 < t)) (l := l.drop a)).length_le
  rw [List.length_drop] at this
  omega
theorem le_adv {l : List (Int × Int)} {t : Int} {a : Nat} : a ≤ adv l t a := Nat.le_add_right _ _
def cut (l : List (Int × Int)) (a b : Nat) : List (Int × Int) := (l.drop a).take (b - a)
def winP (op : Int) (l : List (Int × Int)) (to step : Int) : Nat → Int → Nat → List (Int × Int) → List (Int × Int) × Int
  | 0, _, _, out => (out, 0)
  | f + 1, s, a, out =>
    if s < to then
      let e := if step < to - s then s + step else to
      let a1 := adv l s a
      let a2 := adv l e a1
      if a1 = a2 then if e = to then (out, 0) else winP op l to step f (s + step) a2 out
      else if (foldA op (cut l a1 a2)).2.2 ≠ 0 then ([], (foldA op (cut l a1 a2)).2.2)
      else if e = to then (out ++ [(s, (foldA op (cut l a1 a2)).1)], 0) else winP op l to step f (s + step) a2 (out ++ [(s, (foldA op (cut l a1 a2)).1)])
    else (out, 0)
def badW (op : Int) (n : Nat) (from_ to step : Int) : Prop := op < 1 ∨ 5 < op ∨ from_ < 0 ∨ to < from_ ∨ 4611686018427387904 < to ∨ step < 1 ∨ 65536 < n
def manyW (from_ to step : Int) : Prop := from_ < to ∧ 1024 ≤ (to - from_ - 1) / step
open Classical in
noncomputable def winsA (op : Int) (l : List (Int × Int)) (from_ to step : Int) : List (Int × Int) × Int :=
  if badW op l.length from_ to step then ([], 1) else if manyW from_ to step then ([], 8) else winP op l to step 1024 from_ 0 []
theorem infoC : (Try.prog.info? 51).map (fun i => (i.zero, i.size, i.bytes)) = some (some (.agg #[.int .i64 0, .int .i64 0]), 2, 16) := by kernel_rfl
theorem foldA_bd (op : Int) (l : List (Int × Int)) (hl : I64s l) : -9223372036854775808 ≤ (foldA op l).1 ∧ (foldA op l).1 ≤ 9223372036854775807 := by
  unfold foldA
  split
  · simp
  · rename_i h
    split
    · simp; omega
    · split
      · simp
      · rename_i h3
        have hh : -9223372036854775808 ≤ (l.headD (0, 0)).2 ∧ (l.headD (0, 0)).2 ≤ 9223372036854775807 := (hl _ (head_mem h3)).2
        split
        · exact bestL_bd _ _ _ hh hl
        · split
          · assumption
          · simp
theorem many_step {to s step : Int} {f : Nat} (h : to - s ≤ (f + 1 : Nat) * step) : to - (s + step) ≤ f * step := by
  have : ((f + 1 : Nat) : Int) * step = f * step + step := by rw [Int.natCast_add, Int.add_mul]; simp
  omega
theorem many_start {from_ to step : Int} (hs : 0 < step) (h : ¬manyW from_ to step) : to - from_ ≤ (1024 : Nat) * step := by
  unfold manyW at h
  by_cases h0 : from_ < to
  · have h1 : (to - from_ - 1) / step < 1024 := by omega
    have h2 := Int.lt_mul_of_ediv_lt hs h1
    omega
  · have : (0 : Int) ≤ 1024 * step := Int.mul_nonneg (by omega) (by omega)
    omega
theorem winP_step {op : Int} {l : List (Int × Int)} {to step s e : Int} {f a a1 a2 : Nat} {out : List (Int × Int)} (h : s < to) (he : e = if step < to - s then s + step else to) (h1 : a1 = adv l s a) (h2 : a2 = adv l e a1) :
    winP op l to step (f + 1) s a out = if a1 = a2 then if e = to then (out, 0) else winP op l to step f (s + step) a2 out
      else if (foldA op (cut l a1 a2)).2.2 ≠ 0 then ([], (foldA op (cut l a1 a2)).2.2)
      else if e = to then (out ++ [(s, (foldA op (cut l a1 a2)).1)], 0) else winP op l to step f (s + step) a2 (out ++ [(s, (foldA op (cut l a1 a2)).1)]) := by
  subst he h1 h2
  simp only [winP, if_pos h]
theorem winP_end {op : Int} {l : List (Int × Int)} {to step s : Int} {f a : Nat} {out : List (Int × Int)} (h : ¬s < to) : winP op l to step f s a out = (out, 0) := by
  cases f with
  | zero => rfl
  | succ f => simp only [winP, if_neg h]
theorem own_keep {w w' : World} {base n size : Nat} {e : TypeId} {v : Value} {xs : List Value} (h : w.ownsRow base e size v n xs) (hb : Below w.heap.size w w') : w'.ownsRow base e size v n xs := by
  refine ⟨h.1, ?_⟩
  rcases h.2 with h1 | ⟨g', cap', cur, h1, h2, h3, h4⟩
  · exact .inl h1
  · exact .inr ⟨g', cap', cur, h1, h2, (hb.block g' (blk_lt h3)).trans h3, h4⟩
theorem cut_length (l : List (Int × Int)) {a b : Nat} (h : b ≤ l.length) : (cut l a b).length = b - a := by
  unfold cut
  rw [List.length_take, List.length_drop]
  omega
theorem I64s.cut {l : List (Int × Int)} (h : I64s l) (a b : Nat) : I64s (cut l a b) := fun p hp => h p (List.mem_of_mem_drop (List.mem_of_mem_take hp))
theorem smps_snoc (l : List (Int × Int)) (p : Int × Int) : smps (l ++ [p]) = smps l ++ [.int .i64 p.1, .int .i64 p.2] := by rw [smps_append]; rfl
end Go.Proofs.Ytijegnhkkgdihaa
