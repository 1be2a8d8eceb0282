import Derived.Test.YtghinjnhcepaeaaCh25
/-! Whatever the order in which versions are put. -/
namespace Go.Proofs.Ytghinjnhcepaeaa
open Go.RowKit
set_option linter.unusedVariables false
set_option linter.unusedSimpArgs false
theorem srt_eq : ∀ {l m : List Ver}, Srt l → Srt m → (∀ z, z ∈ l ↔ z ∈ m) → l = m
  | [], [], _, _, _ => rfl
  | [], y :: m, _, _, h => by have := (h y).2 (by simp); cases this
  | x :: l, [], _, _, h => by have := (h x).1 (by simp); cases this
  | x :: l, y :: m, hl, hm, h => by
    obtain ⟨hl1, hl2⟩ := List.pairwise_cons.1 hl
    obtain ⟨hm1, hm2⟩ := List.pairwise_cons.1 hm
    have hxy : x = y := by
      rcases List.mem_cons.1 ((h x).1 (by simp)) with e | hx
      · exact e
      · rcases List.mem_cons.1 ((h y).2 (by simp)) with e | hy
        · exact e.symm
        · have h1 := hm1 x hx
          have h2 := hl1 y hy
          omega
    subst hxy
    congr 1
    refine srt_eq hl2 hm2 fun z => ⟨fun hz => ?_, fun hz => ?_⟩
    · rcases List.mem_cons.1 ((h z).1 (by simp [hz])) with e | h'
      · have := hl1 z hz; rw [e] at this; omega
      · exact h'
    · rcases List.mem_cons.1 ((h z).2 (by simp [hz])) with e | h'
      · have := hm1 z hz; rw [e] at this; omega
      · exact h'
def Apart (P : List Ver) : Prop := P.Pairwise (fun x y => x.k ≠ y.k)
theorem Apart.of_perm {P L : List Ver} (h : P.Perm L) (hs : Srt L) : Apart P := by
  have h1 : L.Pairwise (fun x y => x.k ≠ y.k) := List.Pairwise.imp (fun hxy => by omega) hs
  exact (h.pairwise_iff (fun hxy => fun e => hxy e.symm)).2 h1
theorem ML_put {P : List Ver} (hok : ∀ x ∈ P, x.ok) (hr : ∀ x ∈ P, vright x = true) (ha : Apart P) : ∀ j, j ≤ P.length → (ML P j).Perm (P.take j)
  | 0, _ => by simp [ML]
  | j + 1, hj => by
    have ih := ML_put hok hr ha j (by omega)
    have hx := List.getElem?_eq_getElem (l := P) (i := j) (by omega)
    have he : errL (ML P j) P[j] = 0 := by
      refine errL_zero.2 ⟨hr _ (List.getElem_mem _), ?_⟩
      simp only [hasK, List.any_eq_false, decide_eq_true_eq]
      intro z hz
      obtain ⟨i, hi⟩ := List.getElem?_of_mem (ih.mem_iff.1 hz)
      have hij : i < j := by have := (List.getElem?_eq_some_iff.1 hi).1; rw [List.length_take] at this; omega
      rw [List.getElem?_take_of_lt hij] at hi
      obtain ⟨h1, rfl⟩ := List.getElem?_eq_some_iff.1 hi
      exact List.pairwise_iff_getElem.1 ha i j _ _ hij
    rw [ML_succ hx, List.take_add_one, hx]
    unfold stepL
    rw [if_pos he]
    refine (putL_perm _ _).trans ?_
    refine (List.Perm.cons _ ih).trans ?_
    exact (List.perm_append_singleton P[j] (P.take j)).symm
theorem ML_err {P : List Ver} (hok : ∀ x ∈ P, x.ok) (hr : ∀ x ∈ P, vright x = true) (ha : Apart P) {j : Nat} {x : Ver} (hx : P[j]? = some x) : errL (ML P j) x = 0 := by
  have hj := (List.getElem?_eq_some_iff.1 hx).1
  refine errL_zero.2 ⟨hr _ (List.mem_of_getElem? hx), ?_⟩
  simp only [hasK, List.any_eq_false, decide_eq_true_eq]
  intro z hz
  obtain ⟨i, hi⟩ := List.getElem?_of_mem ((ML_put hok hr ha j (by omega)).mem_iff.1 hz)
  have hij : i < j := by have := (List.getElem?_eq_some_iff.1 hi).1; rw [List.length_take] at this; omega
  rw [List.getElem?_take_of_lt hij] at hi
  obtain ⟨h1, rfl⟩ := List.getElem?_eq_some_iff.1 hi
  obtain ⟨h2, rfl⟩ := List.getElem?_eq_some_iff.1 hx
  exact List.pairwise_iff_getElem.1 ha i j _ _ hij
theorem ML_perm {P L : List Ver} (h : P.Perm L) (hg : Good L) : ML P P.length = L := by
  have hok : ∀ x ∈ P, x.ok := fun x hx => hg.ok x (h.mem_iff.1 hx)
  have hr : ∀ x ∈ P, vright x = true := fun x hx => hg.right x (h.mem_iff.1 hx)
  have hp := ML_put hok hr (Apart.of_perm h hg.srt) P.length (Nat.le_refl _)
  rw [List.take_of_length_le (Nat.le_refl _)] at hp
  exact srt_eq (ML_good hok _).srt hg.srt fun z => by rw [hp.mem_iff, h.mem_iff]
theorem Chn.setN {v : Value} {L : List Ver} {p : Nat} (ho : Off p v L) : ∀ (vs : List Value) (o : Nat) (w : World), Chn w v L → Chn (w.setCells p o vs) v L
  | [], _, _, h => h
  | x :: vs, o, w, h => Chn.setN ho vs (o + 1) (w.setCell ⟨p, o, none⟩ x) (h.set1 ho x)
/-- A row of versions that is owned: its block. -/
structure Row6 (w : World) (g n : Nat) (P : List Ver) : Prop where
  len : P.length = n
  blk : ∃ cap cs, Blk w g 31 cs ∧ n ≤ cap ∧ cs.size = cap * 6 ∧ cs.toList.take (n * 6) = vsV P
theorem Row6.cell {w : World} {g n : Nat} {P : List Ver} (h : Row6 w g n P) (j : Nat) (u : Value) (hu : (vsV P)[j]? = some u) : w.cell? ⟨g, 0 + j, none⟩ = some u := by
  obtain ⟨cap, cs, hb, _, _, ht⟩ := h.blk
  rw [Nat.zero_add, hb.cell]
  rw [← ht, List.getElem?_take] at hu
  split at hu
  · rwa [Array.getElem?_toList] at hu
  · cases hu
theorem Row6.lt {w : World} {g n : Nat} {P : List Ver} (h : Row6 w g n P) : g < w.heap.size := by
  obtain ⟨cap, cs, hb, _⟩ := h.blk; exact hb.lt
theorem Row6.below {w w' : World} {g n B : Nat} {P : List Ver} (h : Row6 w g n P) (hb : Below B w w') (hg : g < B) : Row6 w' g n P := by
  obtain ⟨cap, cs, h1, h2⟩ := h.blk
  exact ⟨h.len, cap, cs, h1.below hb hg, h2⟩
theorem Row6.frozen {w : World} {g n : Nat} {P : List Ver} (h : Row6 w g n P) (i : Nat) : w.frozen? ⟨g, i, none⟩ = false := by
  obtain ⟨cap, cs, hb, _⟩ := h.blk; exact hb.frozen i
theorem vsV_set : ∀ (P : List Ver) (a : Nat) (x : Ver) (j : Nat), a < P.length → (vsV (P.set a x))[j]? = if a * 6 ≤ j ∧ j < a * 6 + 6 then x.cells[j - a * 6]? else (vsV P)[j]?
  | y :: P, 0, x, j, _ => by
    rw [List.set_cons_zero, vsV_cons, vsV_cons, List.getElem?_append, List.getElem?_append, Ver.len, Ver.len]
    split
    · rw [if_pos (by omega)]; simp
    · rw [if_neg (by omega)]
  | y :: P, a + 1, x, j, h => by
    have ih := vsV_set P a x (j - 6) (by simpa using h)
    rw [List.set_cons_succ, vsV_cons, vsV_cons, List.getElem?_append, List.getElem?_append, Ver.len, ih]
    split
    · rw [if_neg (by omega)]
    · rename_i hj
      by_cases hc : a * 6 ≤ j - 6 ∧ j - 6 < a * 6 + 6
      · rw [if_pos hc, if_pos (by omega), show j - (a + 1) * 6 = j - 6 - a * 6 by omega]
      · rw [if_neg hc, if_neg (by omega)]
theorem Row6.set {w : World} {g n : Nat} {P : List Ver} (h : Row6 w g n P) {a : Nat} (ha : a < n) (x : Ver) : Row6 (w.setCells g (a * 6) x.cells) g n (P.set a x) := by
  obtain ⟨cap, cs, h1, h2, h3, h4⟩ := h.blk
  have hl := h.len
  obtain ⟨cs', hB, hs, hb, hm, haf⟩ := blk_splice x.cells (a * 6) w cs h1 (by rw [h3, Ver.len]; omega)
  refine ⟨by rw [List.length_set, hl], cap, cs', hB, h2, by rw [hs, h3], ?_⟩
  apply List.ext_getElem?
  intro j
  rw [vsV_set P a x j (by omega)]
  rcases Nat.lt_or_ge j (n * 6) with hj | hj
  · have hcs : cs[j]? = (vsV P)[j]? := by rw [← h4, List.getElem?_take_of_lt hj, Array.getElem?_toList]
    rw [List.getElem?_take_of_lt hj, Array.getElem?_toList]
    split
    · rename_i hc
      have := hm (j - a * 6) (by rw [Ver.len]; omega)
      rwa [show a * 6 + (j - a * 6) = j by omega] at this
    · rename_i hc
      rcases Nat.lt_or_ge j (a * 6) with h' | h'
      · rw [hb j h', hcs]
      · rw [haf j (by rw [Ver.len]; omega), hcs]
  · rw [List.getElem?_eq_none (by rw [List.length_take]; omega), if_neg (by omega), List.getElem?_eq_none (by rw [vsV_length, hl]; omega)]
theorem Row6.some {w : World} {g n : Nat} {P : List Ver} (h : Row6 w g n P) {j : Nat} (hj : j < n * 6) : (w.cell? ⟨g, j, none⟩).isSome = true := by
  have := h.cell j _ (List.getElem?_eq_getElem (by rw [vsV_length, h.len]; exact hj))
  rw [Nat.zero_add] at this
  rw [this]; rfl
theorem run_storeV (w : World) (g off : Nat) (v : Ver) (hc : ∀ j, j < 6 → (w.cell? ⟨g, off + j, none⟩).isSome = true) (hf : ∀ j, j < 6 → w.frozen? ⟨g, off + j, none⟩ = false) :
    (Instr.storeAt 31 (.pointer (some ⟨g, off, none⟩)) (.agg #[.int .i64 v.a, .int .u32 v.b, .int .u32 v.c, .int .i64 v.kd, .int .i64 v.num, .string v.text])).run Try.prog w = .ok () (w.setCells g off v.cells) := by
  have hst := run_storeCells_cells (P := Try.prog) g off v.cells 0 w (fun j hj => by rw [Nat.add_zero]; exact hc j hj) (fun j hj => by rw [Nat.add_zero]; exact hf j hj) (fun u hu => vsV_one (l := [v]) (by rw [vsV_cons]; exact List.mem_append_left _ hu))
  obtain ⟨i0, hi, _, hz1, _⟩ := info_parts infoV
  have hl : (#[.int .i64 v.a, .int .u32 v.b, .int .u32 v.c, .int .i64 v.kd, .int .i64 v.num, .string v.text]).toList = v.cells := rfl
  simp [Instr.storeAt, storeVar, sizeOf, typeInfo, hi, hz1, Value.cells, Instr.sureAddr]
  exact hst
theorem wpList_storeV {ops : Array Oper} {rest : List Oper} {o : Oper} {a : Act} {w : World} {Q : Exit → Act → World → Prop} (hgd : o.guard = none) (p x : Operand) (ho : o.op = .store 31 p x) (g off : Nat) (v : Ver)
    (hp : a.eval p = .pointer (some ⟨g, off, none⟩)) (hx : a.eval x = .agg #[.int .i64 v.a, .int .u32 v.b, .int .u32 v.c, .int .i64 v.kd, .int .i64 v.num, .string v.text]) (hc : ∀ j, j < 6 → (w.cell? ⟨g, off + j, none⟩).isSome = true) (hf : ∀ j, j < 6 → w.frozen? ⟨g, off + j, none⟩ = false)
    (h : wpList Try.prog ops Q rest (a.put o.dst undef) (w.setCells g off v.cells)) : wpList Try.prog ops Q (o :: rest) a w :=
  wpList_plain hgd fun K hK => by
    unfold Oper.wp execOp
    simp only [ho, hp, hx, Sem.run_bind, run_storeV w g off v hc hf, Result.andThen_ok, Sem.run_pure]
    exact hK _ _ h
end Go.Proofs.Ytghinjnhcepaeaa
