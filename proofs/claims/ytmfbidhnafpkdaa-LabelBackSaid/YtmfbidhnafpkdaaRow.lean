import Derived.Test.YtmfbidhnafpkdaaTo
import Derived.Test.YtmfbidhnafpkdaaSeg
import Derived.Lib.SliceRun
import Derived.Laws.IdiomCopy
/-! A row of labels of the call's own; a list of labels cloned. -/
namespace Go.Proofs.Ytmfbidhnafpkdaa
open Go.RowKit
set_option linter.unusedVariables false
set_option linter.unusedSimpArgs false
theorem blk_splice {g : Nat} {t : TypeId} : ∀ (vs : List Value) (o : Nat) (w : World) (cs : Array Value), Blk w g t cs → o + vs.length ≤ cs.size →
    ∃ cs', Blk (w.setCells g o vs) g t cs' ∧ cs'.size = cs.size ∧ (∀ i, i < o → cs'[i]? = cs[i]?) ∧ (∀ j, j < vs.length → cs'[o + j]? = vs[j]?) ∧ (∀ i, o + vs.length ≤ i → cs'[i]? = cs[i]?)
  | [], o, w, cs, h, _ => ⟨cs, h, rfl, fun _ _ => rfl, fun j hj => by simp at hj, fun _ _ => rfl⟩
  | v :: vs, o, w, cs, h, hs => by
    simp only [List.length_cons] at hs
    obtain ⟨cs', h1, h2, h3, h4, h5⟩ := blk_splice vs (o + 1) (w.setCell ⟨g, o, none⟩ v) _ (h.set_ o v) (by simp; omega)
    refine ⟨cs', h1, by simpa using h2, fun i hi => (h3 i (by omega)).trans (Array.getElem?_setIfInBounds_ne (by omega)), fun j hj => ?_, fun i hi => (h5 i (by simp only [List.length_cons] at hi; omega)).trans (Array.getElem?_setIfInBounds_ne (by simp only [List.length_cons] at hi; omega))⟩
    cases j with
    | zero => rw [Nat.add_zero, h3 o (by omega), Array.getElem?_setIfInBounds_self]; simp; omega
    | succ j =>
      have := h4 j (by simpa using hj)
      rw [show o + (j + 1) = o + 1 + j by omega, this]
      rfl
theorem only_setCells {g : Nat} : ∀ (vs : List Value) (o : Nat) (w : World), Only w (w.setCells g o vs) g
  | [], o, w => Only.refl w g
  | v :: vs, o, w => (Only.setCell w g o v).trans (only_setCells vs (o + 1) (w.setCell ⟨g, o, none⟩ v))
/-- A row of labels that is owned: its block. -/
structure Row2 (w : World) (g n : Nat) (P : List Par) : Prop where
  len : P.length = n
  blk : ∃ cap cs, Blk w g 49 cs ∧ n ≤ cap ∧ cs.size = cap * 2 ∧ cs.toList.take (n * 2) = psV P
theorem Row2.cell {w : World} {g n : Nat} {P : List Par} (h : Row2 w g n P) (j : Nat) (u : Value) (hu : (psV P)[j]? = some u) : w.cell? ⟨g, j, none⟩ = some u := by
  obtain ⟨cap, cs, hb, _, _, ht⟩ := h.blk
  rw [hb.cell]
  rw [← ht, List.getElem?_take] at hu
  split at hu
  · rwa [Array.getElem?_toList] at hu
  · cases hu
theorem Row2.at_ {w : World} {g n : Nat} {P : List Par} (h : Row2 w g n P) {i : Nat} {x : Par} (hx : P[i]? = some x) : w.cell? ⟨g, i * 2, none⟩ = some (.string x.a) ∧ w.cell? ⟨g, i * 2 + 1, none⟩ = some (.string x.b) :=
  ⟨h.cell _ _ (psV_get hx 0 _ rfl), h.cell _ _ (psV_get hx 1 _ rfl)⟩
theorem Row2.lt {w : World} {g n : Nat} {P : List Par} (h : Row2 w g n P) : g < w.heap.size := by
  obtain ⟨cap, cs, hb, _⟩ := h.blk; exact hb.lt
theorem Row2.below {w w' : World} {g n B : Nat} {P : List Par} (h : Row2 w g n P) (hb : Below B w w') (hg : g < B) : Row2 w' g n P := by
  obtain ⟨cap, cs, h1, h2⟩ := h.blk
  exact ⟨h.len, cap, cs, h1.below hb hg, h2⟩
theorem Row2.frozen {w : World} {g n : Nat} {P : List Par} (h : Row2 w g n P) (i : Nat) : w.frozen? ⟨g, i, none⟩ = false := by
  obtain ⟨cap, cs, hb, _⟩ := h.blk; exact hb.frozen i
theorem Row2.pz {w : World} {g n c : Nat} {P : List Par} (h : Row2 w g n P) (hc : n ≤ c) (hm : c ≤ maxLen) : Pz w (.slice (some ⟨g, 0, none⟩) n c) P := by
  have hl := h.len
  refine ⟨some ⟨g, 0, none⟩, c, by rw [hl], by omega, hm, (fun e => by cases e), ⟨by rw [psV_length], fun h0 => ⟨_, rfl, h.lt, fun j u hu => ?_⟩⟩⟩
  rw [add_plain, Nat.zero_add]
  exact h.cell j u hu
theorem psV_set : ∀ (P : List Par) (a : Nat) (x : Par) (j : Nat), a < P.length → (psV (P.set a x))[j]? = if a * 2 ≤ j ∧ j < a * 2 + 2 then x.cells[j - a * 2]? else (psV P)[j]?
  | y :: P, 0, x, j, _ => by
    rw [List.set_cons_zero, psV_cons, psV_cons, List.getElem?_append, List.getElem?_append, Par.len, Par.len]
    split
    · rw [if_pos (by omega)]; simp
    · rw [if_neg (by omega)]
  | y :: P, a + 1, x, j, h => by
    have ih := psV_set P a x (j - 2) (by simpa using h)
    rw [List.set_cons_succ, psV_cons, psV_cons, List.getElem?_append, List.getElem?_append, Par.len, ih]
    split
    · rw [if_neg (by omega)]
    · rename_i hj
      by_cases hc : a * 2 ≤ j - 2 ∧ j - 2 < a * 2 + 2
      · rw [if_pos hc, if_pos (by omega), show j - (a + 1) * 2 = j - 2 - a * 2 by omega]
      · rw [if_neg hc, if_neg (by omega)]
theorem Row2.set {w : World} {g n : Nat} {P : List Par} (h : Row2 w g n P) {a : Nat} (ha : a < n) (x : Par) : Row2 (w.setCells g (a * 2) x.cells) g n (P.set a x) := by
  obtain ⟨cap, cs, h1, h2, h3, h4⟩ := h.blk
  have hl := h.len
  obtain ⟨cs', hB, hs, hb, hm, haf⟩ := blk_splice x.cells (a * 2) w cs h1 (by rw [h3, Par.len]; omega)
  refine ⟨by rw [List.length_set, hl], cap, cs', hB, h2, by rw [hs, h3], ?_⟩
  apply List.ext_getElem?
  intro j
  rw [psV_set P a x j (by omega)]
  rcases Nat.lt_or_ge j (n * 2) with hj | hj
  · have hcs : cs[j]? = (psV P)[j]? := by rw [← h4, List.getElem?_take_of_lt hj, Array.getElem?_toList]
    rw [List.getElem?_take_of_lt hj, Array.getElem?_toList]
    split
    · rename_i hc
      have := hm (j - a * 2) (by rw [Par.len]; omega)
      rwa [show a * 2 + (j - a * 2) = j by omega] at this
    · rename_i hc
      rcases Nat.lt_or_ge j (a * 2) with h' | h'
      · rw [hb j h', hcs]
      · rw [haf j (by rw [Par.len]; omega), hcs]
  · rw [List.getElem?_eq_none (by rw [List.length_take]; omega), if_neg (by omega), List.getElem?_eq_none (by rw [psV_length, hl]; omega)]
theorem Row2.some {w : World} {g n : Nat} {P : List Par} (h : Row2 w g n P) {j : Nat} (hj : j < n * 2) : (w.cell? ⟨g, j, none⟩).isSome = true := by
  rw [h.cell j _ (List.getElem?_eq_getElem (by rw [psV_length, h.len]; exact hj))]; rfl
theorem Row2.swap {w : World} {g n : Nat} {P : List Par} (h : Row2 w g n P) {i j : Nat} {x y : Par} (hx : P[i]? = Option.some x) (hy : P[j]? = Option.some y) : Row2 ((w.setCells g (i * 2) y.cells).setCells g (j * 2) x.cells) g n (swp P i j) := by
  rw [swp_eq hx hy]
  have hl := h.len
  have h1 := (List.getElem?_eq_some_iff.1 hx).1
  have h2 := (List.getElem?_eq_some_iff.1 hy).1
  exact (h.set (by omega) y).set (by omega) x
theorem Row2.own {w : World} {base n : Nat} {v : Value} {L : List Par} (h : w.ownsRow base 49 2 v n (psV L)) : v = .slice none 0 0 ∧ L = [] ∧ n = 0 ∨ ∃ g c, v = .slice (Option.some ⟨g, 0, none⟩) n c ∧ base ≤ g ∧ n ≤ c ∧ c ≤ maxLen ∧ Row2 w g n L := by
  have hl : L.length = n := by have := h.1; rw [psV_length] at this; omega
  rcases h.2 with ⟨rfl, h0⟩ | ⟨g, cap, cur, rfl, hge, hg, hnc, hm, hs, ht⟩
  · exact .inl ⟨by first | rfl | rw [h0], List.eq_nil_of_length_eq_zero (by omega), h0⟩
  · exact .inr ⟨g, cap, rfl, hge, hnc, hm, hl, cap, cur, hg, hnc, hs, ht⟩
theorem run_storeP (w : World) (g off : Nat) (v : Par) (hc : ∀ j, j < 2 → (w.cell? ⟨g, off + j, none⟩).isSome = true) (hf : ∀ j, j < 2 → w.frozen? ⟨g, off + j, none⟩ = false) :
    (Instr.storeAt 49 (.pointer (some ⟨g, off, none⟩)) (.agg #[.string v.a, .string v.b])).run Try.prog w = .ok () (w.setCells g off v.cells) := by
  have hst := run_storeCells_cells (P := Try.prog) g off v.cells 0 w (fun j hj => by rw [Nat.add_zero]; exact hc j hj) (fun j hj => by rw [Nat.add_zero]; exact hf j hj) (fun u hu => psV_one (l := [v]) (by rw [psV_cons]; exact List.mem_append_left _ hu))
  obtain ⟨i0, hi, _, hz1, _⟩ := info_parts infoP
  have hl : (#[.string v.a, .string v.b] : Array Value).toList = v.cells := rfl
  simp [Instr.storeAt, storeVar, sizeOf, typeInfo, hi, hz1, Value.cells, Instr.sureAddr]
  exact hst
theorem wpList_storeP {ops : Array Oper} {rest : List Oper} {o : Oper} {a : Act} {w : World} {Q : Exit → Act → World → Prop} (hgd : o.guard = none) (p x : Operand) (ho : o.op = .store 49 p x) (g off : Nat) (v : Par)
    (hp : a.eval p = .pointer (some ⟨g, off, none⟩)) (hx : a.eval x = .agg #[.string v.a, .string v.b]) (hc : ∀ j, j < 2 → (w.cell? ⟨g, off + j, none⟩).isSome = true) (hf : ∀ j, j < 2 → w.frozen? ⟨g, off + j, none⟩ = false)
    (h : wpList Try.prog ops Q rest (a.put o.dst undef) (w.setCells g off v.cells)) : wpList Try.prog ops Q (o :: rest) a w :=
  wpList_plain hgd fun K hK => by
    unfold Oper.wp execOp
    simp only [ho, hp, hx, Sem.run_bind, run_storeP w g off v hc hf, Result.andThen_ok, Sem.run_pure]
    exact hK _ _ h
set_option maxHeartbeats 1000000 in
theorem pclone_any (v : Value) (l : List Par) (w : World) (h : Pz w v l) (hn : l.length * 32 ≤ 140737488355328) :
    Calls Try.prog 34 #[v] w fun e w' => (∃ v, e = .returned v ∧ w'.ownsRow w.heap.size 49 2 v l.length (psV l)) ∧ Below w.heap.size w w' := by
  obtain ⟨i0, hi, hz0, hz1, hz2⟩ := info_parts infoP
  obtain ⟨A, c, rfl, hc1, hc2, hnil, hr⟩ := h
  have q : ∀ (w : World) (a : Option Addr) (n c n' c' : Nat), (binOp .eql 25 (.slice a n c) (.slice none n' c')).run Try.prog w = .ok (.bool a.isNone) w := fun w a n c n' c' => Lib.run_eql_slice_nil w _ _ a n c n' c' Try.underlying25
  cases A with
  | none =>
    have h0 := hnil rfl
    have hl : l.length = 0 := by omega
    have hl' : l = [] := List.eq_nil_of_length_eq_zero hl
    subst hl'
    clear hr
    go_enter Try.func34, Try.ntmps34
    go_wp2
    go_ret
    exact ⟨⟨_, rfl, World.ownsRow_nil _ _ _ _⟩, Below.refl _ _⟩
  | some ad =>
    have hc : ∀ j u, (psV l)[j]? = some u → (w.alloc (.cells #[] 49)).cell? (ad.add j) = some u := fun j u hu => by
      have hn0 : 0 < l.length := by
        have := (List.getElem?_eq_some_iff.1 hu).1
        rw [psV_length] at this
        omega
      obtain ⟨ad', e, hb, h⟩ := hr.2 hn0
      cases e
      rw [World.cell?_alloc_lt w _ _ (by rw [block_of_add]; exact hb)]
      exact h j u hu
    clear hnil
    go_enter Try.func34, Try.ntmps34
    go_wp2_with (at_builtin; refine wpList_append_own _ rfl _ _ 25 rfl w.heap.size 49 i0 (.agg #[.string ⟨#[]⟩, .string ⟨#[]⟩]) 2 32 Try.underlying25 hi hz0 hz1 hz2 rfl (by decide) _ _ _ rfl (World.ownsRow_made w #[] 0 (Nat.le_refl _) (Nat.zero_le _) rfl) ad l.length c (psV l) rfl ?qc1 ?qc2 ?qc3 ?qc4 ?qc5 ?qc6 ?_)
    case qc1 => simp [psV_length]
    case qc2 => exact hc
    case qc3 => exact fun u hu => psV_one hu
    case qc4 => unfold maxLen; omega
    case qc5 => omega
    case qc6 => simp
    intro v' w1 hown hgrow hnil
    go_wp2
    go_ret
    exact ⟨⟨v', rfl, by simpa using hown⟩, ((Below.refl _ w).alloc (Nat.le_refl _) _).grown hgrow (by simp) (by intro k hk; simp [Value.ownBlock] at hk; omega)⟩
end Go.Proofs.Ytmfbidhnafpkdaa
