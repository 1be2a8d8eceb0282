import Derived.Test.YtmfbidhnafpkdaaDoorMr6
import Derived.Deep.AppendSrc
/-! Two lists of rules, one behind the other. -/
namespace Go.Proofs.YtmfbidhnafpkdaaDoor
open Go.RowKit
set_option linter.unusedVariables false
set_option linter.unusedSimpArgs false
/-- An append of rules onto a row of the call's own. -/
theorem run_joinR {w : World} {base n c : Nat} {g : Addr} {L M : List Rul} {x : Value} (hown : w.ownsRow base 35 3 (.slice (some g) n c) n (rsV L)) (hnL : n = L.length) (hx : Rz w x M) (hb : base ≤ w.heap.size) (hsz : (L.length + M.length) * 40 ≤ 140737488355328) :
    ∃ g' c' w', (Builtin.append_ #[26, 26] 26 #[.slice (some g) n c, x]).run Tryd.prog w = .ok (.slice (some g') (L ++ M).length c') w' ∧ w'.ownsRow base 35 3 (.slice (some g') (L ++ M).length c') (L ++ M).length (rsV (L ++ M)) ∧ Below base w w' := by
  subst hnL
  obtain ⟨i0, hi, hz0, hz1, hz2⟩ := info_parts infoR
  obtain ⟨A, cx, rfl, _, _, _, hr⟩ := hx
  rcases hown.2 with ⟨e, _⟩ | ⟨gb, cap, cur, e, hbg, hg, hnc, hmx, hsz', htk⟩
  · cases e
  · cases e
    cases A with
    | none =>
      have h0 : M.length = 0 := by
        rcases Nat.eq_zero_or_pos M.length with h | h
        · exact h
        · obtain ⟨_, e, _⟩ := hr.2 h; cases e
      have hM : M = [] := List.eq_nil_of_length_eq_zero h0
      subst hM
      have h := run_append_room_src (P := Tryd.prog) w 26 26 26 35 i0 Tryd.underlying26 hi gb 0 L.length c (.slice none 0 cx) 0 [] (Src.ofNil w Tryd.underlying26 cx) (by omega) (fun j hj => by cases hj) (fun j hj => by cases hj)
      refine ⟨⟨gb, 0, none⟩, c, w, ?_, by simpa using hown, Below.refl _ _⟩
      rw [List.append_nil]
      exact h
    | some ad =>
      obtain ⟨v, w', h1, h2, h3, h4⟩ := run_append_own (P := Tryd.prog) w base 26 26 35 i0 (.agg #[.string ⟨#[]⟩, .int .i64 0, .string ⟨#[]⟩]) 3 40 Tryd.underlying26 hi hz0 hz1 hz2 rfl (by decide) _ L.length (rsV L) hown ad M.length cx (rsV M) (rsV_length M)
        (fun j u hu => by
          have hn0 : 0 < M.length := by
            have := (List.getElem?_eq_some_iff.1 hu).1
            rw [rsV_length] at this
            omega
          obtain ⟨ad', e, hb', h⟩ := hr.2 hn0
          cases e
          exact h j u hu)
        (fun u hu => rsV_one hu) (by unfold maxLen; omega) (by omega) hb
      rw [← rsV_append, show L.length + M.length = (L ++ M).length from by simp] at h2
      rcases h2.2 with ⟨rfl, h0⟩ | ⟨g2, cap2, cur2, rfl, r⟩
      · have := (h4.1 rfl).1
        cases this
      · exact ⟨⟨g2, 0, none⟩, cap2, w', h1, h2, (Below.refl base w).grown h3 hb (fun k hk => by simp [Value.ownBlock] at hk; omega)⟩
theorem own_lit (w : World) : (w.alloc (.cells #[] 35)).ownsRow w.heap.size 35 3 (.slice (some ⟨w.heap.size, 0, none⟩) 0 0) 0 (rsV []) :=
  World.ownsRow_made w #[] 0 (Nat.le_refl _) (Nat.zero_le _) rfl
/-- 'append(append([]Rule{}, x...), y...)'. -/
theorem run_bothR {w : World} {L M : List Rul} {x y : Value} (hx : Rz w x L) (hy : Rz w y M) (hsz : (L.length + M.length) * 40 ≤ 140737488355328) :
    ∃ g1 c1 w1 g2 c2 w2, (Builtin.append_ #[26, 26] 26 #[.slice (some ⟨w.heap.size, 0, none⟩) 0 0, x]).run Tryd.prog (w.alloc (.cells #[] 35)) = .ok (.slice (some g1) L.length c1) w1 ∧
      (Builtin.append_ #[26, 26] 26 #[.slice (some g1) L.length c1, y]).run Tryd.prog w1 = .ok (.slice (some g2) (L ++ M).length c2) w2 ∧ Rz w2 (.slice (some g2) (L ++ M).length c2) (L ++ M) ∧ Below w.heap.size w w2 := by
  have hb0 := Below.alloc (Below.refl w.heap.size w) (Nat.le_refl _) (.cells #[] 35)
  obtain ⟨g1, c1, w1, h1, o1, b1⟩ := run_joinR (own_lit w) rfl (hx.below hb0) (by simp) (by simp; omega)
  simp only [List.nil_append] at h1 o1
  have hb1 := hb0.trans b1
  obtain ⟨g2, c2, w2, h2, o2, b2⟩ := run_joinR o1 rfl (hy.below hb1) (hb1.size) hsz
  exact ⟨g1, c1, w1, g2, c2, w2, h1, h2, Rz.own o2, hb1.trans b2⟩
theorem wpList_append_run {P : Program} {ops : Array Oper} {rest : List Oper} {o : Oper} {a : Act} {w w' : World} {v sv xv : Value} {Q : Exit → Act → World → Prop} (hgd : o.guard = none) (s x : Operand) (t : TypeId)
    (ho : o.op = .call { callee := .builtin .append, args := #[s, x], argTypes := #[t, t] }) (hs : a.eval s = sv) (hx : a.eval x = xv) (hr : (Builtin.append_ #[t, t] o.type #[sv, xv]).run P w = .ok v w')
    (h : wpList P ops Q rest (a.put o.dst v) w') : wpList P ops Q (o :: rest) a w :=
  wpList_plain hgd fun _ hK => by
    unfold Oper.wp execOp
    simp only [ho, resolve, invoke, builtin, Sem.run_bind, Sem.run_pure, Result.andThen_ok, List.map_toArray, List.map_cons, List.map_nil, hs, hx, hr]
    exact hK _ _ h
end Go.Proofs.YtmfbidhnafpkdaaDoor
