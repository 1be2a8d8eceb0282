import Derived.Test.YthajbeooemngpaaWire2
import Derived.Lib.AppendStr
/-! The wire's writer: truths and texts. -/
namespace Go.Proofs.Ythajbeooemngpaa
open Go.RowKit
set_option linter.unusedVariables false
set_option linter.unusedSimpArgs false
theorem strCells_nums (s : ByteArray) : Lib.strCells s = u8s (numsOf s) := by simp [Lib.strCells, u8s, numsOf]
theorem app_text {P : Program} {w : World} {ops : Array Oper} {rest : List Oper} {o : Oper} {a : Act} {Q : Exit → Act → World → Prop} (hgd : o.guard = none) (sl x : Operand) (t u : TypeId)
    (ho : o.op = .call { callee := .builtin .append, args := #[sl, x], argTypes := #[t, u] }) (ht : P.underlying t = some (.slice 5)) (hu : P.underlying u = some .string) (hinfo : (P.info? 5).map (fun i => (i.zero, i.size, i.bytes)) = some (some (.int .u8 0), 1, 1))
    (base : Nat) (v : Value) (xs : List Nat) (s : ByteArray) (hs : a.eval sl = v) (hown : Row w base v xs) (hx : a.eval x = .string s) (hlen : xs.length + s.size ≤ 140737488355328) (hbase : base ≤ w.heap.size)
    (h : ∀ v' w', Row w' base v' (xs ++ numsOf s) → Chg w w' v v' → wpList P ops Q rest (a.put o.dst v') w') :
    wpList P ops Q (o :: rest) a w := by
  obtain ⟨i0, hi, hz0, hz1, hz2⟩ := info_parts hinfo
  have hm : xs.length + s.size ≤ maxLen := by unfold maxLen; omega
  refine wpList_plain hgd fun K hK => ?_
  have main : ∃ v' w', (Builtin.append_ #[t, u] o.type #[v, .string s]).run P w = .ok v' w' ∧ Row w' base v' (xs ++ numsOf s) ∧ Chg w w' v v' := by
    obtain ⟨v', w', hr, h2, h3, h4⟩ := Lib.run_append_own_string (P := P) w base t u o.type 5 i0 ht hu hi hz0 hz1 hz2 v xs.length (u8s xs) hown s hm hlen hbase
    refine ⟨v', w', hr, ?_, h3.os, h3.tape, h3.output, h3.size, fun k hk hv => h3.block k hk (Ne.symm hv), ?_⟩
    · unfold Row
      rw [List.length_append, numsOf_length, u8s_append, ← strCells_nums]
      exact h2
    · rcases hown.2 with ⟨rfl, h0⟩ | ⟨g, cap, cur, rfl, hbg, hg, hnc, hcm, hcs, htake⟩
      · obtain ⟨v2, w2, hr', h2', _⟩ := Lib.run_append_own_string (P := P) w w.heap.size t u o.type 5 i0 ht hu hi hz0 hz1 hz2 (.slice none 0 0) xs.length (u8s xs) ⟨hown.1, .inl ⟨rfl, h0⟩⟩ s hm hlen (Nat.le_refl _)
        rw [hr] at hr'
        cases hr'
        rcases h2'.2 with ⟨rfl, _⟩ | ⟨g', _, _, rfl, hb', _⟩
        · exact .inl rfl
        · exact .inr ⟨g', rfl, hb'⟩
      · by_cases hroom : xs.length + s.size ≤ cap
        · have hr' := Lib.run_append_room_string (P := P) w t u o.type 5 i0 ht hu hi hz1 g xs.length cap cur hg s hroom (by omega)
          rw [hr] at hr'
          cases hr'
          exact .inl rfl
        · have hxl : (u8s xs).length = xs.length := u8s_length xs
          have holds : ∀ j u, (u8s xs)[j]? = some u → w.cell? ((⟨g, 0, none⟩ : Addr).add j) = some u := World.ownsRow.cells hown (g := g) rfl
          have hr' := Lib.run_append_grow_string (P := P) w t u o.type 5 i0 (.int .u8 0) ht hu hi hz0 ⟨g, 0, none⟩ xs.length cap (u8s xs) (by rw [hz1, hxl, Nat.mul_one]) holds s (by omega) (by omega) (by rw [hz2]; exact growslice_fits (by omega) (by omega))
          rw [hr] at hr'
          cases hr'
          exact .inr ⟨w.heap.size, rfl, Nat.le_refl _⟩
  obtain ⟨v', w', hr, h2, h3⟩ := main
  unfold Oper.wp execOp
  simp only [ho, resolve, invoke, builtin, Sem.run_bind, Sem.run_pure, Result.andThen_ok, List.map_toArray, List.map_cons, List.map_nil, hs, hx, hr]
  exact hK _ _ (h v' w' h2 h3)
theorem numsOf_get (s : ByteArray) {j : Nat} (h : j < s.size) : (numsOf s)[j]? = some (s[j]'h).toNat := by
  unfold numsOf
  rw [List.getElem?_map, List.getElem?_eq_getElem (by rw [Array.length_toList]; exact h)]
  rfl
def flagB (f : Bool) : List Nat := [if f then 1 else 0]
set_option maxRecDepth 100000 in
theorem flag_any (base g : Nat) (v : Value) (xs : List Nat) (f : Bool) (w : World) (hw : Wrt w base g 124 v xs) (hlen : xs.length + 9 ≤ 140737488355328) :
    Calls Try.prog 47 #[.pointer (some ⟨g, 0, none⟩), .bool f] w fun e w' => e = .returned (.tuple #[]) ∧ ∃ v', Wrt w' base g 124 v' (xs ++ flagB f) ∧ Chw w w' g v v' := by
  cases f
  · have hc := num_any base g v xs 0 w hw (by unfold U64; omega) hlen
    rw [show numB (0 : Int).toNat = flagB false from rfl] at hc
    go_enter Try.func47, Try.ntmps47
    go_wp2_with (go_at_call 45; (with_reducible refine hc.mono ?_); rintro e w' ⟨rfl, v', hw', hg'⟩)
    refine bodyPost_end (v := .tuple #[]) (by simp [results, Try.results47, go_sem] <;> rfl) rfl ⟨rfl, ?_⟩
    exact ⟨v', hw', hg'⟩
  · have hc := num_any base g v xs 1 w hw (by unfold U64; omega) hlen
    rw [show numB (1 : Int).toNat = flagB true from rfl] at hc
    go_enter Try.func47, Try.ntmps47
    go_wp2_with (go_at_call 45; (with_reducible refine hc.mono ?_); rintro e w' ⟨rfl, v', hw', hg'⟩)
    refine bodyPost_end (v := .tuple #[]) (by simp [results, Try.results47, go_sem] <;> rfl) rfl ⟨rfl, ?_⟩
    exact ⟨v', hw', hg'⟩
set_option maxRecDepth 100000 in
theorem rflag_any (base : Nat) (v : Value) (xs : List Nat) (f : Bool) (w : World) (hw : Row w base v xs) (hbase : base ≤ w.heap.size) (hlen : xs.length + 9 ≤ 140737488355328) :
    Calls Try.prog 70 #[v, .bool f] w fun e w' => ∃ v', e = .returned v' ∧ Row w' base v' (xs ++ flagB f) ∧ Chg w w' v v' := by
  cases f
  · go_enter Try.func70, Try.ntmps70
    go_wp2_with (at_builtin; go_must (refine app_byte rfl (.tmp 9) (.tmp 10) 23 rfl Try.underlying23 infoU8 base v (xs) (0) _ ?c0 rfl hw _ (by first | rfl | simp [World.size_ext]) rfl ?c1 ?c2 ?_))
    case c0 => rfl
    case c1 => omega
    case c2 => omega
    intro v' w1 hr1 hc1
    go_wp2
    refine bodyPost_ret (v := v') (by simp [results, Try.results70, go_sem] <;> rfl) rfl ⟨_, rfl, hr1, hc1⟩
  · go_enter Try.func70, Try.ntmps70
    go_wp2_with (at_builtin; go_must (refine app_byte rfl (.tmp 6) (.tmp 7) 23 rfl Try.underlying23 infoU8 base v (xs) (1) _ ?c0 rfl hw _ (by first | rfl | simp [World.size_ext]) rfl ?c1 ?c2 ?_))
    case c0 => rfl
    case c1 => omega
    case c2 => omega
    intro v' w1 hr1 hc1
    go_wp2
    refine bodyPost_ret (v := v') (by simp [results, Try.results70, go_sem] <;> rfl) rfl ⟨_, rfl, hr1, hc1⟩
def textB (s : ByteArray) : List Nat := numB s.size ++ numsOf s
theorem textB_length (s : ByteArray) (h : s.size < 18446744073709551616) : (textB s).length ≤ 9 + s.size := by
  unfold textB
  rw [List.length_append, numsOf_length]
  have := numB_le s.size h
  omega
set_option maxRecDepth 100000 in
set_option maxHeartbeats 1000000 in
theorem text_any (base g : Nat) (v : Value) (xs : List Nat) (s : ByteArray) (w : World) (hw : Wrt w base g 124 v xs) (hlen : xs.length + 9 + s.size ≤ 140737488355328) :
    Calls Try.prog 24 #[.pointer (some ⟨g, 0, none⟩), .string s] w fun e w' => e = .returned (.tuple #[]) ∧ ∃ v', Wrt w' base g 124 v' (xs ++ textB s) ∧ Chw w w' g v v' := by
  have hc := num_any base g v xs (s.size : Int) w hw (by unfold U64; omega) (by omega)
  rw [Int.toNat_natCast] at hc
  have hk := numB_le s.size (by omega)
  have hs63 : (s.size : Int) ≤ 9223372036854775807 := by omega
  go_enter Try.func24, Try.ntmps24
  go_wp2_with (first | (go_at_call 45; (with_reducible refine hc.mono ?_); rintro e w1 ⟨rfl, v1, hw1, hg1⟩; have c1 := hw1.blk.cell; have f1 := hw1.blk.frozen; have l1 := hw1.blk.lt) | (at_builtin; go_must (refine app_text rfl (.tmp 15) (.tmp 16) 23 9 rfl Try.underlying23 Try.underlying9 infoU8 base _ (_) (s) rfl hw1.row rfl ?c1 ?c2 ?_)))
  case c1 => simp; omega
  case c2 => have := hw1.ge; omega
  intro v2 w2 hr2 hc2
  have c2 := (hw1.chg hc2).cell
  have f2 := (hw1.chg hc2).frozen
  obtain ⟨hw3, hg3⟩ := hw1.set_ hc2 hr2
  obtain ⟨A2, n2, k2, rfl⟩ := hr2.shape
  clear c1 f1
  go_wp2
  refine bodyPost_end (v := .tuple #[]) (by simp [results, Try.results24, go_sem] <;> rfl) rfl ⟨rfl, ?_⟩
  exact ⟨_, by unfold textB; simpa using hw3, hg1.trans hg3⟩
set_option maxRecDepth 100000 in
set_option maxHeartbeats 1000000 in
theorem rtext_any (base : Nat) (v : Value) (xs : List Nat) (s : ByteArray) (w : World) (hw : Row w base v xs) (hbase : base ≤ w.heap.size) (hlen : xs.length + 9 + s.size ≤ 140737488355328) :
    Calls Try.prog 71 #[v, .string s] w fun e w' => ∃ v', e = .returned v' ∧ Row w' base v' (xs ++ textB s) ∧ Chg w w' v v' := by
  have hc := rnum_any base v xs (s.size : Int) w hw hbase (by unfold U64; omega) (by omega)
  rw [Int.toNat_natCast] at hc
  have hk := numB_le s.size (by omega)
  have hs63 : (s.size : Int) ≤ 9223372036854775807 := by omega
  go_enter Try.func71, Try.ntmps71
  go_wp2_with (first | (go_at_call 67; (with_reducible refine hc.mono ?_); rintro e w1 ⟨v1, rfl, hr1, hg1⟩))
  go_loopw [0, 5] (fun vo vi wr => ∃ j : Nat, j ≤ s.size ∧ vi = .int .i64 (j : Int) ∧ Row wr base vo (xs ++ numB s.size ++ (numsOf s).take j) ∧ Chg w wr v vo) (fun _ vi _ => ((s.size : Int) - intOf vi).toNat)
  case atStart => exact ⟨0, by omega, rfl, by simpa using hr1, hg1⟩
  case round =>
    clear hr1 hg1 hc
    obtain ⟨j, hj, rfl, hr1, hg1⟩ := hrel
    obtain ⟨wo, rfl⟩ : ∃ wo : World, wo = wr := ⟨_, rfl⟩
    have hsz := hg1.size
    by_cases hlt : j < s.size
    · have hj' : (j : Int) < s.size := by omega
      have hts : (numsOf s).take (j + 1) = (numsOf s).take j ++ [(s[j]'hlt).toNat] := by rw [List.take_add_one, numsOf_get s hlt]; rfl
      have HT := hide hts
      clear hts
      go_wp2_with (at_builtin; go_must (refine app_byte rfl (.tmp 17) (.tmp 21) 23 rfl Try.underlying23 infoU8 base _ (_) ((s[j]'hlt).toNat) _ ?c0 rfl hr1 _ (by first | rfl | simp [World.size_ext]) rfl ?c1 ?c2 ?_))
      case c0 => rfl
      case c1 => simp [numsOf_length]; omega
      case c2 => omega
      intro v' w1 hr2 hc2
      go_wp2
      go_roundw
      case rel => exact ⟨j + 1, by omega, by go_num, by rw [HT.out]; simpa using hr2, hg1.trans hc2⟩
      case measure => simp [intOf]; omega
    · obtain rfl : j = s.size := by omega
      rw [List.take_of_length_le (by rw [numsOf_length]; exact Nat.le_refl _)] at hr1
      go_wp2
      refine bodyPost_ret (v := _) (by simp [results, Try.results71, go_sem] <;> rfl) rfl ⟨_, rfl, by unfold textB; rw [← List.append_assoc]; exact hr1, hg1⟩
end Go.Proofs.Ythajbeooemngpaa
