import Derived.Test.YtamnononemallaaDoorGS
import Derived.Test.YtamnononemallaaDoorGQ
import Derived.Lib.ItoaLen
/-! A query's text: the program's. -/
namespace Go.Proofs.YtamnononemallaaDoor
open Go.RowKit Go.Maps
set_option linter.unusedVariables false
set_option linter.unusedSimpArgs false
theorem infoStr : (Tryd.prog.info? 9).map (fun i => (i.zero, i.size, i.bytes)) = some (some (.string ⟨#[]⟩), 1, 16) := by kernel_rfl
def strV (l : List ByteArray) : List Value := l.map Value.string
/-- Texts that are owned. -/
def OwnT (w : World) (base : Nat) (v : Value) (l : List ByteArray) : Prop := w.ownsRow base 9 1 v l.length (strV l)
theorem OwnT.below {w w' : World} {base : Nat} {v : Value} {l : List ByteArray} (h : OwnT w base v l) (hb : Below w.heap.size w w') : OwnT w' base v l := own_keep4 h hb
theorem OwnT.shape {w : World} {base : Nat} {v : Value} {l : List ByteArray} (h : OwnT w base v l) : ∃ A c, v = .slice A l.length c := by
  rcases h.2 with ⟨rfl, h0⟩ | ⟨g, cap, cur, rfl, _⟩
  · exact ⟨none, 0, by rw [h0]⟩
  · exact ⟨_, _, rfl⟩
/-- 'append(texts, s)': s lies in a new block. -/
theorem app_strs {ops : Array Oper} {rest : List Oper} {o : Oper} {a : Act} {Q : Exit → Act → World → Prop} {W w0 : World} {B0 : Nat} (hgd : o.guard = none) (s x : Operand)
    (ho : o.op = .call { callee := .builtin .append, args := #[s, x], argTypes := #[42, 42] }) (base : Nat) (v : Value) (l : List ByteArray) (y : ByteArray) (hs : a.eval s = v) (hown : OwnT W base v l)
    (cs : Array Value) (hcs : cs = #[.string y]) (B : Nat) (hB : B = W.heap.size) (hx : a.eval x = .slice (some ⟨B, 0, none⟩) 1 1) (hl : l.length ≤ 100000) (hbase : base ≤ W.heap.size) (hb : Below B0 w0 W) (hB0 : B0 ≤ base)
    (h : ∀ v' w', OwnT w' base v' (l ++ [y]) → Below B0 w0 w' → W.heap.size ≤ w'.heap.size → wpList Tryd.prog ops Q rest (a.put o.dst v') w') :
    wpList Tryd.prog ops Q (o :: rest) a (W.alloc (.cells cs 9)) := by
  subst hcs hB
  obtain ⟨i0, hi, hz0, hz1, hz2⟩ := info_parts infoStr
  have hown' : OwnT (W.alloc (.cells #[.string y] 9)) base v l := hown.below (Below.alloc (Below.refl _ _) (Nat.le_refl _) _)
  refine wpList_append_own_at (W.alloc (.cells #[.string y] 9)) hgd s x 42 ho base 9 i0 (.string ⟨#[]⟩) 1 16 Tryd.underlying42 hi hz0 hz1 hz2 rfl (by decide) v l.length (strV l) hs hown' ⟨W.heap.size, 0, none⟩ 1 1 [.string y] hx rfl (cells_new _ _ _) ?_ (by unfold maxLen; omega) (by omega) (by simp; omega) fun v' w' h1 h2 _ _ => h v' w' ?_ ?_ ?_
  · intro u hu
    rw [List.mem_singleton.1 hu]; rfl
  · unfold OwnT
    rw [List.length_append, strV, List.map_append]
    exact h1
  · exact own_below (hb.alloc (Nat.le_trans hB0 hbase) _) hown' h2 hB0 (by simp; omega)
  · have := h2.size
    simp at this
    omega
theorem join_any (W : World) (base : Nat) (v : Value) (l : List ByteArray) (hown : OwnT W base v l) (h0 : l ≠ []) (hl : l.length ≤ 100000) (hj : (Lib.join (l.map (·.data.toList)) [32]).length ≤ 140737488355328) :
    Calls Tryd.prog 14 #[v, .string ⟨#[32]⟩] W fun e w' => e = .returned (.string ⟨(Lib.join (l.map (·.data.toList)) [32]).toArray⟩) ∧ Below W.heap.size W w' := by
  have hn : 0 < l.length := List.length_pos_iff.2 h0
  rcases hown.2 with ⟨_, h⟩ | ⟨g, cap, cur, rfl, hbg, hh, hnc, hm, hsz, htk⟩
  · omega
  · exact Tryd.strings_Join g 0 cap l ⟨#[32]⟩ W (fun j x hx => by
      rw [Nat.zero_add, blk_cell hh]
      have hj : j < l.length := (List.getElem?_eq_some_iff.1 hx).1
      have h1 := congrArg (fun m => m[j]?) htk
      simp only [List.getElem?_take, strV, List.getElem?_map, hx, Option.map_some] at h1
      rw [if_pos (by omega)] at h1
      simpa using h1) (blk_lt hh) (by omega) hnc hj
theorem partsT_len (q : Qy) (hok : q.ok) (hz : (rj q.r).length ≤ 100000000) : (textQ q).length ≤ 100001000 := by
  have h1 := Lib.itoa_length_le q.f hok.f.1 hok.f.2
  have h2 := Lib.itoa_length_le q.t hok.t.1 hok.t.2
  have h3 := Lib.itoa_length_le q.s hok.s.1 hok.s.2
  have h4 : (wordOf q.op).length ≤ 6 := by
    unfold wordOf
    split
    · rename_i h
      have : q.op.toNat = 0 ∨ q.op.toNat = 1 ∨ q.op.toNat = 2 ∨ q.op.toNat = 3 ∨ q.op.toNat = 4 ∨ q.op.toNat = 5 := by omega
      rcases this with e | e | e | e | e | e <;> rw [e] <;> decide
    · decide
  have h5 : (rtB q.r).data.toList.length = (rj q.r).length + 2 := by simp [rtB]
  have h6 : (formT q.n).length ≤ 6 := by cases q.n <;> decide
  have h7 : (if q.op = 0 then ([] : List UInt8) else 32 :: Lib.itoa q.s).length ≤ 22 := by split <;> simp <;> omega
  unfold textQ numsT
  simp only [List.length_append, List.length_cons]
  omega
/-- What 'Text' has to choose between. -/
def TextWays (q : Qy) : Prop :=
  (((∃ k : Nat, q.op = k ∧ k ≤ 5 ∧ wordOf q.op = wordB k ∧ ((q.op != 0) = false ∨ (q.op != 0) = true)) ∨ (decide (0 ≤ q.op) = false ∧ wordOf q.op = [63] ∧ (q.op != 0) = true)) ∨ (decide (0 ≤ q.op) = true ∧ decide (q.op ≤ 5) = false ∧ wordOf q.op = [63] ∧ (q.op != 0) = true))
theorem text_ways (q : Qy) : TextWays q := by
  unfold TextWays
  by_cases h1 : 0 ≤ q.op
  · by_cases h2 : q.op ≤ 5
    · refine .inl (.inl ⟨q.op.toNat, by omega, by omega, by unfold wordOf; rw [if_pos ⟨h1, h2⟩], ?_⟩)
      cases hb : (q.op != 0)
      · exact .inl rfl
      · exact .inr rfl
    · exact .inr ⟨decide_eq_true h1, decide_eq_false h2, by unfold wordOf; rw [if_neg (fun h => h2 h.2)], by simp; omega⟩
  · exact .inl (.inr ⟨decide_eq_false h1, by unfold wordOf; rw [if_neg (fun h => h1 h.1)], by simp; omega⟩)
theorem Sx.ext {w : World} (h : Sx w) (X : Ext) : Sx (w.ext X) := h.below (World.below_ext w X)
set_option maxRecDepth 100000 in
set_option maxHeartbeats 16000000 in
theorem atext_any (q : Qy) (rv : Value) (w : World) (hr : Rz w rv q.r) (hok : q.ok) (hz : (rj q.r).length ≤ 100000000) (hsh : ShortR q.r) (hx : Sx w) :
    Calls Tryd.prog 5 #[.agg #[.int .i64 q.op, rv, .int .i64 q.f, .int .i64 q.t, .int .i64 q.s, .bool q.n]] w fun e w' => e = .returned (.string ⟨(textQ q).toArray⟩) ∧ Below w.heap.size w w' := by
  have hM := fun W hz hg => mtext_any rv q.r W hz hsh hg
  have hF1 := fun W hx => fi_any q.f hok.f.1 hok.f.2 W hx
  have hF2 := fun W hx => fi_any q.t hok.t.1 hok.t.2 W hx
  have hF3 := fun W hx => fi_any q.s hok.s.1 hok.s.2 W hx
  have hlen := partsT_len q hok hz
  have hJ := join_text q
  unfold partsT at hJ
  obtain ⟨p, hp⟩ : ∃ p, w.heap.size = p := ⟨_, rfl⟩
  have hw0 : 0 < p := by have := hx.sg.big; omega
  have hWds := hx.wds
  have hzb : Rz (w.alloc (.cells #[.int .i64 q.op, rv, .int .i64 q.f, .int .i64 q.t, .int .i64 q.s, .bool q.n] 27)) rv q.r := hr.alloc _
  have hb0 : Below w.heap.size w (w.alloc (.cells #[.int .i64 q.op, rv, .int .i64 q.f, .int .i64 q.t, .int .i64 q.s, .bool q.n] 27)) := Below.alloc (Below.refl _ _) (Nat.le_refl _) _
  have hA := Blk.new w 27 #[.int .i64 q.op, rv, .int .i64 q.f, .int .i64 q.t, .int .i64 q.s, .bool q.n]
  rw [hp] at hA
  have hxb := hx.below hb0
  have hS : ∀ W, Below w.heap.size w W → Sx W := fun W h => hx.below h
  have hways := text_ways q
  obtain ⟨A, c, rfl⟩ := hr.shape
  obtain ⟨op, r, f, t, s, n⟩ := q
  unfold TextWays at hways
  dsimp only at *
  obtain ⟨wd, hwd⟩ : ∃ wd : ByteArray, (⟨(wordOf op).toArray⟩ : ByteArray) = wd := ⟨_, rfl⟩
  obtain ⟨s1, hs1⟩ : ∃ wd : ByteArray, (⟨(Lib.itoa f).toArray⟩ : ByteArray) = wd := ⟨_, rfl⟩
  obtain ⟨s2, hs2⟩ : ∃ wd : ByteArray, (⟨(Lib.itoa t).toArray⟩ : ByteArray) = wd := ⟨_, rfl⟩
  obtain ⟨s3, hs3⟩ : ∃ wd : ByteArray, (⟨(Lib.itoa s).toArray⟩ : ByteArray) = wd := ⟨_, rfl⟩
  have ew : wordOf op = wd.data.toList := by rw [← hwd]
  have e1 : Lib.itoa f = s1.data.toList := by rw [← hs1]
  have e2 : Lib.itoa t = s2.data.toList := by rw [← hs2]
  have e3 : Lib.itoa s = s3.data.toList := by rw [← hs3]
  rw [hs1] at hF1
  rw [hs2] at hF2
  rw [hs3] at hF3
  rw [ew, e1, e2, e3] at hJ
  have hwl : wd.size ≤ 6 := by
    rw [Lib.size_eq, ← ew]
    unfold wordOf
    split
    · rename_i h
      have : op.toNat = 0 ∨ op.toNat = 1 ∨ op.toNat = 2 ∨ op.toNat = 3 ∨ op.toNat = 4 ∨ op.toNat = 5 := by omega
      rcases this with e | e | e | e | e | e <;> rw [e] <;> decide
    · decide
  have hrl : (rtB r).size ≤ 200000000 := by rw [← rtB_size, rtB_head]; simp; omega
  have hT := hide hJ
  have hLn := hide hlen
  generalize rtB r = rt at *
  have g1 : ¬ (9223372036854775807 < wd.size + rt.size) := by omega
  clear hz hsh hok hJ hlen hs1 hs2 hs3 e1 e2 e3
  rcases hways with (⟨k, ho, hk, hw, hq⟩ | ⟨d1, hw, hq⟩) | ⟨d1, d2, hw, hq⟩
  · have hc := hWds k hk
    rw [← hw, hwd] at hc
    subst ho
    clear hWds hw hwd ew
    rcases hq with hq | hq
    · obtain rfl : k = 0 := by have : (k : Int) = 0 := by simpa using hq
                               omega
      have hq0 : True := trivial
      simp only [Int.ofNat_zero, Int.cast_ofNat_Int, Int.natCast_zero] at *
      go_enter Tryd.func5, Tryd.ntmps5
      go_wp2
      refine First.wp_region_first_ext [2, 6, 9] [0, 1, 4, 5, 8] [(true, false, 0), (true, false, 1), (true, true, 2), (true, false, 5), (true, true, 6), (true, false, 8), (true, true, 9), (false, true, 3), (true, false, 4), (false, true, 7), (false, false, 10), (false, false, 11), (false, false, 12)] (by kernel_rfl) (by kernel_rfl) (fun X => ?_); simp only [List.map_cons, List.map_nil, List.getD_cons_zero, List.getD_cons_succ]
      (repeat (first | (refine wfp fun K hK => ?_; go_simp; refine hK _ _ ?_; clear hK K) | (refine wff fun K hK => ?_; go_simp; refine hK _ _ ?_; clear hK K)))
      refine First.wpF_must (fun K hK => ?_)
      go_wp2_with (go_at_call 12; (with_reducible refine (hM _ (hzb.ext _) (hxb.ext _).sg).mono ?_); rintro e w1 ⟨rfl, hb1⟩; obtain ⟨X1, rfl⟩ := World.ext_of_below hb1; clear hb1)
      (refine hK _ _ (fun hnd => by first | exact Bool.noConfusion hnd | assumption | with_reducible (first | exact grown_alloc _ _ | exact First.Grown.refl _ | exact First.Grown.cat _ _ _ | exact First.Grown.ext _ _)) ?_; clear hK K)
      (repeat (first | (refine wfp fun K hK => ?_; go_simp; refine hK _ _ ?_; clear hK K) | (refine wff fun K hK => ?_; go_simp; refine hK _ _ ?_; clear hK K)))
      refine First.wpF_must (fun K hK => ?_)
      go_wp2_with (go_at_call 13; (with_reducible refine (hF1 _ (hS _ (by (repeat' (first | with_reducible (first | exact Below.refl _ _ | refine Below.ext ?_ ?_ _ | refine Below.alloc ?_ ?_ _ | refine Below.setCell ?_ ?_ _ | refine Below.drew ?_ | assumption) | (simp [World.size_ext]; done) | (simp [World.size_ext]; omega)))))).mono ?_); rintro e w2 ⟨rfl, hb2⟩; obtain ⟨X2, rfl⟩ := World.ext_of_below hb2; clear hb2)
      (refine hK _ _ (fun hnd => by first | exact Bool.noConfusion hnd | assumption | with_reducible (first | exact grown_alloc _ _ | exact First.Grown.refl _ | exact First.Grown.cat _ _ _ | exact First.Grown.ext _ _)) ?_; clear hK K)
      (repeat (first | (refine wfp fun K hK => ?_; go_simp; refine hK _ _ ?_; clear hK K) | (refine wff fun K hK => ?_; go_simp; refine hK _ _ ?_; clear hK K)))
      refine First.wpF_must (fun K hK => ?_)
      go_wp2_with (go_at_call 13; (with_reducible refine (hF2 _ (hS _ (by (repeat' (first | with_reducible (first | exact Below.refl _ _ | refine Below.ext ?_ ?_ _ | refine Below.alloc ?_ ?_ _ | refine Below.setCell ?_ ?_ _ | refine Below.drew ?_ | assumption) | (simp [World.size_ext]; done) | (simp [World.size_ext]; omega)))))).mono ?_); rintro e w3 ⟨rfl, hb3⟩; obtain ⟨X3, rfl⟩ := World.ext_of_below hb3; clear hb3)
      (refine hK _ _ (fun hnd => by first | exact Bool.noConfusion hnd | assumption | with_reducible (first | exact grown_alloc _ _ | exact First.Grown.refl _ | exact First.Grown.cat _ _ _ | exact First.Grown.ext _ _)) ?_; clear hK K)
      (repeat (first | (refine wfp fun K hK => ?_; go_simp; refine hK _ _ ?_; clear hK K) | (refine wff fun K hK => ?_; go_simp; refine hK _ _ ?_; clear hK K)))
      refine First.wpF_must (fun K hK => ?_)
      go_wp2
      (refine hK _ _ (fun hnd => by first | exact Bool.noConfusion hnd | assumption | with_reducible (first | exact grown_alloc _ _ | exact First.Grown.refl _ | exact First.Grown.cat _ _ _ | exact First.Grown.ext _ _)) ?_; clear hK K)
      refine First.wpF_must (fun K hK => ?_)
      go_wp2
      (refine hK _ _ (fun hnd => by first | exact Bool.noConfusion hnd | assumption | with_reducible (first | exact grown_alloc _ _ | exact First.Grown.refl _ | exact First.Grown.cat _ _ _ | exact First.Grown.ext _ _)) ?_; clear hK K)
      refine First.wpF_nil ?_
      have hgz : ((w.alloc (.cells #[.int .i64 0, .slice A r.length c, .int .i64 f, .int .i64 t, .int .i64 s, .bool n] 27)).ext (((X.cat X1).cat X2).cat X3)).heap.size = p + 1 + (X.blocks.size + X1.blocks.size + X2.blocks.size + X3.blocks.size) := by
        simp only [World.size_ext, World.size_alloc, Ext.cat, Array.size_append, hp]
      generalize Ext.cat (Ext.cat (Ext.cat X X1) X2) X3 = Y at *
      generalize X.blocks.size + X1.blocks.size + X2.blocks.size + X3.blocks.size = z at *
      have hC := Blk.new ((w.alloc (.cells #[.int .i64 0, .slice A r.length c, .int .i64 f, .int .i64 t, .int .i64 s, .bool n] 27)).ext Y) 9 #[.string (wd ++ rt), .string s1, .string s2]
      rw [hgz] at hC
      have hBy : Below (p + 1) (w.alloc (.cells #[.int .i64 0, .slice A r.length c, .int .i64 f, .int .i64 t, .int .i64 s, .bool n] 27)) (((w.alloc (.cells #[.int .i64 0, .slice A r.length c, .int .i64 f, .int .i64 t, .int .i64 s, .bool n] 27)).ext Y).alloc (.cells #[.string (wd ++ rt), .string s1, .string s2] 9)) :=
        ((World.below_ext _ Y).mono (by rw [World.size_alloc, hp]; exact Nat.le_refl _)).alloc (by rw [hgz]; omega) _
      refine abstr (fun W => Below (p + 1) (w.alloc (.cells #[.int .i64 0, .slice A r.length c, .int .i64 f, .int .i64 t, .int .i64 s, .bool n] 27)) W ∧ OwnT W (p + 1) (.slice (some ⟨p + 1 + z, 0, none⟩) 3 3) [wd ++ rt, s1, s2]) ⟨hBy, hC.own (by omega) (by decide) (by unfold maxLen; omega) rfl rfl rfl⟩ (fun W hW => ?_)
      obtain ⟨hB, hown⟩ := hW
      have hAW := hA.below hB (Nat.lt_succ_self p)
      have kc := hAW.cell
      have hsW : p + 1 ≤ W.heap.size := by have := hB.size; rw [World.size_alloc, hp] at this; exact this
      have hxW : Sx W := hxb.below (hB.mono (by rw [World.size_alloc, hp]; exact Nat.le_refl _))
      clear hC hBy hgz
      cases n with
      | false =>
        have hE := hide (show Lib.join (([wd ++ rt, s1, s2] : List ByteArray).map (·.data.toList)) [32] = textQ ⟨0, r, f, t, s, false⟩ from by rw [← hT.out]; simp [ba_app, hq0, notesB])
        have hj := join_any W (p + 1) _ ([wd ++ rt, s1, s2]) hown (by simp) (by simp) (by rw [hE.out]; have := hLn.out; omega)
        rw [hE.out] at hj
        clear hLn hT
        go_wp2_with (go_at_call 14; (with_reducible refine hj.mono ?_); rintro e w9 ⟨rfl, hb9⟩)
        go_ret
        exact ⟨by rfl, (hb0.trans (hB.mono (by rw [hp]; exact Nat.le_succ p))).trans (hb9.mono (by have := hB.size; rw [World.size_alloc] at this; omega))⟩
      | true =>
        have hE := hide (show Lib.join (([wd ++ rt, s1, s2] ++ [(⟨#[110, 111, 116, 101, 115]⟩ : ByteArray)] : List ByteArray).map (·.data.toList)) [32] = textQ ⟨0, r, f, t, s, true⟩ from by rw [← hT.out]; simp [ba_app, hq0, notesB])
        go_wp2_with (at_builtin; go_must (refine app_strs (w0 := (w.alloc (.cells #[.int .i64 0, .slice A r.length c, .int .i64 f, .int .i64 t, .int .i64 s, .bool true] 27))) (B0 := p + 1) rfl (.tmp 40) (.tmp 41) rfl (p + 1) _ _ (⟨#[110, 111, 116, 101, 115]⟩ : ByteArray) rfl hown _ rfl _ rfl rfl ?ca1 ?ca2 hB ?ca3 ?_))
        (try (case ca1 => simp))
        (try (case ca2 => omega))
        (try (case ca3 => exact Nat.le_refl _))
        intro v8 W8 hown8 hb8 hs8
        have hj := join_any W8 (p + 1) _ ([wd ++ rt, s1, s2] ++ [(⟨#[110, 111, 116, 101, 115]⟩ : ByteArray)]) hown8 (by simp) (by simp) (by rw [hE.out]; have := hLn.out; omega)
        rw [hE.out] at hj
        clear hLn hT
        go_wp2_with (go_at_call 14; (with_reducible refine hj.mono ?_); rintro e w9 ⟨rfl, hb9⟩)
        go_ret
        exact ⟨by rfl, (hb0.trans (hb8.mono (by rw [hp]; exact Nat.le_succ p))).trans (hb9.mono (by have := hb8.size; rw [World.size_alloc] at this; omega))⟩
    · have hq0 : ¬ (k : Int) = 0 := by simpa using hq
      have hk0 : ¬ k = 0 := by omega
      have i1 : (k : Int) ≤ 5 := by omega
      have i2 : (0 : Int) ≤ k := by omega
      have i3 : (k : Int) < 6 := by omega
      go_enter Tryd.func5, Tryd.ntmps5
      go_wp2
      refine First.wp_region_first_ext [2, 6, 9] [0, 1, 4, 5, 8] [(true, false, 0), (true, false, 1), (true, true, 2), (true, false, 5), (true, true, 6), (true, false, 8), (true, true, 9), (false, true, 3), (true, false, 4), (false, true, 7), (false, false, 10), (false, false, 11), (false, false, 12)] (by kernel_rfl) (by kernel_rfl) (fun X => ?_); simp only [List.map_cons, List.map_nil, List.getD_cons_zero, List.getD_cons_succ]
      (repeat (first | (refine wfp fun K hK => ?_; go_simp; refine hK _ _ ?_; clear hK K) | (refine wff fun K hK => ?_; go_simp; refine hK _ _ ?_; clear hK K)))
      refine First.wpF_must (fun K hK => ?_)
      go_wp2_with (go_at_call 12; (with_reducible refine (hM _ (hzb.ext _) (hxb.ext _).sg).mono ?_); rintro e w1 ⟨rfl, hb1⟩; obtain ⟨X1, rfl⟩ := World.ext_of_below hb1; clear hb1)
      (refine hK _ _ (fun hnd => by first | exact Bool.noConfusion hnd | assumption | with_reducible (first | exact grown_alloc _ _ | exact First.Grown.refl _ | exact First.Grown.cat _ _ _ | exact First.Grown.ext _ _)) ?_; clear hK K)
      (repeat (first | (refine wfp fun K hK => ?_; go_simp; refine hK _ _ ?_; clear hK K) | (refine wff fun K hK => ?_; go_simp; refine hK _ _ ?_; clear hK K)))
      refine First.wpF_must (fun K hK => ?_)
      go_wp2_with (go_at_call 13; (with_reducible refine (hF1 _ (hS _ (by (repeat' (first | with_reducible (first | exact Below.refl _ _ | refine Below.ext ?_ ?_ _ | refine Below.alloc ?_ ?_ _ | refine Below.setCell ?_ ?_ _ | refine Below.drew ?_ | assumption) | (simp [World.size_ext]; done) | (simp [World.size_ext]; omega)))))).mono ?_); rintro e w2 ⟨rfl, hb2⟩; obtain ⟨X2, rfl⟩ := World.ext_of_below hb2; clear hb2)
      (refine hK _ _ (fun hnd => by first | exact Bool.noConfusion hnd | assumption | with_reducible (first | exact grown_alloc _ _ | exact First.Grown.refl _ | exact First.Grown.cat _ _ _ | exact First.Grown.ext _ _)) ?_; clear hK K)
      (repeat (first | (refine wfp fun K hK => ?_; go_simp; refine hK _ _ ?_; clear hK K) | (refine wff fun K hK => ?_; go_simp; refine hK _ _ ?_; clear hK K)))
      refine First.wpF_must (fun K hK => ?_)
      go_wp2_with (go_at_call 13; (with_reducible refine (hF2 _ (hS _ (by (repeat' (first | with_reducible (first | exact Below.refl _ _ | refine Below.ext ?_ ?_ _ | refine Below.alloc ?_ ?_ _ | refine Below.setCell ?_ ?_ _ | refine Below.drew ?_ | assumption) | (simp [World.size_ext]; done) | (simp [World.size_ext]; omega)))))).mono ?_); rintro e w3 ⟨rfl, hb3⟩; obtain ⟨X3, rfl⟩ := World.ext_of_below hb3; clear hb3)
      (refine hK _ _ (fun hnd => by first | exact Bool.noConfusion hnd | assumption | with_reducible (first | exact grown_alloc _ _ | exact First.Grown.refl _ | exact First.Grown.cat _ _ _ | exact First.Grown.ext _ _)) ?_; clear hK K)
      (repeat (first | (refine wfp fun K hK => ?_; go_simp; refine hK _ _ ?_; clear hK K) | (refine wff fun K hK => ?_; go_simp; refine hK _ _ ?_; clear hK K)))
      refine First.wpF_must (fun K hK => ?_)
      go_wp2
      (refine hK _ _ (fun hnd => by first | exact Bool.noConfusion hnd | assumption | with_reducible (first | exact grown_alloc _ _ | exact First.Grown.refl _ | exact First.Grown.cat _ _ _ | exact First.Grown.ext _ _)) ?_; clear hK K)
      refine First.wpF_must (fun K hK => ?_)
      go_wp2
      (refine hK _ _ (fun hnd => by first | exact Bool.noConfusion hnd | assumption | with_reducible (first | exact grown_alloc _ _ | exact First.Grown.refl _ | exact First.Grown.cat _ _ _ | exact First.Grown.ext _ _)) ?_; clear hK K)
      refine First.wpF_nil ?_
      have hgz : ((w.alloc (.cells #[.int .i64 (k : Int), .slice A r.length c, .int .i64 f, .int .i64 t, .int .i64 s, .bool n] 27)).ext (((X.cat X1).cat X2).cat X3)).heap.size = p + 1 + (X.blocks.size + X1.blocks.size + X2.blocks.size + X3.blocks.size) := by
        simp only [World.size_ext, World.size_alloc, Ext.cat, Array.size_append, hp]
      generalize Ext.cat (Ext.cat (Ext.cat X X1) X2) X3 = Y at *
      generalize X.blocks.size + X1.blocks.size + X2.blocks.size + X3.blocks.size = z at *
      have hC := Blk.new ((w.alloc (.cells #[.int .i64 (k : Int), .slice A r.length c, .int .i64 f, .int .i64 t, .int .i64 s, .bool n] 27)).ext Y) 9 #[.string (wd ++ rt), .string s1, .string s2]
      rw [hgz] at hC
      have hBy : Below (p + 1) (w.alloc (.cells #[.int .i64 (k : Int), .slice A r.length c, .int .i64 f, .int .i64 t, .int .i64 s, .bool n] 27)) (((w.alloc (.cells #[.int .i64 (k : Int), .slice A r.length c, .int .i64 f, .int .i64 t, .int .i64 s, .bool n] 27)).ext Y).alloc (.cells #[.string (wd ++ rt), .string s1, .string s2] 9)) :=
        ((World.below_ext _ Y).mono (by rw [World.size_alloc, hp]; exact Nat.le_refl _)).alloc (by rw [hgz]; omega) _
      refine abstr (fun W => Below (p + 1) (w.alloc (.cells #[.int .i64 (k : Int), .slice A r.length c, .int .i64 f, .int .i64 t, .int .i64 s, .bool n] 27)) W ∧ OwnT W (p + 1) (.slice (some ⟨p + 1 + z, 0, none⟩) 3 3) [wd ++ rt, s1, s2]) ⟨hBy, hC.own (by omega) (by decide) (by unfold maxLen; omega) rfl rfl rfl⟩ (fun W hW => ?_)
      obtain ⟨hB, hown⟩ := hW
      have hAW := hA.below hB (Nat.lt_succ_self p)
      have kc := hAW.cell
      have hsW : p + 1 ≤ W.heap.size := by have := hB.size; rw [World.size_alloc, hp] at this; exact this
      have hxW : Sx W := hxb.below (hB.mono (by rw [World.size_alloc, hp]; exact Nat.le_refl _))
      clear hC hBy hgz
      cases n with
      | false =>
        have hE := hide (show Lib.join (([wd ++ rt, s1, s2] ++ [s3] : List ByteArray).map (·.data.toList)) [32] = textQ ⟨(k : Int), r, f, t, s, false⟩ from by rw [← hT.out]; simp [ba_app, hk0, notesB])
        go_wp2_with (first
          | (go_at_call 13; (with_reducible refine (hF3 _ hxW).mono ?_); rintro e w2 ⟨rfl, hb2⟩; have hown2 := hown.below hb2; have hb02 := hB.trans (hb2.mono hsW); have hs2 := Nat.le_trans hsW hb2.size)
          | (at_builtin; go_must (refine app_strs (w0 := (w.alloc (.cells #[.int .i64 (k : Int), .slice A r.length c, .int .i64 f, .int .i64 t, .int .i64 s, .bool false] 27))) (B0 := p + 1) rfl (.tmp 32) (.tmp 36) rfl (p + 1) _ _ s3 rfl hown2 _ rfl _ rfl rfl ?cb1 ?cb2 hb02 ?cb3 ?_)))
        (try (case cb1 => simp))
        (try (case cb2 => omega))
        (try (case cb3 => exact Nat.le_refl _))
        intro v7 W7 hown7 hb7 hs7
        have hAW7 := hA.below hb7 (Nat.lt_succ_self p)
        have kc7 := hAW7.cell
        have hs70 : p + 1 ≤ W7.heap.size := by omega
        have hj := join_any W7 (p + 1) _ ([wd ++ rt, s1, s2] ++ [s3]) hown7 (by simp) (by simp) (by rw [hE.out]; have := hLn.out; omega)
        rw [hE.out] at hj
        clear hLn hT
        go_wp2_with (go_at_call 14; (with_reducible refine hj.mono ?_); rintro e w9 ⟨rfl, hb9⟩)
        go_ret
        exact ⟨by rfl, (hb0.trans (hb7.mono (by rw [hp]; exact Nat.le_succ p))).trans (hb9.mono (by have := hb7.size; rw [World.size_alloc] at this; omega))⟩
      | true =>
        have hE := hide (show Lib.join (([wd ++ rt, s1, s2] ++ [s3] ++ [(⟨#[110, 111, 116, 101, 115]⟩ : ByteArray)] : List ByteArray).map (·.data.toList)) [32] = textQ ⟨(k : Int), r, f, t, s, true⟩ from by rw [← hT.out]; simp [ba_app, hk0, notesB])
        go_wp2_with (first
          | (go_at_call 13; (with_reducible refine (hF3 _ hxW).mono ?_); rintro e w2 ⟨rfl, hb2⟩; have hown2 := hown.below hb2; have hb02 := hB.trans (hb2.mono hsW); have hs2 := Nat.le_trans hsW hb2.size)
          | (at_builtin; go_must (refine app_strs (w0 := (w.alloc (.cells #[.int .i64 (k : Int), .slice A r.length c, .int .i64 f, .int .i64 t, .int .i64 s, .bool true] 27))) (B0 := p + 1) rfl (.tmp 32) (.tmp 36) rfl (p + 1) _ _ s3 rfl hown2 _ rfl _ rfl rfl ?cc1 ?cc2 hb02 ?cc3 ?_)))
        (try (case cc1 => simp))
        (try (case cc2 => omega))
        (try (case cc3 => exact Nat.le_refl _))
        intro v7 W7 hown7 hb7 hs7
        have hAW7 := hA.below hb7 (Nat.lt_succ_self p)
        have kc7 := hAW7.cell
        have hs70 : p + 1 ≤ W7.heap.size := by omega
        go_wp2_with (at_builtin; go_must (refine app_strs (w0 := (w.alloc (.cells #[.int .i64 (k : Int), .slice A r.length c, .int .i64 f, .int .i64 t, .int .i64 s, .bool true] 27))) (B0 := p + 1) rfl (.tmp 40) (.tmp 41) rfl (p + 1) _ _ (⟨#[110, 111, 116, 101, 115]⟩ : ByteArray) rfl hown7 _ rfl _ rfl rfl ?cd1 ?cd2 hb7 ?cd3 ?_))
        (try (case cd1 => simp))
        (try (case cd2 => omega))
        (try (case cd3 => exact Nat.le_refl _))
        intro v8 W8 hown8 hb8 hs8
        have hj := join_any W8 (p + 1) _ ([wd ++ rt, s1, s2] ++ [s3] ++ [(⟨#[110, 111, 116, 101, 115]⟩ : ByteArray)]) hown8 (by simp) (by simp) (by rw [hE.out]; have := hLn.out; omega)
        rw [hE.out] at hj
        clear hLn hT
        go_wp2_with (go_at_call 14; (with_reducible refine hj.mono ?_); rintro e w9 ⟨rfl, hb9⟩)
        go_ret
        exact ⟨by rfl, (hb0.trans (hb8.mono (by rw [hp]; exact Nat.le_succ p))).trans (hb9.mono (by have := hb8.size; rw [World.size_alloc] at this; omega))⟩
  · obtain rfl : wd = ⟨#[63]⟩ := by rw [← hwd, hw]
    have hq0 : ¬ op = 0 := by simpa using hq
    have g2 : ¬ (9223372036854775807 < 1 + rt.size) := by omega
    clear hWds hw hwd ew
    go_enter Tryd.func5, Tryd.ntmps5
    go_wp2
    refine First.wp_region_first_ext [2, 6, 9] [0, 1, 4, 5, 8] [(true, false, 0), (true, false, 1), (true, true, 2), (true, false, 5), (true, true, 6), (true, false, 8), (true, true, 9), (false, true, 3), (true, false, 4), (false, true, 7), (false, false, 10), (false, false, 11), (false, false, 12)] (by kernel_rfl) (by kernel_rfl) (fun X => ?_); simp only [List.map_cons, List.map_nil, List.getD_cons_zero, List.getD_cons_succ]
    (repeat (first | (refine wfp fun K hK => ?_; go_simp; refine hK _ _ ?_; clear hK K) | (refine wff fun K hK => ?_; go_simp; refine hK _ _ ?_; clear hK K)))
    refine First.wpF_must (fun K hK => ?_)
    go_wp2_with (go_at_call 12; (with_reducible refine (hM _ (hzb.ext _) (hxb.ext _).sg).mono ?_); rintro e w1 ⟨rfl, hb1⟩; obtain ⟨X1, rfl⟩ := World.ext_of_below hb1; clear hb1)
    (refine hK _ _ (fun hnd => by first | exact Bool.noConfusion hnd | assumption | with_reducible (first | exact grown_alloc _ _ | exact First.Grown.refl _ | exact First.Grown.cat _ _ _ | exact First.Grown.ext _ _)) ?_; clear hK K)
    (repeat (first | (refine wfp fun K hK => ?_; go_simp; refine hK _ _ ?_; clear hK K) | (refine wff fun K hK => ?_; go_simp; refine hK _ _ ?_; clear hK K)))
    refine First.wpF_must (fun K hK => ?_)
    go_wp2_with (go_at_call 13; (with_reducible refine (hF1 _ (hS _ (by (repeat' (first | with_reducible (first | exact Below.refl _ _ | refine Below.ext ?_ ?_ _ | refine Below.alloc ?_ ?_ _ | refine Below.setCell ?_ ?_ _ | refine Below.drew ?_ | assumption) | (simp [World.size_ext]; done) | (simp [World.size_ext]; omega)))))).mono ?_); rintro e w2 ⟨rfl, hb2⟩; obtain ⟨X2, rfl⟩ := World.ext_of_below hb2; clear hb2)
    (refine hK _ _ (fun hnd => by first | exact Bool.noConfusion hnd | assumption | with_reducible (first | exact grown_alloc _ _ | exact First.Grown.refl _ | exact First.Grown.cat _ _ _ | exact First.Grown.ext _ _)) ?_; clear hK K)
    (repeat (first | (refine wfp fun K hK => ?_; go_simp; refine hK _ _ ?_; clear hK K) | (refine wff fun K hK => ?_; go_simp; refine hK _ _ ?_; clear hK K)))
    refine First.wpF_must (fun K hK => ?_)
    go_wp2_with (go_at_call 13; (with_reducible refine (hF2 _ (hS _ (by (repeat' (first | with_reducible (first | exact Below.refl _ _ | refine Below.ext ?_ ?_ _ | refine Below.alloc ?_ ?_ _ | refine Below.setCell ?_ ?_ _ | refine Below.drew ?_ | assumption) | (simp [World.size_ext]; done) | (simp [World.size_ext]; omega)))))).mono ?_); rintro e w3 ⟨rfl, hb3⟩; obtain ⟨X3, rfl⟩ := World.ext_of_below hb3; clear hb3)
    (refine hK _ _ (fun hnd => by first | exact Bool.noConfusion hnd | assumption | with_reducible (first | exact grown_alloc _ _ | exact First.Grown.refl _ | exact First.Grown.cat _ _ _ | exact First.Grown.ext _ _)) ?_; clear hK K)
    (repeat (first | (refine wfp fun K hK => ?_; go_simp; refine hK _ _ ?_; clear hK K) | (refine wff fun K hK => ?_; go_simp; refine hK _ _ ?_; clear hK K)))
    refine First.wpF_must (fun K hK => ?_)
    go_wp2
    (refine hK _ _ (fun hnd => by first | exact Bool.noConfusion hnd | assumption | with_reducible (first | exact grown_alloc _ _ | exact First.Grown.refl _ | exact First.Grown.cat _ _ _ | exact First.Grown.ext _ _)) ?_; clear hK K)
    refine First.wpF_must (fun K hK => ?_)
    go_wp2
    (refine hK _ _ (fun hnd => by first | exact Bool.noConfusion hnd | assumption | with_reducible (first | exact grown_alloc _ _ | exact First.Grown.refl _ | exact First.Grown.cat _ _ _ | exact First.Grown.ext _ _)) ?_; clear hK K)
    refine First.wpF_nil ?_
    have hgz : ((w.alloc (.cells #[.int .i64 op, .slice A r.length c, .int .i64 f, .int .i64 t, .int .i64 s, .bool n] 27)).ext (((X.cat X1).cat X2).cat X3)).heap.size = p + 1 + (X.blocks.size + X1.blocks.size + X2.blocks.size + X3.blocks.size) := by
      simp only [World.size_ext, World.size_alloc, Ext.cat, Array.size_append, hp]
    generalize Ext.cat (Ext.cat (Ext.cat X X1) X2) X3 = Y at *
    generalize X.blocks.size + X1.blocks.size + X2.blocks.size + X3.blocks.size = z at *
    have hC := Blk.new ((w.alloc (.cells #[.int .i64 op, .slice A r.length c, .int .i64 f, .int .i64 t, .int .i64 s, .bool n] 27)).ext Y) 9 #[.string ((⟨#[63]⟩ : ByteArray) ++ rt), .string s1, .string s2]
    rw [hgz] at hC
    have hBy : Below (p + 1) (w.alloc (.cells #[.int .i64 op, .slice A r.length c, .int .i64 f, .int .i64 t, .int .i64 s, .bool n] 27)) (((w.alloc (.cells #[.int .i64 op, .slice A r.length c, .int .i64 f, .int .i64 t, .int .i64 s, .bool n] 27)).ext Y).alloc (.cells #[.string ((⟨#[63]⟩ : ByteArray) ++ rt), .string s1, .string s2] 9)) :=
      ((World.below_ext _ Y).mono (by rw [World.size_alloc, hp]; exact Nat.le_refl _)).alloc (by rw [hgz]; omega) _
    refine abstr (fun W => Below (p + 1) (w.alloc (.cells #[.int .i64 op, .slice A r.length c, .int .i64 f, .int .i64 t, .int .i64 s, .bool n] 27)) W ∧ OwnT W (p + 1) (.slice (some ⟨p + 1 + z, 0, none⟩) 3 3) [(⟨#[63]⟩ : ByteArray) ++ rt, s1, s2]) ⟨hBy, hC.own (by omega) (by decide) (by unfold maxLen; omega) rfl rfl rfl⟩ (fun W hW => ?_)
    obtain ⟨hB, hown⟩ := hW
    have hAW := hA.below hB (Nat.lt_succ_self p)
    have kc := hAW.cell
    have hsW : p + 1 ≤ W.heap.size := by have := hB.size; rw [World.size_alloc, hp] at this; exact this
    have hxW : Sx W := hxb.below (hB.mono (by rw [World.size_alloc, hp]; exact Nat.le_refl _))
    clear hC hBy hgz
    cases n with
    | false =>
      have hE := hide (show Lib.join (([(⟨#[63]⟩ : ByteArray) ++ rt, s1, s2] ++ [s3] : List ByteArray).map (·.data.toList)) [32] = textQ ⟨op, r, f, t, s, false⟩ from by rw [← hT.out]; simp [ba_app, hq0, notesB])
      go_wp2_with (first
        | (go_at_call 13; (with_reducible refine (hF3 _ hxW).mono ?_); rintro e w2 ⟨rfl, hb2⟩; have hown2 := hown.below hb2; have hb02 := hB.trans (hb2.mono hsW); have hs2 := Nat.le_trans hsW hb2.size)
        | (at_builtin; go_must (refine app_strs (w0 := (w.alloc (.cells #[.int .i64 op, .slice A r.length c, .int .i64 f, .int .i64 t, .int .i64 s, .bool false] 27))) (B0 := p + 1) rfl (.tmp 32) (.tmp 36) rfl (p + 1) _ _ s3 rfl hown2 _ rfl _ rfl rfl ?ce1 ?ce2 hb02 ?ce3 ?_)))
      (try (case ce1 => simp))
      (try (case ce2 => omega))
      (try (case ce3 => exact Nat.le_refl _))
      intro v7 W7 hown7 hb7 hs7
      have hAW7 := hA.below hb7 (Nat.lt_succ_self p)
      have kc7 := hAW7.cell
      have hs70 : p + 1 ≤ W7.heap.size := by omega
      have hj := join_any W7 (p + 1) _ ([(⟨#[63]⟩ : ByteArray) ++ rt, s1, s2] ++ [s3]) hown7 (by simp) (by simp) (by rw [hE.out]; have := hLn.out; omega)
      rw [hE.out] at hj
      clear hLn hT
      go_wp2_with (go_at_call 14; (with_reducible refine hj.mono ?_); rintro e w9 ⟨rfl, hb9⟩)
      go_ret
      exact ⟨by rfl, (hb0.trans (hb7.mono (by rw [hp]; exact Nat.le_succ p))).trans (hb9.mono (by have := hb7.size; rw [World.size_alloc] at this; omega))⟩
    | true =>
      have hE := hide (show Lib.join (([(⟨#[63]⟩ : ByteArray) ++ rt, s1, s2] ++ [s3] ++ [(⟨#[110, 111, 116, 101, 115]⟩ : ByteArray)] : List ByteArray).map (·.data.toList)) [32] = textQ ⟨op, r, f, t, s, true⟩ from by rw [← hT.out]; simp [ba_app, hq0, notesB])
      go_wp2_with (first
        | (go_at_call 13; (with_reducible refine (hF3 _ hxW).mono ?_); rintro e w2 ⟨rfl, hb2⟩; have hown2 := hown.below hb2; have hb02 := hB.trans (hb2.mono hsW); have hs2 := Nat.le_trans hsW hb2.size)
        | (at_builtin; go_must (refine app_strs (w0 := (w.alloc (.cells #[.int .i64 op, .slice A r.length c, .int .i64 f, .int .i64 t, .int .i64 s, .bool true] 27))) (B0 := p + 1) rfl (.tmp 32) (.tmp 36) rfl (p + 1) _ _ s3 rfl hown2 _ rfl _ rfl rfl ?cf1 ?cf2 hb02 ?cf3 ?_)))
      (try (case cf1 => simp))
      (try (case cf2 => omega))
      (try (case cf3 => exact Nat.le_refl _))
      intro v7 W7 hown7 hb7 hs7
      have hAW7 := hA.below hb7 (Nat.lt_succ_self p)
      have kc7 := hAW7.cell
      have hs70 : p + 1 ≤ W7.heap.size := by omega
      go_wp2_with (at_builtin; go_must (refine app_strs (w0 := (w.alloc (.cells #[.int .i64 op, .slice A r.length c, .int .i64 f, .int .i64 t, .int .i64 s, .bool true] 27))) (B0 := p + 1) rfl (.tmp 40) (.tmp 41) rfl (p + 1) _ _ (⟨#[110, 111, 116, 101, 115]⟩ : ByteArray) rfl hown7 _ rfl _ rfl rfl ?cg1 ?cg2 hb7 ?cg3 ?_))
      (try (case cg1 => simp))
      (try (case cg2 => omega))
      (try (case cg3 => exact Nat.le_refl _))
      intro v8 W8 hown8 hb8 hs8
      have hj := join_any W8 (p + 1) _ ([(⟨#[63]⟩ : ByteArray) ++ rt, s1, s2] ++ [s3] ++ [(⟨#[110, 111, 116, 101, 115]⟩ : ByteArray)]) hown8 (by simp) (by simp) (by rw [hE.out]; have := hLn.out; omega)
      rw [hE.out] at hj
      clear hLn hT
      go_wp2_with (go_at_call 14; (with_reducible refine hj.mono ?_); rintro e w9 ⟨rfl, hb9⟩)
      go_ret
      exact ⟨by rfl, (hb0.trans (hb8.mono (by rw [hp]; exact Nat.le_succ p))).trans (hb9.mono (by have := hb8.size; rw [World.size_alloc] at this; omega))⟩
  · obtain rfl : wd = ⟨#[63]⟩ := by rw [← hwd, hw]
    have hq0 : ¬ op = 0 := by simpa using hq
    have g2 : ¬ (9223372036854775807 < 1 + rt.size) := by omega
    clear hWds hw hwd ew
    go_enter Tryd.func5, Tryd.ntmps5
    go_wp2
    refine First.wp_region_first_ext [2, 6, 9] [0, 1, 4, 5, 8] [(true, false, 0), (true, false, 1), (true, true, 2), (true, false, 5), (true, true, 6), (true, false, 8), (true, true, 9), (false, true, 3), (true, false, 4), (false, true, 7), (false, false, 10), (false, false, 11), (false, false, 12)] (by kernel_rfl) (by kernel_rfl) (fun X => ?_); simp only [List.map_cons, List.map_nil, List.getD_cons_zero, List.getD_cons_succ]
    (repeat (first | (refine wfp fun K hK => ?_; go_simp; refine hK _ _ ?_; clear hK K) | (refine wff fun K hK => ?_; go_simp; refine hK _ _ ?_; clear hK K)))
    refine First.wpF_must (fun K hK => ?_)
    go_wp2_with (go_at_call 12; (with_reducible refine (hM _ (hzb.ext _) (hxb.ext _).sg).mono ?_); rintro e w1 ⟨rfl, hb1⟩; obtain ⟨X1, rfl⟩ := World.ext_of_below hb1; clear hb1)
    (refine hK _ _ (fun hnd => by first | exact Bool.noConfusion hnd | assumption | with_reducible (first | exact grown_alloc _ _ | exact First.Grown.refl _ | exact First.Grown.cat _ _ _ | exact First.Grown.ext _ _)) ?_; clear hK K)
    (repeat (first | (refine wfp fun K hK => ?_; go_simp; refine hK _ _ ?_; clear hK K) | (refine wff fun K hK => ?_; go_simp; refine hK _ _ ?_; clear hK K)))
    refine First.wpF_must (fun K hK => ?_)
    go_wp2_with (go_at_call 13; (with_reducible refine (hF1 _ (hS _ (by (repeat' (first | with_reducible (first | exact Below.refl _ _ | refine Below.ext ?_ ?_ _ | refine Below.alloc ?_ ?_ _ | refine Below.setCell ?_ ?_ _ | refine Below.drew ?_ | assumption) | (simp [World.size_ext]; done) | (simp [World.size_ext]; omega)))))).mono ?_); rintro e w2 ⟨rfl, hb2⟩; obtain ⟨X2, rfl⟩ := World.ext_of_below hb2; clear hb2)
    (refine hK _ _ (fun hnd => by first | exact Bool.noConfusion hnd | assumption | with_reducible (first | exact grown_alloc _ _ | exact First.Grown.refl _ | exact First.Grown.cat _ _ _ | exact First.Grown.ext _ _)) ?_; clear hK K)
    (repeat (first | (refine wfp fun K hK => ?_; go_simp; refine hK _ _ ?_; clear hK K) | (refine wff fun K hK => ?_; go_simp; refine hK _ _ ?_; clear hK K)))
    refine First.wpF_must (fun K hK => ?_)
    go_wp2_with (go_at_call 13; (with_reducible refine (hF2 _ (hS _ (by (repeat' (first | with_reducible (first | exact Below.refl _ _ | refine Below.ext ?_ ?_ _ | refine Below.alloc ?_ ?_ _ | refine Below.setCell ?_ ?_ _ | refine Below.drew ?_ | assumption) | (simp [World.size_ext]; done) | (simp [World.size_ext]; omega)))))).mono ?_); rintro e w3 ⟨rfl, hb3⟩; obtain ⟨X3, rfl⟩ := World.ext_of_below hb3; clear hb3)
    (refine hK _ _ (fun hnd => by first | exact Bool.noConfusion hnd | assumption | with_reducible (first | exact grown_alloc _ _ | exact First.Grown.refl _ | exact First.Grown.cat _ _ _ | exact First.Grown.ext _ _)) ?_; clear hK K)
    (repeat (first | (refine wfp fun K hK => ?_; go_simp; refine hK _ _ ?_; clear hK K) | (refine wff fun K hK => ?_; go_simp; refine hK _ _ ?_; clear hK K)))
    refine First.wpF_must (fun K hK => ?_)
    go_wp2
    (refine hK _ _ (fun hnd => by first | exact Bool.noConfusion hnd | assumption | with_reducible (first | exact grown_alloc _ _ | exact First.Grown.refl _ | exact First.Grown.cat _ _ _ | exact First.Grown.ext _ _)) ?_; clear hK K)
    refine First.wpF_must (fun K hK => ?_)
    go_wp2
    (refine hK _ _ (fun hnd => by first | exact Bool.noConfusion hnd | assumption | with_reducible (first | exact grown_alloc _ _ | exact First.Grown.refl _ | exact First.Grown.cat _ _ _ | exact First.Grown.ext _ _)) ?_; clear hK K)
    refine First.wpF_nil ?_
    have hgz : ((w.alloc (.cells #[.int .i64 op, .slice A r.length c, .int .i64 f, .int .i64 t, .int .i64 s, .bool n] 27)).ext (((X.cat X1).cat X2).cat X3)).heap.size = p + 1 + (X.blocks.size + X1.blocks.size + X2.blocks.size + X3.blocks.size) := by
      simp only [World.size_ext, World.size_alloc, Ext.cat, Array.size_append, hp]
    generalize Ext.cat (Ext.cat (Ext.cat X X1) X2) X3 = Y at *
    generalize X.blocks.size + X1.blocks.size + X2.blocks.size + X3.blocks.size = z at *
    have hC := Blk.new ((w.alloc (.cells #[.int .i64 op, .slice A r.length c, .int .i64 f, .int .i64 t, .int .i64 s, .bool n] 27)).ext Y) 9 #[.string ((⟨#[63]⟩ : ByteArray) ++ rt), .string s1, .string s2]
    rw [hgz] at hC
    have hBy : Below (p + 1) (w.alloc (.cells #[.int .i64 op, .slice A r.length c, .int .i64 f, .int .i64 t, .int .i64 s, .bool n] 27)) (((w.alloc (.cells #[.int .i64 op, .slice A r.length c, .int .i64 f, .int .i64 t, .int .i64 s, .bool n] 27)).ext Y).alloc (.cells #[.string ((⟨#[63]⟩ : ByteArray) ++ rt), .string s1, .string s2] 9)) :=
      ((World.below_ext _ Y).mono (by rw [World.size_alloc, hp]; exact Nat.le_refl _)).alloc (by rw [hgz]; omega) _
    refine abstr (fun W => Below (p + 1) (w.alloc (.cells #[.int .i64 op, .slice A r.length c, .int .i64 f, .int .i64 t, .int .i64 s, .bool n] 27)) W ∧ OwnT W (p + 1) (.slice (some ⟨p + 1 + z, 0, none⟩) 3 3) [(⟨#[63]⟩ : ByteArray) ++ rt, s1, s2]) ⟨hBy, hC.own (by omega) (by decide) (by unfold maxLen; omega) rfl rfl rfl⟩ (fun W hW => ?_)
    obtain ⟨hB, hown⟩ := hW
    have hAW := hA.below hB (Nat.lt_succ_self p)
    have kc := hAW.cell
    have hsW : p + 1 ≤ W.heap.size := by have := hB.size; rw [World.size_alloc, hp] at this; exact this
    have hxW : Sx W := hxb.below (hB.mono (by rw [World.size_alloc, hp]; exact Nat.le_refl _))
    clear hC hBy hgz
    cases n with
    | false =>
      have hE := hide (show Lib.join (([(⟨#[63]⟩ : ByteArray) ++ rt, s1, s2] ++ [s3] : List ByteArray).map (·.data.toList)) [32] = textQ ⟨op, r, f, t, s, false⟩ from by rw [← hT.out]; simp [ba_app, hq0, notesB])
      go_wp2_with (first
        | (go_at_call 13; (with_reducible refine (hF3 _ hxW).mono ?_); rintro e w2 ⟨rfl, hb2⟩; have hown2 := hown.below hb2; have hb02 := hB.trans (hb2.mono hsW); have hs2 := Nat.le_trans hsW hb2.size)
        | (at_builtin; go_must (refine app_strs (w0 := (w.alloc (.cells #[.int .i64 op, .slice A r.length c, .int .i64 f, .int .i64 t, .int .i64 s, .bool false] 27))) (B0 := p + 1) rfl (.tmp 32) (.tmp 36) rfl (p + 1) _ _ s3 rfl hown2 _ rfl _ rfl rfl ?ch1 ?ch2 hb02 ?ch3 ?_)))
      (try (case ch1 => simp))
      (try (case ch2 => omega))
      (try (case ch3 => exact Nat.le_refl _))
      intro v7 W7 hown7 hb7 hs7
      have hAW7 := hA.below hb7 (Nat.lt_succ_self p)
      have kc7 := hAW7.cell
      have hs70 : p + 1 ≤ W7.heap.size := by omega
      have hj := join_any W7 (p + 1) _ ([(⟨#[63]⟩ : ByteArray) ++ rt, s1, s2] ++ [s3]) hown7 (by simp) (by simp) (by rw [hE.out]; have := hLn.out; omega)
      rw [hE.out] at hj
      clear hLn hT
      go_wp2_with (go_at_call 14; (with_reducible refine hj.mono ?_); rintro e w9 ⟨rfl, hb9⟩)
      go_ret
      exact ⟨by rfl, (hb0.trans (hb7.mono (by rw [hp]; exact Nat.le_succ p))).trans (hb9.mono (by have := hb7.size; rw [World.size_alloc] at this; omega))⟩
    | true =>
      have hE := hide (show Lib.join (([(⟨#[63]⟩ : ByteArray) ++ rt, s1, s2] ++ [s3] ++ [(⟨#[110, 111, 116, 101, 115]⟩ : ByteArray)] : List ByteArray).map (·.data.toList)) [32] = textQ ⟨op, r, f, t, s, true⟩ from by rw [← hT.out]; simp [ba_app, hq0, notesB])
      go_wp2_with (first
        | (go_at_call 13; (with_reducible refine (hF3 _ hxW).mono ?_); rintro e w2 ⟨rfl, hb2⟩; have hown2 := hown.below hb2; have hb02 := hB.trans (hb2.mono hsW); have hs2 := Nat.le_trans hsW hb2.size)
        | (at_builtin; go_must (refine app_strs (w0 := (w.alloc (.cells #[.int .i64 op, .slice A r.length c, .int .i64 f, .int .i64 t, .int .i64 s, .bool true] 27))) (B0 := p + 1) rfl (.tmp 32) (.tmp 36) rfl (p + 1) _ _ s3 rfl hown2 _ rfl _ rfl rfl ?ci1 ?ci2 hb02 ?ci3 ?_)))
      (try (case ci1 => simp))
      (try (case ci2 => omega))
      (try (case ci3 => exact Nat.le_refl _))
      intro v7 W7 hown7 hb7 hs7
      have hAW7 := hA.below hb7 (Nat.lt_succ_self p)
      have kc7 := hAW7.cell
      have hs70 : p + 1 ≤ W7.heap.size := by omega
      go_wp2_with (at_builtin; go_must (refine app_strs (w0 := (w.alloc (.cells #[.int .i64 op, .slice A r.length c, .int .i64 f, .int .i64 t, .int .i64 s, .bool true] 27))) (B0 := p + 1) rfl (.tmp 40) (.tmp 41) rfl (p + 1) _ _ (⟨#[110, 111, 116, 101, 115]⟩ : ByteArray) rfl hown7 _ rfl _ rfl rfl ?cj1 ?cj2 hb7 ?cj3 ?_))
      (try (case cj1 => simp))
      (try (case cj2 => omega))
      (try (case cj3 => exact Nat.le_refl _))
      intro v8 W8 hown8 hb8 hs8
      have hj := join_any W8 (p + 1) _ ([(⟨#[63]⟩ : ByteArray) ++ rt, s1, s2] ++ [s3] ++ [(⟨#[110, 111, 116, 101, 115]⟩ : ByteArray)]) hown8 (by simp) (by simp) (by rw [hE.out]; have := hLn.out; omega)
      rw [hE.out] at hj
      clear hLn hT
      go_wp2_with (go_at_call 14; (with_reducible refine hj.mono ?_); rintro e w9 ⟨rfl, hb9⟩)
      go_ret
      exact ⟨by rfl, (hb0.trans (hb8.mono (by rw [hp]; exact Nat.le_succ p))).trans (hb9.mono (by have := hb8.size; rw [World.size_alloc] at this; omega))⟩
end Go.Proofs.YtamnononemallaaDoor
