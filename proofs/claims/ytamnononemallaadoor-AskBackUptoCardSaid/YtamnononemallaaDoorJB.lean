import Derived.Test.YtamnononemallaaDoorJ1
import Derived.Test.YtamnononemallaaDoorJ7
import Derived.Test.YtamnononemallaaDoorMo
/-! AskBack: the law's walk. -/
namespace Go.Proofs.YtamnononemallaaDoor
open Go.RowKit
set_option linter.unusedVariables false
set_option linter.unusedSimpArgs false
theorem Sx.ext' {w : World} (h : Sx w) (X : Ext) : Sx (w.ext X) := h.below (World.below_ext w X)
theorem right_b {rs : List Rul} (h : rightR rs = true) : ∀ x ∈ rs, x.b.size ≤ 64 := fun x hx => by
  unfold rightR at h
  simp only [Bool.and_eq_true, decide_eq_true_eq, List.all_eq_true] at h
  have h1 := h.2 x hx
  unfold okR at h1
  simp only [Bool.and_eq_true, decide_eq_true_eq, Bool.or_eq_true] at h1
  obtain ⟨_, _, _, hb⟩ := h1
  rcases hb with hb | hb
  · omega
  · unfold vlB at hb
    simp only [Bool.and_eq_true, decide_eq_true_eq] at hb
    omega
theorem right_ok {q : Qy} (h : rightQ q = true) : q.ok := by
  obtain ⟨h1, h2, h3, h4, h5, h6, h7, h8⟩ := rightQ_facts h
  refine ⟨right_oks h3, by omega, by omega, by omega, ?_⟩
  by_cases h0 : q.op = 0
  · have := h7 h0; omega
  · have := h8 h0; omega
theorem text_rj (q : Qy) : (rj q.r).length ≤ (textQ q).length := by
  unfold textQ
  simp only [List.length_append, rtB, List.length_cons]
  omega
theorem parQ_e0 {T : List UInt8} (h : (parQ T).e ≠ 0) : True := trivial
theorem parQ_len' (T : List UInt8) (h : (parQ T).e = 0) : T.length ≤ 4096 := by
  unfold parQ at h
  by_cases h1 : 4096 < T.length
  · rw [if_pos h1] at h; exact absurd h (by decide)
  · omega
set_option maxRecDepth 100000 in
set_option maxHeartbeats 40000000 in
theorem law_askBack (q : Qy) (rv : Value) (t : ByteArray) (w : World) (hr : Rz w rv q.r) (hok : q.ok) (hrj : (rj q.r).length ≤ 100000000) (hn : q.r.length ≤ 5242880) (hsh : ShortR q.r) (hx : Sx w) :
    Calls Tryd.prog 3 #[.agg #[.int .i64 q.op, rv, .int .i64 q.f, .int .i64 q.t, .int .i64 q.s, .bool q.n], .string t] w fun e w' => e = .returned (.bool true) ∧ Below w.heap.size w w' := by
  have c1 := fun W h => qto_any q rv W h (by omega)
  have c2 := fun u W h hs => atext_any q u W h hok hrj hsh hs
  have c3 := fun u W h => aright_any q u W h hok
  have c5 := fun u W h => qfrom_any q u W h (by omega)
  have c6 := fun u v W h1 h2 => dsame_any q u v W h1 h2
  have c7 := fun W h => aparse_any t W h
  have c8 := fun W h => qawake_any W h
  have hback := fun (h : rightQ q = true) (hl : (textQ q).length ≤ 4096) W hW => aparse_any ⟨(textQ q).toArray⟩ W hW
  obtain ⟨sT, hsT⟩ : ∃ sT : ByteArray, (⟨(textQ q).toArray⟩ : ByteArray) = sT := ⟨_, rfl⟩
  have hdT : sT.data.toList = textQ q := by rw [← hsT]
  have hzT : sT.size = (textQ q).length := by rw [Lib.size_eq, hdT]
  rw [hsT] at c2
  have hinv := fun h => parQ_inv (T := t.data.toList) h
  have hl4 := fun h => parQ_len' t.data.toList h
  obtain ⟨x, hxq⟩ : ∃ x, (parQ t.data.toList).q = x := ⟨_, rfl⟩
  obtain ⟨e9, he9⟩ : ∃ x, (parQ t.data.toList).e = x := ⟨_, rfl⟩
  rw [hxq, he9] at c7
  rw [hxq, he9] at hinv
  rw [he9] at hl4
  have hE : (e9 = 0 ∧ (∀ u W, Rz W u x.r → Calls Tryd.prog 6 #[.agg #[.int .i64 x.op, u, .int .i64 x.f, .int .i64 x.t, .int .i64 x.s, .bool x.n]] W fun e w' => e = .returned (.bool true) ∧ Below W.heap.size W w') ∧
      (∀ u W, Rz W u x.r → Sx W → Calls Tryd.prog 5 #[.agg #[.int .i64 x.op, u, .int .i64 x.f, .int .i64 x.t, .int .i64 x.s, .bool x.n]] W fun e w' => e = .returned (.string t) ∧ Below W.heap.size W w')) ∨ e9 ≠ 0 := by
    by_cases h0 : e9 = 0
    · refine .inl ⟨h0, fun u W h => ?_, fun u W h hs => ?_⟩
      · obtain ⟨h1, _⟩ := hinv h0
        have := aright_any x u W h (right_ok h1)
        rw [h1] at this
        exact this
      · obtain ⟨h1, h2⟩ := hinv h0
        have hl := hl4 h0
        have hj := text_rj x
        rw [h2] at hj
        have hr3 := (rightQ_facts h1).2.2.1
        have := atext_any x u W h (right_ok h1) (by omega) ⟨fun y hy => by have := right_b hr3 y hy; omega, by omega⟩ hs
        rw [h2, Lib.mk_data] at this
        exact this
    · exact .inr h0
  have hways : (rightQ q = false ∨ rightQ q = true ∧ ¬ ((sT.size : Int) ≤ 4096)) ∨ (rightQ q = true ∧ (sT.size : Int) ≤ 4096 ∧ ∀ W, Sx W → Calls Tryd.prog 7 #[.string sT] W fun e w' => (∃ u, e = .returned (.tuple #[.agg #[.int .i64 q.op, u, .int .i64 q.f, .int .i64 q.t, .int .i64 q.s, .bool q.n], .int .i64 0]) ∧ Rz w' u q.r) ∧ Below W.heap.size W w') := by
    cases hrq : rightQ q with
    | false => exact .inl (.inl rfl)
    | true =>
      by_cases hl : (sT.size : Int) ≤ 4096
      · refine .inr ⟨rfl, hl, fun W hW => ?_⟩
        have := aparse_any sT W hW
        rw [hdT, parQ_back hrq (by omega)] at this
        exact this
      · exact .inl (.inr ⟨rfl, hl⟩)
  clear hback hinv hl4 hxq he9 hok hrj hn hsh hsT hdT hzT
  obtain ⟨A, c, rfl⟩ := hr.shape
  obtain ⟨op, r, f, tz, s, n⟩ := q
  dsimp only at *
  obtain ⟨p, hp⟩ : ∃ p, w.heap.size = p := ⟨_, rfl⟩
  have hA := Blk.new w 24 #[.int .i64 op, .slice A r.length c, .int .i64 f, .int .i64 tz, .int .i64 s, .bool n]
  rw [hp] at hA
  have hb0 : Below w.heap.size w (w.alloc (.cells #[.int .i64 op, .slice A r.length c, .int .i64 f, .int .i64 tz, .int .i64 s, .bool n] 24)) := Below.alloc (Below.refl _ _) (Nat.le_refl _) _
  have hr0 : Rz (w.alloc (.cells #[.int .i64 op, .slice A r.length c, .int .i64 f, .int .i64 tz, .int .i64 s, .bool n] 24)) (.slice A r.length c) r := hr.alloc _
  rcases hways with (hq | ⟨hq, hl⟩) | ⟨hq, hl, c4⟩
  · rw [hq] at c3
    clear hq
    rcases hE with ⟨he, c9, c10⟩ | he
    · subst he
      go_enter Tryd.func3, Tryd.ntmps3
      go_wp2_with (first
        | (go_at_call 4; (with_reducible refine (c1 _ hr0).mono ?_); rintro e w1 ⟨⟨u1, rfl, hZ1⟩, hb1⟩; obtain ⟨A1, d1, rfl⟩ := hZ1.shape; have hs1 := hb1.size; have hA1 := hA.below hb1 hA.lt; have hb01 := hb0.trans (hb1.mono hb0.size); have hx1 := fun o => hx.below (hb01.alloc hb01.size o))
        | (go_at_call 5; (with_reducible refine (c2 _ _ (hZ1.alloc _) (hx1 _)).mono ?_); rintro e w2 ⟨rfl, hb2⟩; obtain ⟨X2, rfl⟩ := World.ext_of_below hb2; clear hb2)
        | (go_at_call 6; (with_reducible refine (c3 _ _ ((hZ1.alloc _).ext _)).mono ?_); rintro e w3 ⟨rfl, hb3⟩; obtain ⟨X3, rfl⟩ := World.ext_of_below hb3; clear hb3)
        | (go_at_call 7; (with_reducible refine (c7 _ ((hx1 _).ext _)).mono ?_); rintro e w7 ⟨⟨u7, rfl, hZ7⟩, hb7⟩; obtain ⟨A7, d7, rfl⟩ := hZ7.shape; have hb07 := ((hb01.alloc hb01.size _).trans ((World.below_ext _ _).mono (hb01.alloc hb01.size _).size)).trans (hb7.mono ((hb01.alloc hb01.size _).trans ((World.below_ext _ _).mono (hb01.alloc hb01.size _).size)).size); have hx7 := fun o => hx.below (hb07.alloc hb07.size o))
        | (go_at_call 10; (with_reducible refine (c8 _ (hx7 _)).mono ?_); rintro e w8 ⟨rfl, hb8⟩; obtain ⟨X8, rfl⟩ := World.ext_of_below hb8; clear hb8)
        | (go_at_call 6; (with_reducible refine (c9 _ _ ((hZ7.alloc _).ext _)).mono ?_); rintro e w9 ⟨rfl, hb9⟩; obtain ⟨X9, rfl⟩ := World.ext_of_below hb9; clear hb9)
        | (go_at_call 5; (with_reducible refine (c10 _ _ ((hZ7.alloc _).ext _) ((hx7 _).ext _)).mono ?_); rintro e w10 ⟨rfl, hb10⟩; obtain ⟨X10, rfl⟩ := World.ext_of_below hb10; clear hb10))
      refine bodyPost_ret (v := .bool true) (by simp [results, Tryd.results3, go_sem] <;> rfl) rfl ⟨rfl, ?_⟩
      exact (hb07.alloc hb07.size _).trans ((World.below_ext _ _).mono (hb07.alloc hb07.size _).size)
    · have he1 : (e9 != 0) = true := by simpa using he
      clear he
      go_enter Tryd.func3, Tryd.ntmps3
      go_wp2_with (first
        | (go_at_call 4; (with_reducible refine (c1 _ hr0).mono ?_); rintro e w1 ⟨⟨u1, rfl, hZ1⟩, hb1⟩; obtain ⟨A1, d1, rfl⟩ := hZ1.shape; have hs1 := hb1.size; have hA1 := hA.below hb1 hA.lt; have hb01 := hb0.trans (hb1.mono hb0.size); have hx1 := fun o => hx.below (hb01.alloc hb01.size o))
        | (go_at_call 5; (with_reducible refine (c2 _ _ (hZ1.alloc _) (hx1 _)).mono ?_); rintro e w2 ⟨rfl, hb2⟩; obtain ⟨X2, rfl⟩ := World.ext_of_below hb2; clear hb2)
        | (go_at_call 6; (with_reducible refine (c3 _ _ ((hZ1.alloc _).ext _)).mono ?_); rintro e w3 ⟨rfl, hb3⟩; obtain ⟨X3, rfl⟩ := World.ext_of_below hb3; clear hb3)
        | (go_at_call 7; (with_reducible refine (c7 _ ((hx1 _).ext _)).mono ?_); rintro e w7 ⟨⟨u7, rfl, hZ7⟩, hb7⟩; obtain ⟨A7, d7, rfl⟩ := hZ7.shape; have hb07 := ((hb01.alloc hb01.size _).trans ((World.below_ext _ _).mono (hb01.alloc hb01.size _).size)).trans (hb7.mono ((hb01.alloc hb01.size _).trans ((World.below_ext _ _).mono (hb01.alloc hb01.size _).size)).size); have hx7 := fun o => hx.below (hb07.alloc hb07.size o))
        | (go_at_call 10; (with_reducible refine (c8 _ (hx7 _)).mono ?_); rintro e w8 ⟨rfl, hb8⟩; obtain ⟨X8, rfl⟩ := World.ext_of_below hb8; clear hb8))
      refine bodyPost_ret (v := .bool true) (by simp [results, Tryd.results3, go_sem] <;> rfl) rfl ⟨rfl, ?_⟩
      exact (hb07.alloc hb07.size _).trans ((World.below_ext _ _).mono (hb07.alloc hb07.size _).size)
  · rw [hq] at c3
    clear hq
    rcases hE with ⟨he, c9, c10⟩ | he
    · subst he
      go_enter Tryd.func3, Tryd.ntmps3
      go_wp2_with (first
        | (go_at_call 4; (with_reducible refine (c1 _ hr0).mono ?_); rintro e w1 ⟨⟨u1, rfl, hZ1⟩, hb1⟩; obtain ⟨A1, d1, rfl⟩ := hZ1.shape; have hs1 := hb1.size; have hA1 := hA.below hb1 hA.lt; have hb01 := hb0.trans (hb1.mono hb0.size); have hx1 := fun o => hx.below (hb01.alloc hb01.size o))
        | (go_at_call 5; (with_reducible refine (c2 _ _ (hZ1.alloc _) (hx1 _)).mono ?_); rintro e w2 ⟨rfl, hb2⟩; obtain ⟨X2, rfl⟩ := World.ext_of_below hb2; clear hb2)
        | (go_at_call 6; (with_reducible refine (c3 _ _ ((hZ1.alloc _).ext _)).mono ?_); rintro e w3 ⟨rfl, hb3⟩; obtain ⟨X3, rfl⟩ := World.ext_of_below hb3; clear hb3)
        | (go_at_call 7; (with_reducible refine (c7 _ ((hx1 _).ext _)).mono ?_); rintro e w7 ⟨⟨u7, rfl, hZ7⟩, hb7⟩; obtain ⟨A7, d7, rfl⟩ := hZ7.shape; have hb07 := ((hb01.alloc hb01.size _).trans ((World.below_ext _ _).mono (hb01.alloc hb01.size _).size)).trans (hb7.mono ((hb01.alloc hb01.size _).trans ((World.below_ext _ _).mono (hb01.alloc hb01.size _).size)).size); have hx7 := fun o => hx.below (hb07.alloc hb07.size o))
        | (go_at_call 10; (with_reducible refine (c8 _ (hx7 _)).mono ?_); rintro e w8 ⟨rfl, hb8⟩; obtain ⟨X8, rfl⟩ := World.ext_of_below hb8; clear hb8)
        | (go_at_call 6; (with_reducible refine (c9 _ _ ((hZ7.alloc _).ext _)).mono ?_); rintro e w9 ⟨rfl, hb9⟩; obtain ⟨X9, rfl⟩ := World.ext_of_below hb9; clear hb9)
        | (go_at_call 5; (with_reducible refine (c10 _ _ ((hZ7.alloc _).ext _) ((hx7 _).ext _)).mono ?_); rintro e w10 ⟨rfl, hb10⟩; obtain ⟨X10, rfl⟩ := World.ext_of_below hb10; clear hb10))
      refine bodyPost_ret (v := .bool true) (by simp [results, Tryd.results3, go_sem] <;> rfl) rfl ⟨rfl, ?_⟩
      exact (hb07.alloc hb07.size _).trans ((World.below_ext _ _).mono (hb07.alloc hb07.size _).size)
    · have he1 : (e9 != 0) = true := by simpa using he
      clear he
      go_enter Tryd.func3, Tryd.ntmps3
      go_wp2_with (first
        | (go_at_call 4; (with_reducible refine (c1 _ hr0).mono ?_); rintro e w1 ⟨⟨u1, rfl, hZ1⟩, hb1⟩; obtain ⟨A1, d1, rfl⟩ := hZ1.shape; have hs1 := hb1.size; have hA1 := hA.below hb1 hA.lt; have hb01 := hb0.trans (hb1.mono hb0.size); have hx1 := fun o => hx.below (hb01.alloc hb01.size o))
        | (go_at_call 5; (with_reducible refine (c2 _ _ (hZ1.alloc _) (hx1 _)).mono ?_); rintro e w2 ⟨rfl, hb2⟩; obtain ⟨X2, rfl⟩ := World.ext_of_below hb2; clear hb2)
        | (go_at_call 6; (with_reducible refine (c3 _ _ ((hZ1.alloc _).ext _)).mono ?_); rintro e w3 ⟨rfl, hb3⟩; obtain ⟨X3, rfl⟩ := World.ext_of_below hb3; clear hb3)
        | (go_at_call 7; (with_reducible refine (c7 _ ((hx1 _).ext _)).mono ?_); rintro e w7 ⟨⟨u7, rfl, hZ7⟩, hb7⟩; obtain ⟨A7, d7, rfl⟩ := hZ7.shape; have hb07 := ((hb01.alloc hb01.size _).trans ((World.below_ext _ _).mono (hb01.alloc hb01.size _).size)).trans (hb7.mono ((hb01.alloc hb01.size _).trans ((World.below_ext _ _).mono (hb01.alloc hb01.size _).size)).size); have hx7 := fun o => hx.below (hb07.alloc hb07.size o))
        | (go_at_call 10; (with_reducible refine (c8 _ (hx7 _)).mono ?_); rintro e w8 ⟨rfl, hb8⟩; obtain ⟨X8, rfl⟩ := World.ext_of_below hb8; clear hb8))
      refine bodyPost_ret (v := .bool true) (by simp [results, Tryd.results3, go_sem] <;> rfl) rfl ⟨rfl, ?_⟩
      exact (hb07.alloc hb07.size _).trans ((World.below_ext _ _).mono (hb07.alloc hb07.size _).size)
  · rw [hq] at c3
    clear hq
    rcases hE with ⟨he, c9, c10⟩ | he
    · subst he
      go_enter Tryd.func3, Tryd.ntmps3
      go_wp2_with (first
        | (go_at_call 4; (with_reducible refine (c1 _ hr0).mono ?_); rintro e w1 ⟨⟨u1, rfl, hZ1⟩, hb1⟩; obtain ⟨A1, d1, rfl⟩ := hZ1.shape; have hs1 := hb1.size; have hA1 := hA.below hb1 hA.lt; have hb01 := hb0.trans (hb1.mono hb0.size); have hx1 := fun o => hx.below (hb01.alloc hb01.size o))
        | (go_at_call 5; (with_reducible refine (c2 _ _ (hZ1.alloc _) (hx1 _)).mono ?_); rintro e w2 ⟨rfl, hb2⟩; obtain ⟨X2, rfl⟩ := World.ext_of_below hb2; clear hb2)
        | (go_at_call 6; (with_reducible refine (c3 _ _ ((hZ1.alloc _).ext _)).mono ?_); rintro e w3 ⟨rfl, hb3⟩; obtain ⟨X3, rfl⟩ := World.ext_of_below hb3; clear hb3)
        | (go_at_call 7; (with_reducible refine (c4 _ ((hx1 _).ext _)).mono ?_); rintro e w4 ⟨⟨u4, rfl, hZ4⟩, hb4⟩; obtain ⟨A4, d4, rfl⟩ := hZ4.shape; have hs4 := hb4.size))
      have hb1a := hb01.alloc hb01.size (.cells #[.int .i64 op, .slice A1 r.length d1, .int .i64 f, .int .i64 tz, .int .i64 s, .bool n] 27)
      have hA4 := (((hA1.alloc (.cells #[.int .i64 op, .slice A1 r.length d1, .int .i64 f, .int .i64 tz, .int .i64 s, .bool n] 27)).ext (X2.cat X3)).below hb4 (((hA1.alloc _).ext _).lt)).alloc (.cells #[.int .i64 op, .slice A4 r.length d4, .int .i64 f, .int .i64 tz, .int .i64 s, .bool n] 27)
      have hb1b := hb1a.trans ((World.below_ext _ (X2.cat X3)).mono hb1a.size)
      have hb04 := hb1b.trans (hb4.mono hb1b.size)
      have hY4 := Blk.new w4 27 #[.int .i64 op, .slice A4 r.length d4, .int .i64 f, .int .i64 tz, .int .i64 s, .bool n]
      refine abstr (fun W => Below w.heap.size w W ∧ Blk W p 24 #[.int .i64 op, .slice A r.length c, .int .i64 f, .int .i64 tz, .int .i64 s, .bool n] ∧ Blk W w4.heap.size 27 #[.int .i64 op, .slice A4 r.length d4, .int .i64 f, .int .i64 tz, .int .i64 s, .bool n] ∧ Rz W (.slice A4 r.length d4) r)
        ⟨hb04.alloc hb04.size _, hA4, hY4, hZ4.alloc _⟩ (fun W hW => ?_)
      clear hA hA1 hA4 hY4 hb01 hb04 hb1a hb1b hb4 hb1 hZ1 hZ4 hx1 hs1 hs4 c1 c2 c3 c4
      generalize w4.heap.size = p4 at *
      obtain ⟨hbW, hAW, hYW, hZ4⟩ := hW
      have hxW : Sx W := hx.below hbW
      have hrW := hr.below hbW
      have ka := fun Y i => (hAW.ext Y).cell i
      have ky := fun Y i => (hYW.ext Y).cell i
      refine First.wp_region_first_ext [3, 5] [0, 1, 2, 7, 8] [(true, false, 0), (true, false, 1), (true, false, 2), (true, true, 3), (true, true, 5), (false, true, 4), (false, false, 6), (true, false, 7), (true, false, 8)] (by kernel_rfl) (by kernel_rfl) (fun Z => ?_); simp only [List.map_cons, List.map_nil, List.getD_cons_zero, List.getD_cons_succ]
      (repeat (first | (refine wfp fun K hK => ?_; go_simp; refine hK _ _ ?_; clear hK K) | (refine wff fun K hK => ?_; go_simp; refine hK _ _ ?_; clear hK K)))
      refine First.wpF_must (fun K hK => ?_)
      go_wp2_with (go_at_call 9; (with_reducible refine (c5 _ _ (hZ4.ext _)).mono ?_); rintro e w5 ⟨⟨u5, rfl, hZ5⟩, hb5⟩; obtain ⟨X5, rfl⟩ := World.ext_of_below hb5; clear hb5; rw [World.ext_ext] at hZ5)
      (refine hK _ _ (fun hnd => by first | exact Bool.noConfusion hnd | assumption | with_reducible (first | exact grown_alloc _ _ | exact First.Grown.refl _ | exact First.Grown.cat _ _ _ | exact First.Grown.ext _ _)) ?_; clear hK K)
      (repeat (first | (refine wfp fun K hK => ?_; go_simp; refine hK _ _ ?_; clear hK K) | (refine wff fun K hK => ?_; go_simp; refine hK _ _ ?_; clear hK K)))
      refine First.wpF_must (fun K hK => ?_)
      go_wp2_with (go_at_call 8; (with_reducible refine (c6 _ _ _ hZ5 (hrW.ext _)).mono ?_); rintro e w6 ⟨rfl, hb6⟩; obtain ⟨X6, rfl⟩ := World.ext_of_below hb6; clear hb6)
      (refine hK _ _ (fun hnd => by first | exact Bool.noConfusion hnd | assumption | with_reducible (first | exact grown_alloc _ _ | exact First.Grown.refl _ | exact First.Grown.cat _ _ _ | exact First.Grown.ext _ _)) ?_; clear hK K)
      (repeat (first | (refine wfp fun K hK => ?_; go_simp; refine hK _ _ ?_; clear hK K) | (refine wff fun K hK => ?_; go_simp; refine hK _ _ ?_; clear hK K)))
      refine First.wpF_nil ?_
      have hbP : Below w.heap.size w (W.ext ((Z.cat X5).cat X6)) := hbW.trans ((World.below_ext _ _).mono hbW.size)
      go_wp2_with (first
        | (go_at_call 7; (with_reducible refine (c7 _ (hxW.ext _)).mono ?_); rintro e w7 ⟨⟨u7, rfl, hZ7⟩, hb7⟩; obtain ⟨A7, d7, rfl⟩ := hZ7.shape; have hb07 := hbP.trans (hb7.mono hbP.size); have hx7 := fun o => hx.below (hb07.alloc hb07.size o))
        | (go_at_call 10; (with_reducible refine (c8 _ (hx7 _)).mono ?_); rintro e w8 ⟨rfl, hb8⟩; obtain ⟨X8, rfl⟩ := World.ext_of_below hb8; clear hb8)
        | (go_at_call 6; (with_reducible refine (c9 _ _ ((hZ7.alloc _).ext _)).mono ?_); rintro e w9 ⟨rfl, hb9⟩; obtain ⟨X9, rfl⟩ := World.ext_of_below hb9; clear hb9)
        | (go_at_call 5; (with_reducible refine (c10 _ _ ((hZ7.alloc _).ext _) ((hx7 _).ext _)).mono ?_); rintro e w10 ⟨rfl, hb10⟩; obtain ⟨X10, rfl⟩ := World.ext_of_below hb10; clear hb10))
      refine bodyPost_ret (v := .bool true) (by simp [results, Tryd.results3, go_sem] <;> rfl) rfl ⟨rfl, ?_⟩
      exact (hb07.alloc hb07.size _).trans ((World.below_ext _ _).mono (hb07.alloc hb07.size _).size)
    · have he1 : (e9 != 0) = true := by simpa using he
      clear he
      go_enter Tryd.func3, Tryd.ntmps3
      go_wp2_with (first
        | (go_at_call 4; (with_reducible refine (c1 _ hr0).mono ?_); rintro e w1 ⟨⟨u1, rfl, hZ1⟩, hb1⟩; obtain ⟨A1, d1, rfl⟩ := hZ1.shape; have hs1 := hb1.size; have hA1 := hA.below hb1 hA.lt; have hb01 := hb0.trans (hb1.mono hb0.size); have hx1 := fun o => hx.below (hb01.alloc hb01.size o))
        | (go_at_call 5; (with_reducible refine (c2 _ _ (hZ1.alloc _) (hx1 _)).mono ?_); rintro e w2 ⟨rfl, hb2⟩; obtain ⟨X2, rfl⟩ := World.ext_of_below hb2; clear hb2)
        | (go_at_call 6; (with_reducible refine (c3 _ _ ((hZ1.alloc _).ext _)).mono ?_); rintro e w3 ⟨rfl, hb3⟩; obtain ⟨X3, rfl⟩ := World.ext_of_below hb3; clear hb3)
        | (go_at_call 7; (with_reducible refine (c4 _ ((hx1 _).ext _)).mono ?_); rintro e w4 ⟨⟨u4, rfl, hZ4⟩, hb4⟩; obtain ⟨A4, d4, rfl⟩ := hZ4.shape; have hs4 := hb4.size))
      have hb1a := hb01.alloc hb01.size (.cells #[.int .i64 op, .slice A1 r.length d1, .int .i64 f, .int .i64 tz, .int .i64 s, .bool n] 27)
      have hA4 := (((hA1.alloc (.cells #[.int .i64 op, .slice A1 r.length d1, .int .i64 f, .int .i64 tz, .int .i64 s, .bool n] 27)).ext (X2.cat X3)).below hb4 (((hA1.alloc _).ext _).lt)).alloc (.cells #[.int .i64 op, .slice A4 r.length d4, .int .i64 f, .int .i64 tz, .int .i64 s, .bool n] 27)
      have hb1b := hb1a.trans ((World.below_ext _ (X2.cat X3)).mono hb1a.size)
      have hb04 := hb1b.trans (hb4.mono hb1b.size)
      have hY4 := Blk.new w4 27 #[.int .i64 op, .slice A4 r.length d4, .int .i64 f, .int .i64 tz, .int .i64 s, .bool n]
      refine abstr (fun W => Below w.heap.size w W ∧ Blk W p 24 #[.int .i64 op, .slice A r.length c, .int .i64 f, .int .i64 tz, .int .i64 s, .bool n] ∧ Blk W w4.heap.size 27 #[.int .i64 op, .slice A4 r.length d4, .int .i64 f, .int .i64 tz, .int .i64 s, .bool n] ∧ Rz W (.slice A4 r.length d4) r)
        ⟨hb04.alloc hb04.size _, hA4, hY4, hZ4.alloc _⟩ (fun W hW => ?_)
      clear hA hA1 hA4 hY4 hb01 hb04 hb1a hb1b hb4 hb1 hZ1 hZ4 hx1 hs1 hs4 c1 c2 c3 c4
      generalize w4.heap.size = p4 at *
      obtain ⟨hbW, hAW, hYW, hZ4⟩ := hW
      have hxW : Sx W := hx.below hbW
      have hrW := hr.below hbW
      have ka := fun Y i => (hAW.ext Y).cell i
      have ky := fun Y i => (hYW.ext Y).cell i
      refine First.wp_region_first_ext [3, 5] [0, 1, 2, 7, 8] [(true, false, 0), (true, false, 1), (true, false, 2), (true, true, 3), (true, true, 5), (false, true, 4), (false, false, 6), (true, false, 7), (true, false, 8)] (by kernel_rfl) (by kernel_rfl) (fun Z => ?_); simp only [List.map_cons, List.map_nil, List.getD_cons_zero, List.getD_cons_succ]
      (repeat (first | (refine wfp fun K hK => ?_; go_simp; refine hK _ _ ?_; clear hK K) | (refine wff fun K hK => ?_; go_simp; refine hK _ _ ?_; clear hK K)))
      refine First.wpF_must (fun K hK => ?_)
      go_wp2_with (go_at_call 9; (with_reducible refine (c5 _ _ (hZ4.ext _)).mono ?_); rintro e w5 ⟨⟨u5, rfl, hZ5⟩, hb5⟩; obtain ⟨X5, rfl⟩ := World.ext_of_below hb5; clear hb5; rw [World.ext_ext] at hZ5)
      (refine hK _ _ (fun hnd => by first | exact Bool.noConfusion hnd | assumption | with_reducible (first | exact grown_alloc _ _ | exact First.Grown.refl _ | exact First.Grown.cat _ _ _ | exact First.Grown.ext _ _)) ?_; clear hK K)
      (repeat (first | (refine wfp fun K hK => ?_; go_simp; refine hK _ _ ?_; clear hK K) | (refine wff fun K hK => ?_; go_simp; refine hK _ _ ?_; clear hK K)))
      refine First.wpF_must (fun K hK => ?_)
      go_wp2_with (go_at_call 8; (with_reducible refine (c6 _ _ _ hZ5 (hrW.ext _)).mono ?_); rintro e w6 ⟨rfl, hb6⟩; obtain ⟨X6, rfl⟩ := World.ext_of_below hb6; clear hb6)
      (refine hK _ _ (fun hnd => by first | exact Bool.noConfusion hnd | assumption | with_reducible (first | exact grown_alloc _ _ | exact First.Grown.refl _ | exact First.Grown.cat _ _ _ | exact First.Grown.ext _ _)) ?_; clear hK K)
      (repeat (first | (refine wfp fun K hK => ?_; go_simp; refine hK _ _ ?_; clear hK K) | (refine wff fun K hK => ?_; go_simp; refine hK _ _ ?_; clear hK K)))
      refine First.wpF_nil ?_
      have hbP : Below w.heap.size w (W.ext ((Z.cat X5).cat X6)) := hbW.trans ((World.below_ext _ _).mono hbW.size)
      go_wp2_with (first
        | (go_at_call 7; (with_reducible refine (c7 _ (hxW.ext _)).mono ?_); rintro e w7 ⟨⟨u7, rfl, hZ7⟩, hb7⟩; obtain ⟨A7, d7, rfl⟩ := hZ7.shape; have hb07 := hbP.trans (hb7.mono hbP.size); have hx7 := fun o => hx.below (hb07.alloc hb07.size o))
        | (go_at_call 10; (with_reducible refine (c8 _ (hx7 _)).mono ?_); rintro e w8 ⟨rfl, hb8⟩; obtain ⟨X8, rfl⟩ := World.ext_of_below hb8; clear hb8))
      refine bodyPost_ret (v := .bool true) (by simp [results, Tryd.results3, go_sem] <;> rfl) rfl ⟨rfl, ?_⟩
      exact (hb07.alloc hb07.size _).trans ((World.below_ext _ _).mono (hb07.alloc hb07.size _).size)
end Go.Proofs.YtamnononemallaaDoor
