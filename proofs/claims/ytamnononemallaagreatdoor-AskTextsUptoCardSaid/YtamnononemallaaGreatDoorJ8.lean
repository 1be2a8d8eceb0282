import Derived.Test.YtamnononemallaaGreatDoorJ2
import Derived.Test.YtamnononemallaaGreatDoorJ6
import Derived.Test.YtamnononemallaaGreatDoorJ7
import Derived.Test.YtamnononemallaaGreatDoorMo
/-! AskTexts: the law's walk. -/
namespace Go.Proofs.YtamnononemallaaGreatDoor
open Go.RowKit
set_option linter.unusedVariables false
set_option linter.unusedSimpArgs false
theorem parQ_len (T : List UInt8) : (parQ T).q.r.length ≤ 16 := by
  unfold parQ
  split
  · simp [zeroQ]
  · split
    · simp [zeroQ]
    · split
      · simp [zeroQ]
      · split
        · simp [zeroQ]
        · split
          · simp [zeroQ]
          · split
            · rename_i h
              have := (rightQ_facts h).2.2.1
              unfold rightR at this
              simp only [Bool.and_eq_true, decide_eq_true_eq] at this
              exact this.1
            · simp [zeroQ]
set_option maxRecDepth 100000 in
set_option maxHeartbeats 40000000 in
theorem law_askTexts (q : Qy) (rv : Value) (t : ByteArray) (w : World) (hr : Rz w rv q.r) (hok : q.ok) (hsz : szR q.r ≤ 5242880) (ht : t.size ≤ 3000000000000) (hx : Sx w) :
    Calls Tryz.prog 3 #[.agg #[.int .i64 q.op, rv, .int .i64 q.f, .int .i64 q.t, .int .i64 q.s, .bool q.n], .string t] w fun e w' => e = .returned (.bool true) ∧ Below w.heap.size w w' := by
  have hsh := shortR_of (l := q.r) (by omega)
  have hrj : (rj q.r).length ≤ 100000000 := by have := rj_szR q.r; omega
  have hn := szR_len q.r
  have c1 := fun W h => aparse_any t W h
  have c2 := fun W => dparse_any t ht W
  have hpl := parQ_len t.data.toList
  have c3 := fun W h => qawake_any W h
  have c4 := fun W h => qto_any q rv W h (by omega)
  have c5 := fun u W h => aright_any q u W h hok
  have c6 := fun W h => dright_any q rv W h hok
  have c7 := fun u W h hs => atext_any q u W h hok hrj hsh hs
  have c8 := fun W h => dtext_any q rv W h hok hrj hsh
  obtain ⟨x, hxq⟩ : ∃ x, (parQ t.data.toList).q = x := ⟨_, rfl⟩
  obtain ⟨e9, he9⟩ : ∃ x, (parQ t.data.toList).e = x := ⟨_, rfl⟩
  rw [hxq, he9] at c1 c2
  rw [hxq] at hpl
  have c9 := fun u W h => qfrom_any x u W h (by omega)
  have c10 := fun u v W h1 h2 => dsame_any x u v W h1 h2
  generalize (⟨(textQ q).toArray⟩ : ByteArray) = tq at *
  generalize rightQ q = rq at *
  clear hok hsz ht hsh hrj hn hpl hxq he9
  obtain ⟨A, c, rfl⟩ := hr.shape
  obtain ⟨op, r, f, to, s, n⟩ := q
  dsimp only at *
  obtain ⟨p, hp⟩ : ∃ p, w.heap.size = p := ⟨_, rfl⟩
  have hA := Blk.new w 24 #[.int .i64 op, .slice A r.length c, .int .i64 f, .int .i64 to, .int .i64 s, .bool n]
  rw [hp] at hA
  have hb0 : Below w.heap.size w (w.alloc (.cells #[.int .i64 op, .slice A r.length c, .int .i64 f, .int .i64 to, .int .i64 s, .bool n] 24)) := Below.alloc (Below.refl _ _) (Nat.le_refl _) _
  have hx0 := hx.below hb0
  go_enter Tryz.func3, Tryz.ntmps3
  go_wp2_with (first
    | (go_at_call 6; (with_reducible refine (c1 _ hx0).mono ?_); rintro e w1 ⟨⟨u1, rfl, hZ1⟩, hb1⟩; obtain ⟨A1, d1, rfl⟩ := hZ1.shape; have hs1 := hb1.size; have hA1 := hA.below hb1 hA.lt)
    | (go_at_call 7; (with_reducible refine (c2 _).mono ?_); rintro e w2 ⟨⟨u2, rfl, hZ2⟩, hb2⟩; obtain ⟨A2, d2, rfl⟩ := hZ2.shape; have hs2 := hb2.size))
  have hX1 := Blk.new w1 27 #[.int .i64 x.op, .slice A1 x.r.length d1, .int .i64 x.f, .int .i64 x.t, .int .i64 x.s, .bool x.n]
  have hX2 := hX1.below hb2 hX1.lt
  have hA2 := (hA1.alloc (.cells #[.int .i64 x.op, .slice A1 x.r.length d1, .int .i64 x.f, .int .i64 x.t, .int .i64 x.s, .bool x.n] 27)).below hb2 (hA1.alloc _).lt
  have hb01 : Below w.heap.size w w1 := hb0.trans (hb1.mono hb0.size)
  have hb02 : Below w.heap.size w w2 := (hb01.alloc hb01.size _).trans (hb2.mono (hb01.alloc hb01.size _).size)
  refine abstr (fun W => Below w.heap.size w W ∧ Blk W p 24 #[.int .i64 op, .slice A r.length c, .int .i64 f, .int .i64 to, .int .i64 s, .bool n] ∧
      Blk W w1.heap.size 27 #[.int .i64 x.op, .slice A1 x.r.length d1, .int .i64 x.f, .int .i64 x.t, .int .i64 x.s, .bool x.n] ∧ Blk W w2.heap.size 24 #[.int .i64 x.op, .slice A2 x.r.length d2, .int .i64 x.f, .int .i64 x.t, .int .i64 x.s, .bool x.n] ∧
      Rz W (.slice A1 x.r.length d1) x.r ∧ Rz W (.slice A2 x.r.length d2) x.r)
    ⟨hb02.alloc hb02.size _, hA2.alloc _, hX2.alloc _, Blk.new w2 _ _, ((hZ1.alloc _).below hb2).alloc _, hZ2.alloc _⟩ (fun W hW => ?_)
  clear hA hA1 hA2 hX1 hX2 hb0 hb1 hb2 hb01 hb02 hZ1 hZ2 hs1 hs2 hx0
  generalize w1.heap.size = p1 at *
  generalize w2.heap.size = p2 at *
  obtain ⟨hbW, hAW, hXW, hYW, hZ1, hZ2⟩ := hW
  have hxW : Sx W := hx.below hbW
  have hrW := hr.below hbW
  have ka := fun Y i => (hAW.ext Y).cell i
  have kx := fun Y i => (hXW.ext Y).cell i
  have ky := fun Y i => (hYW.ext Y).cell i
  refine First.wp_region_first_ext [2, 5, 10, 13, 23, 25] [1, 7, 8, 9, 15, 16, 17, 18, 19, 20, 21, 22, 27] [(false, true, 0), (true, false, 1), (true, true, 2), (true, true, 5), (false, true, 3), (false, true, 4), (false, true, 6), (true, false, 7), (true, false, 8), (true, false, 9), (true, true, 10), (true, true, 13), (false, true, 11), (false, true, 12), (false, true, 14), (true, false, 15), (true, false, 16), (true, false, 17), (true, false, 18), (true, false, 19), (true, false, 20), (true, false, 21), (true, false, 22), (true, true, 23), (true, true, 25), (false, true, 24), (false, false, 26), (true, false, 27), (false, false, 28)] (by kernel_rfl) (by kernel_rfl) (fun X => ?_); simp only [List.map_cons, List.map_nil, List.getD_cons_zero, List.getD_cons_succ]
  (repeat (first | (refine wfp fun K hK => ?_; go_simp; refine hK _ _ ?_; clear hK K) | (refine wff fun K hK => ?_; go_simp; refine hK _ _ ?_; clear hK K)))
  refine First.wpF_must (fun K hK => ?_)
  go_wp2_with (go_at_call 8; (with_reducible refine (c3 _ (hxW.ext _)).mono ?_); rintro e w3 ⟨rfl, hb3⟩; obtain ⟨X3, rfl⟩ := World.ext_of_below hb3; clear hb3)
  (refine hK _ _ (fun hnd => by first | exact Bool.noConfusion hnd | assumption | with_reducible (first | exact grown_alloc _ _ | exact First.Grown.refl _ | exact First.Grown.cat _ _ _ | exact First.Grown.ext _ _)) ?_; clear hK K)
  (repeat (first | (refine wfp fun K hK => ?_; go_simp; refine hK _ _ ?_; clear hK K) | (refine wff fun K hK => ?_; go_simp; refine hK _ _ ?_; clear hK K)))
  refine First.wpF_must (fun K hK => ?_)
  go_wp2_with (go_at_call 10; (with_reducible refine (c4 _ (hrW.ext _)).mono ?_); rintro e w4 ⟨⟨u4, rfl, hZ4⟩, hb4⟩; obtain ⟨X4, rfl⟩ := World.ext_of_below hb4; clear hb4; rw [World.ext_ext] at hZ4)
  (refine hK _ _ (fun hnd => by first | exact Bool.noConfusion hnd | assumption | with_reducible (first | exact grown_alloc _ _ | exact First.Grown.refl _ | exact First.Grown.cat _ _ _ | exact First.Grown.ext _ _)) ?_; clear hK K)
  (repeat (first | (refine wfp fun K hK => ?_; go_simp; refine hK _ _ ?_; clear hK K) | (refine wff fun K hK => ?_; go_simp; refine hK _ _ ?_; clear hK K)))
  refine First.wpF_must (fun K hK => ?_)
  go_wp2_with (go_at_call 9; (with_reducible refine (c5 _ _ hZ4).mono ?_); rintro e w5 ⟨rfl, hb5⟩; obtain ⟨X5, rfl⟩ := World.ext_of_below hb5; clear hb5)
  (refine hK _ _ (fun hnd => by first | exact Bool.noConfusion hnd | assumption | with_reducible (first | exact grown_alloc _ _ | exact First.Grown.refl _ | exact First.Grown.cat _ _ _ | exact First.Grown.ext _ _)) ?_; clear hK K)
  (repeat (first | (refine wfp fun K hK => ?_; go_simp; refine hK _ _ ?_; clear hK K) | (refine wff fun K hK => ?_; go_simp; refine hK _ _ ?_; clear hK K)))
  refine First.wpF_must (fun K hK => ?_)
  go_wp2_with (go_at_call 11; (with_reducible refine (c6 _ (hrW.ext _)).mono ?_); rintro e w6 ⟨rfl, hb6⟩; obtain ⟨X6, rfl⟩ := World.ext_of_below hb6; clear hb6)
  (refine hK _ _ (fun hnd => by first | exact Bool.noConfusion hnd | assumption | with_reducible (first | exact grown_alloc _ _ | exact First.Grown.refl _ | exact First.Grown.cat _ _ _ | exact First.Grown.ext _ _)) ?_; clear hK K)
  (repeat (first | (refine wfp fun K hK => ?_; go_simp; refine hK _ _ ?_; clear hK K) | (refine wff fun K hK => ?_; go_simp; refine hK _ _ ?_; clear hK K)))
  refine First.wpF_must (fun K hK => ?_)
  go_wp2_with (go_at_call 10; (with_reducible refine (c4 _ (hrW.ext _)).mono ?_); rintro e w7 ⟨⟨u7, rfl, hZ7⟩, hb7⟩; obtain ⟨X7, rfl⟩ := World.ext_of_below hb7; clear hb7; rw [World.ext_ext] at hZ7)
  (refine hK _ _ (fun hnd => by first | exact Bool.noConfusion hnd | assumption | with_reducible (first | exact grown_alloc _ _ | exact First.Grown.refl _ | exact First.Grown.cat _ _ _ | exact First.Grown.ext _ _)) ?_; clear hK K)
  (repeat (first | (refine wfp fun K hK => ?_; go_simp; refine hK _ _ ?_; clear hK K) | (refine wff fun K hK => ?_; go_simp; refine hK _ _ ?_; clear hK K)))
  refine First.wpF_must (fun K hK => ?_)
  go_wp2_with (go_at_call 12; (with_reducible refine (c7 _ _ hZ7 (hxW.ext _)).mono ?_); rintro e w8 ⟨rfl, hb8⟩; obtain ⟨X8, rfl⟩ := World.ext_of_below hb8; clear hb8)
  (refine hK _ _ (fun hnd => by first | exact Bool.noConfusion hnd | assumption | with_reducible (first | exact grown_alloc _ _ | exact First.Grown.refl _ | exact First.Grown.cat _ _ _ | exact First.Grown.ext _ _)) ?_; clear hK K)
  (repeat (first | (refine wfp fun K hK => ?_; go_simp; refine hK _ _ ?_; clear hK K) | (refine wff fun K hK => ?_; go_simp; refine hK _ _ ?_; clear hK K)))
  refine First.wpF_must (fun K hK => ?_)
  go_wp2_with (go_at_call 13; (with_reducible refine (c8 _ (hrW.ext _)).mono ?_); rintro e w9 ⟨rfl, hb9⟩; obtain ⟨X9, rfl⟩ := World.ext_of_below hb9; clear hb9)
  (refine hK _ _ (fun hnd => by first | exact Bool.noConfusion hnd | assumption | with_reducible (first | exact grown_alloc _ _ | exact First.Grown.refl _ | exact First.Grown.cat _ _ _ | exact First.Grown.ext _ _)) ?_; clear hK K)
  (repeat (first | (refine wfp fun K hK => ?_; go_simp; refine hK _ _ ?_; clear hK K) | (refine wff fun K hK => ?_; go_simp; refine hK _ _ ?_; clear hK K)))
  refine First.wpF_must (fun K hK => ?_)
  go_wp2_with (go_at_call 15; (with_reducible refine (c9 _ _ (hZ1.ext _)).mono ?_); rintro e w10 ⟨⟨u10, rfl, hZ10⟩, hb10⟩; obtain ⟨X10, rfl⟩ := World.ext_of_below hb10; clear hb10; rw [World.ext_ext] at hZ10)
  (refine hK _ _ (fun hnd => by first | exact Bool.noConfusion hnd | assumption | with_reducible (first | exact grown_alloc _ _ | exact First.Grown.refl _ | exact First.Grown.cat _ _ _ | exact First.Grown.ext _ _)) ?_; clear hK K)
  (repeat (first | (refine wfp fun K hK => ?_; go_simp; refine hK _ _ ?_; clear hK K) | (refine wff fun K hK => ?_; go_simp; refine hK _ _ ?_; clear hK K)))
  refine First.wpF_must (fun K hK => ?_)
  go_wp2_with (go_at_call 14; (with_reducible refine (c10 _ _ _ hZ10 (hZ2.ext _)).mono ?_); rintro e w11 ⟨rfl, hb11⟩; obtain ⟨X11, rfl⟩ := World.ext_of_below hb11; clear hb11)
  (refine hK _ _ (fun hnd => by first | exact Bool.noConfusion hnd | assumption | with_reducible (first | exact grown_alloc _ _ | exact First.Grown.refl _ | exact First.Grown.cat _ _ _ | exact First.Grown.ext _ _)) ?_; clear hK K)
  (repeat (first | (refine wfp fun K hK => ?_; go_simp; refine hK _ _ ?_; clear hK K) | (refine wff fun K hK => ?_; go_simp; refine hK _ _ ?_; clear hK K)))
  refine First.wpF_must (fun K hK => ?_)
  go_wp2
  (refine hK _ _ (fun hnd => by first | exact Bool.noConfusion hnd | assumption | with_reducible (first | exact grown_alloc _ _ | exact First.Grown.refl _ | exact First.Grown.cat _ _ _ | exact First.Grown.ext _ _)) ?_; clear hK K)
  refine First.wpF_nil ?_
  go_wp2
  refine bodyPost_ret (v := .bool true) (by simp [results, Tryz.results3, go_sem] <;> rfl) rfl ⟨rfl, ?_⟩
  exact hbW.trans ((World.below_ext _ _).mono hbW.size)
end Go.Proofs.YtamnononemallaaGreatDoor
