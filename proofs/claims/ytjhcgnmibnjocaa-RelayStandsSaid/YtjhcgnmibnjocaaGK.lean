import Derived.Test.YtjhcgnmibnjocaaGJ
import Derived.Test.YtjhcgnmibnjocaaGM
import Derived.Test.YtjhcgnmibnjocaaY46
import Derived.Test.YtjhcgnmibnjocaaGL
import Derived.Test.YtjhcgnmibnjocaaY32
/-! Several texts in one. -/
/-! Nodes: a step: a node is loaded anew. -/
namespace Go.Proofs.Ytjhcgnmibnjocaa
open Go.RowKit Go.Maps
set_option linter.unusedVariables false
set_option linter.unusedSimpArgs false
attribute [local irreducible] First.wpF
section
variable {o : Nat → Option Nat} {w w1 : World} {g br bk gc bm bs cr : Nat} {gr : Nat → Nat} {vp : Value} {vk : Nat → Value} {s : Nd}
theorem NdX.anew (h : NdX w o g s br bk gc bm bs cr gr vp vk) {n q : Nat} {r : Rl} (hb : Below w.heap.size w w1) (hr : Rln w1 w.heap.size q r) : ∃ o', Oe o o' w w1 (11 + n) ∧ RelW w1 (tg o' (11 + n)) (OT o') q r := by
  obtain ⟨S, T, hW, hS, hT⟩ := hr
  have hX := hW
  obtain ⟨_, _, _, _, _, hX⟩ := hX
  obtain ⟨o', ho1, ho2⟩ : ∃ o' : Nat → Option Nat, (∀ k, S k → o' k = some (11 + n)) ∧ ∀ k, ¬S k → o' k = o k := by
    refine ⟨fun k => @ite _ (S k) (Classical.propDecidable _) (some (11 + n)) (o k), fun k hk => ?_, fun k hk => ?_⟩
    · simp only [if_pos hk]
    · simp only [if_neg hk]
  have hsp : ∀ k, OT o' k → S k ∨ OT o k := fun k ht => by
    by_cases hs : S k
    · exact .inl hs
    · refine .inr ?_
      unfold OT at *
      rw [ho2 k hs] at ht
      exact ht
  have he : Oe o o' w w1 (11 + n) := by
    refine ⟨Kp.of_below hb, fun k hk => ho2 k (fun hs => by have := hS k hs; omega), fun k hk => ?_, fun k ht => ?_⟩
    · by_cases hs : S k
      · exact .inr (ho1 k hs)
      · rw [ho2 k hs]
        cases e : o k with
        | none => exact .inl rfl
        | some x => have := h.lt k (by unfold OT; rw [e]; rfl); omega
    · rcases hsp k ht with hs | ht
      · exact hX.lt k (hX.sub k hs)
      · exact Nat.lt_of_lt_of_le (h.lt k ht) hb.size
  exact ⟨o', he, hW.move (R := fun _ => False) (Kp.refl _ _) (fun _ h => h.elim) (fun _ h => h.elim) (fun _ _ h => h) (fun k _ ht => (hsp k ht).elim (hX.sub k) (fun ht => hT k (h.lt k ht))) (fun k hk => ho1 k hk) (fun k hk => tg_OT hk) he.lt⟩
end
set_option maxRecDepth 100000 in
set_option maxHeartbeats 4000000 in
theorem does_six {o : Nat → Option Nat} {g br bk gc bm bs cr : Nat} {gr : Nat → Nat} {vp : Value} {vk : Nat → Value} {s : Nd} (w : World) (h : NdX w o g s br bk gc bm bs cr gr vp vk) (a b : Int) (Am : Option Addr) (m cm : Nat) (hpl : s.post.length ≤ 1000) (hkl : ∀ n, n < 4 → (s.kept n).length ≤ 1000) (hn1 : s.n ≤ 1000) (ρ : Rl) (hρ : restores (newP (nOf a)) (s.kept (nOf a)) = some ρ) (hkb : ∀ b ∈ s.kept (nOf a), b.length ≤ 100000) :
    Calls Try.prog 34 #[.pointer (some ⟨g, 0, none⟩), .agg #[.int .i64 (6), .int .i64 a, .int .i64 b, .slice Am m cm]] w (Does o g { s with rs := upd s.rs (nOf a) (loadedP ρ) } w) := by
  have hna := nOf_eq a
  have hnl := nOf_lt a
  generalize nOf a = n at *
  have hke : 0 < s.post.length → wrap64 ((IntKind.u64.wrap b).tmod (s.post.length : Int)) = (kOf b s.post.length : Int) := fun h0 => kOf_eq b h0 (by omega)
  have hk0 : s.post.length = 0 → kOf b s.post.length = 0 := fun h0 => by rw [h0]; rfl
  have hkl0 : 0 < s.post.length → kOf b s.post.length < s.post.length := fun h0 => kOf_lt b h0
  generalize kOf b s.post.length = k at *
  obtain ⟨Ap, cp, hvp, _⟩ := h.po.sl
  subst hvp
  have c0 := h.blk.cell
  have l0 := h.blk.lt
  have hbA : Below w.heap.size w (w.alloc (.cells #[.int .i64 (6), .int .i64 a, .int .i64 b, .slice Am m cm] 80)) := Below.alloc (Below.refl _ _) (Nat.le_refl _) _
  have hP := Blk.new w 80 #[.int .i64 (6), .int .i64 a, .int .i64 b, .slice Am m cm]
  have hX0 := h.below hbA
  go_enter Try.func34, Try.ntmps34
  go_upto_if 32 with fail
  rw [hna]
  go_cut [6] (fun v6 wx => v6 = .int .i64 (k : Int) ∧ Below w.heap.size w wx ∧ Blk wx w.heap.size 80 #[.int .i64 (6), .int .i64 a, .int .i64 b, .slice Am m cm])
  case first =>
    rcases Nat.eq_zero_or_pos s.post.length with h0 | h0
    · have d0 : decide ((0 : Int) < s.post.length) = false := decide_eq_false (by omega)
      have d0' : decide (0 < s.post.length) = false := decide_eq_false (by omega)
      have hk00 := hk0 h0
      subst hk00
      rw [d0']
      clear h0
      go_wp2
      go_meet
      case rel => exact ⟨rfl, hbA, hP⟩
    · have d0 : decide ((0 : Int) < s.post.length) = true := decide_eq_true (by omega)
      have d0' : decide (0 < s.post.length) = true := decide_eq_true h0
      have hwl : IntKind.u64.wrap (s.post.length : Int) = (s.post.length : Int) := by rw [IntKind.wrap_u64]; omega
      have hz2 : ¬s.post = [] := fun e => by rw [e] at h0; cases h0
      have hkb := hke h0
      have hkb' : IntKind.i64.wrap ((IntKind.u64.wrap b).tmod (s.post.length : Int)) = (k : Int) := (IntWalk.i64_left _).trans hkb
      rw [d0']
      clear h0
      go_wp2
      refine wp_region_ext_lit (by kernel_rfl) (by kernel_rfl) ?_
      (repeat (first | ((with_reducible refine wpQuiet_step (fun K hK => ?_)); go_simp; first | ((with_reducible refine hK _ ?_); clear hK K) | (apply Exists.intro; (with_reducible refine ⟨fun _ => ?_, hK _ ?_⟩); skip; clear hK K)) | ((with_reducible refine quiet_skipN ?_ (fun K hK => ?_)); (rfl); go_simp; (with_reducible refine hK _ ?_); clear hK K)))
      (with_reducible refine wpQuiet_nil ?_); intro _ hw'; obtain ⟨Y, hw''⟩ := hw'; subst hw''
      go_wp2
      go_meet
      case rel => exact ⟨rfl, by (repeat' (first | with_reducible exact Below.refl _ _ | with_reducible refine Below.ext ?_ ?_ _ | with_reducible refine Below.alloc ?_ ?_ _ | with_reducible refine Below.setCell ?_ ?_ _ | with_reducible refine Below.drew ?_ | with_reducible assumption | (simp [World.size_ext]; done) | (simp [World.size_ext]; omega))), hP.ext Y⟩
  case rest =>
  clear hX0 hbA hP c0 l0
  obtain ⟨rfl, hbW, hP⟩ := hcut
  have hX := h.below hbW
  have hgW := Goes.below (o := o) hbW
  have cP := hP.cell
  have lP := hP.lt
  have cX := hX.blk.cell
  have lX := hX.blk.lt
  obtain ⟨ks, hkb1, hkb2⟩ := hX.kb
  have hkn := hkb2 n hnl
  have hnI : (n : Int) < 4 := by omega
  have hT : OwnR wc (fun k => wc.heap.size ≤ k) 0 (vk n) (s.kept n) := (hX.kp n hnl).sub (fun k hk hge => by omega)
  obtain ⟨Ak, ck, hvk, hRk⟩ := hT.recs' (fun k hk => by have := (hT.lt k hk).2; omega)
  have ckb := hkb1.cell
  have lkb := hkb1.lt
  have mkb : wc.cell? ⟨bk, n, none⟩ = some (.slice Ak (s.kept n).length ck) := by rw [ckb, hkn, hvk]
  have hLd := load_far (n : Int) Ak (s.kept n).length ck (s.kept n) wc (by omega) hRk (fun k hk => hk) (by have := hkl n hnl; omega) (fun b hb => by have := hkb b hb; omega)
  rw [hρ] at hLd
  go_upto_region 40 with (go_at_call 30; (with_reducible refine hLd.mono ?_); rintro e w3 ⟨hb3, hld3⟩; obtain ⟨q, rfl, hRl⟩ := loadedF_some hld3)
  obtain ⟨o4, he4, hr4⟩ := hX.anew (n := n) hb3 hRl
  have hX4 := hX.reload hnl he4 hr4
  have hB4 := he4.blk hX.blk (u := 0) (by omega) hX.og
  obtain ⟨cs, hrb, hrc⟩ := hX.rb
  have hR4 := he4.blk hrb (u := 1) (by omega) hX.obr
  have c4 := hB4.cell
  have l4 := hB4.lt
  have cr4 := hR4.cell
  have fr4 := hR4.frozen
  have lr4 := hR4.lt
  have mr4 : w3.cell? ⟨br, n, none⟩ = some (.pointer (some ⟨gr n, 0, none⟩)) := by rw [cr4, hrc n hnl]
  go_wp2
  go_ret
  exact does_mk hX4 (hgW.trans (he4.goes.trans (Oe.goes (Oe.only he4.lt (he4.opt hX.lt hX.obr) (Only.set_ (Only.refl _ _) (.inl rfl) _)))))
end Go.Proofs.Ytjhcgnmibnjocaa

/-! Nodes: any step. -/
namespace Go.Proofs.Ytjhcgnmibnjocaa
open Go.RowKit Go.Maps
set_option linter.unusedVariables false
set_option linter.unusedSimpArgs false
structure Sz (s : Nd) (i : Nat) : Prop where
  p : s.post.length ≤ 300 + 4 * (i + 1)
  k : ∀ n, n < 4 → (s.kept n).length ≤ 2 * i
  n : s.n ≤ i
/-- What holds behind a step. -/
structure Nx (G : Gh) (s s' : Nd) (i : Nat) : Prop where
  ex : ∃ G', Inv G' s' ∧ ∀ L, G.cs s.c.e L → G'.cs s'.c.e L
  sz : Sz s' (i + 1)
theorem Nx.mk' {G G' : Gh} {s s' : Nd} {i : Nat} (h : Inv G' s') (hu : Up G s.c.e G') (hc : s.c.e ≤ s'.c.e) (hs : Sz s' (i + 1)) : Nx G s s' i := ⟨⟨G', h, fun L hL => (hL.up hu (Int.le_refl _)).mono hc⟩, hs⟩
theorem Sz.next {s : Nd} {i : Nat} (h : Sz s i) : Sz s (i + 1) := ⟨by have := h.p; omega, fun n hn => by have := h.k n hn; omega, by have := h.n; omega⟩
theorem Sz.out {s : Nd} {i n : Nat} {r : Rl} {recs : List (List Nat)} {l : List Ot} (h1 : s.post.length ≤ 300 + 4 * (i + 1)) (h2 : ∀ n, n < 4 → (s.kept n).length ≤ 2 * i) (h3 : s.n ≤ i + 1) (hr : recs.length ≤ 2) : Sz (outN s n r recs l) (i + 1) := by
  refine ⟨?_, fun m hm => ?_, h3⟩
  · show (posts n s.post l).length ≤ _
    have := posts_le n l s.post
    omega
  · show (upd s.kept n (s.kept n ++ recs) m).length ≤ _
    by_cases e : m = n
    · subst e
      rw [upd_same, List.length_append]
      have := h2 m hm
      omega
    · rw [upd_other _ _ e]
      have := h2 m hm
      omega
theorem Inv.erase {G : Gh} {s : Nd} (h : Inv G s) (k : Nat) : Inv G { s with post := s.post.eraseIdx k } := h.posted fun q hq => h.lt q (List.mem_of_mem_eraseIdx hq)
theorem Inv.again {G : Gh} {s : Nd} (h : Inv G s) {p : Lt} (hp : p ∈ s.post) : Inv G { s with post := s.post ++ [p] } := h.posted fun q hq => by
  rcases List.mem_append.1 hq with hq | hq
  · exact h.lt q hq
  · rw [List.mem_singleton] at hq; rw [hq]; exact h.lt p hp
/-- A step, in memory and in words. -/
def Steps (o : Nat → Option Nat) (g : Nat) (G : Gh) (s : Nd) (i : Nat) (w : World) (e : Ending) (w' : World) : Prop := e = .returned (.bool true) ∧ ∃ o' s', NdW w' o' g s' ∧ Goes o o' w w' ∧ Nx G s s' i
theorem Does.steps {o : Nat → Option Nat} {g : Nat} {G : Gh} {s s' : Nd} {i : Nat} {w w' : World} {e : Ending} (h : Does o g s' w e w') (hn : Nx G s s' i) : Steps o g G s i w e w' := by
  obtain ⟨rfl, o', hN, hg⟩ := h
  exact ⟨rfl, o', s', hN, hg, hn⟩
theorem pair_ok {q n : Nat} (hq : q < 256) (hn : n < 256) : ∀ e, I64 e → (⟨e, [q, n]⟩ : Ent).ok := fun e he => ⟨he, by simp, fun y hy => by
  simp only [List.mem_cons, List.not_mem_nil, or_false] at hy
  rcases hy with rfl | rfl <;> assumption⟩
theorem LOk.few {G : Gh} {c : Int} {R : Nat → Rl} {p : Lt} (h : LOk G c R p) (hG : GOk G c R) : p.m.v.l.length ≤ 8 ∧ (p.f < 0 → p.v.l.length ≤ 8) := by
  refine ⟨h.o.2, fun hf => ?_⟩
  rcases h.c with ⟨_, h1, h2, h3⟩ | ⟨f, _, h2, _⟩
  · rw [h3]
    exact rising_len (right_bd (hG.ve _ h1 h2).2.1).2.2.1
  · omega
theorem does_any {o : Nat → Option Nat} {g : Nat} {s : Nd} {G : Gh} {i : Nat} (w : World) (hN : NdW w o g s) (hI : Inv G s) (hz : Sz s i) (hi : i ≤ 150) (kd a b : Int) (Am : Option Addr) (m cm : Nat) (ms : List Int)
    (hms : Reads w w.heap.size 1 Am m (ints ms) ∧ (0 < m → ∀ a, Am = some a → ¬OT o a.block) ∧ m * 8 ≤ 140737488355328) :
    Calls Try.prog 34 #[.pointer (some ⟨g, 0, none⟩), .agg #[.int .i64 (kd), .int .i64 a, .int .i64 b, .slice Am m cm]] w (Steps o g G s i w) := by
  obtain ⟨br, bk, gc, bm, bs, cr, gr, vp, vk, h⟩ := hN
  have hp1 : s.post.length ≤ 1000 := by have := hz.p; omega
  have hk1 : ∀ n, n < 4 → (s.kept n).length ≤ 1000 := fun n hn => by have := hz.k n hn; omega
  have hn1 : s.n ≤ 1000 := by have := hz.n; omega
  have hna := nOf_lt a
  have hrs := fun n hn => (h.rel n hn).1
  by_cases k0 : kd = 0
  · subst k0
    obtain ⟨G', hI', hu⟩ := hI.propose hna [(s.n + 1) % 256, nOf a] (pair_ok (Nat.mod_lt _ (by omega)) (by omega)) (by simp) (hrs _ hna)
    refine (does_zero w h a b Am m cm hp1 hk1 hn1).mono fun e w' hD => hD.steps (Nx.mk' hI' hu (Int.le_refl _) (Sz.out hz.p hz.k (Nat.succ_le_succ hz.n) ?_))
    unfold proposeP
    repeat' split
    all_goals simp
  by_cases k1 : kd = 1
  · subst k1
    exact (does_one w h a b Am m cm hp1 hk1 hn1).mono fun e w' hD => hD.steps (Nx.mk' (hI.tick hna (hrs _ hna)) (Up.refl _ _) (Int.le_refl _) (Sz.out hz.p hz.k (by have := hz.n; omega) (by simp)))
  by_cases k2 : kd = 2
  · subst k2
    rcases Nat.eq_zero_or_pos s.post.length with h0 | h0
    · exact (does_two_none w h a b Am m cm hp1 hk1 hn1 (List.eq_nil_of_length_eq_zero h0)).mono fun e w' hD => hD.steps (Nx.mk' hI (Up.refl _ _) (Int.le_refl _) hz.next)
    · obtain ⟨p, hp⟩ : ∃ p, s.post[kOf b s.post.length]? = some p := ⟨_, List.getElem?_eq_getElem (kOf_lt b h0)⟩
      have hL := hI.lt p (List.mem_of_getElem? hp)
      have hfw := hL.few hI.ok
      obtain ⟨G', hI', hu⟩ := (hI.erase (kOf b s.post.length)).arrive hL (by show s.n ≤ 1000; exact hn1) (hrs _ hL.t)
      have hle := List.length_eraseIdx_le s.post (kOf b s.post.length)
      unfold arrive at hI'
      by_cases hf : p.f < 0
      · rw [if_pos hf] at hI'
        refine (does_two_lead w h a b Am m cm hp1 hk1 hn1 p hp hL.t hf (by have := hfw.2 hf; omega)).mono fun e w' hD => hD.steps (Nx.mk' hI' hu (Int.le_refl _) (Sz.out (by show (s.post.eraseIdx _).length ≤ _; have := hz.p; omega) hz.k (by show s.n ≤ _; have := hz.n; omega) ?_))
        unfold leadP
        repeat' split
        all_goals simp
      · rw [if_neg hf] at hI'
        exact (does_two_take w h a b Am m cm hp1 hk1 hn1 p hp hL.t (by omega) (by have := hfw.1; omega)).mono fun e w' hD => hD.steps (Nx.mk' hI' hu (Int.le_refl _) (Sz.out (by show (s.post.eraseIdx _).length ≤ _; have := hz.p; omega) hz.k (by show s.n ≤ _; have := hz.n; omega) (take_recs_len _ _ _)))
  by_cases k3 : kd = 3
  · subst k3
    rcases Nat.eq_zero_or_pos s.post.length with h0 | h0
    · exact (does_three_none w h a b Am m cm hp1 hk1 hn1 (List.eq_nil_of_length_eq_zero h0)).mono fun e w' hD => hD.steps (Nx.mk' hI (Up.refl _ _) (Int.le_refl _) hz.next)
    · rcases Nat.lt_or_ge s.post.length 300 with h3 | h3
      · obtain ⟨p, hp⟩ : ∃ p, s.post[kOf b s.post.length]? = some p := ⟨_, List.getElem?_eq_getElem (kOf_lt b h0)⟩
        exact (does_three w h a b Am m cm hp1 hk1 hn1 p hp h3).mono fun e w' hD => hD.steps (Nx.mk' (hI.again (List.mem_of_getElem? hp)) (Up.refl _ _) (Int.le_refl _) ⟨by show (s.post ++ [p]).length ≤ _; rw [List.length_append, List.length_singleton]; omega, hz.next.k, hz.next.n⟩)
      · exact (does_three_full w h a b Am m cm hp1 hk1 hn1 h3).mono fun e w' hD => hD.steps (Nx.mk' hI (Up.refl _ _) (Int.le_refl _) hz.next)
  by_cases k4 : kd = 4
  · subst k4
    rcases Nat.eq_zero_or_pos s.post.length with h0 | h0
    · exact (does_four_none w h a b Am m cm hp1 hk1 hn1 (List.eq_nil_of_length_eq_zero h0)).mono fun e w' hD => hD.steps (Nx.mk' hI (Up.refl _ _) (Int.le_refl _) hz.next)
    · have hle := List.length_eraseIdx_le s.post (kOf b s.post.length)
      exact (does_four w h a b Am m cm hp1 hk1 hn1 h0).mono fun e w' hD => hD.steps (Nx.mk' (hI.erase _) (Up.refl _ _) (Int.le_refl _) ⟨by show (s.post.eraseIdx _).length ≤ _; have := hz.p; omega, hz.next.k, hz.next.n⟩)
  by_cases k5 : kd = 5
  · subst k5
    by_cases hc : changeE s.c (nOf a : Int) ms = 0
    · refine (does_five_yes w h a b Am m cm hp1 hk1 hn1 ms hc hms).mono fun e w' hD => hD.steps ?_
      unfold fiveN
      split
      · rename_i hh
        obtain ⟨G', hI', hu⟩ := hI.change hna hh.1 hc h.ck
        refine Nx.mk' hI'.lead hu (by show s.c.e ≤ s.c.e + 1; omega) ⟨?_, hz.next.k, hz.next.n⟩
        show (s.post ++ (List.range 4).map _).length ≤ _
        rw [List.length_append, List.length_map, List.length_range]
        have := hz.p
        omega
      · exact Nx.mk' hI (Up.refl _ _) (Int.le_refl _) hz.next
    · refine (does_five_no w h a b Am m cm hp1 hk1 hn1 ms hc hms).mono fun e w' hD => hD.steps ?_
      rw [fiveN_no (fun h => hc h.2)]
      exact Nx.mk' hI (Up.refl _ _) (Int.le_refl _) hz.next
  by_cases k6 : kd = 6
  · subst k6
    obtain ⟨ρ, hρ, _⟩ := hI.kp _ hna
    exact (does_six w h a b Am m cm hp1 hk1 hn1 ρ hρ (hI.kl _ hna)).mono fun e w' hD => hD.steps (Nx.mk' (hI.load hna hρ) (Up.refl _ _) (Int.le_refl _) ⟨hz.next.p, hz.next.k, hz.next.n⟩)
  by_cases k7 : kd = 7
  · subst k7
    rcases hac : (s.rs (nOf a)).act with _ | _
    · exact (does_seven_no w h a b Am m cm hp1 hk1 hn1 hac).mono fun e w' hD => hD.steps (Nx.mk' hI (Up.refl _ _) (Int.le_refl _) hz.next)
    · obtain ⟨G', hI', hu, hce⟩ := hI.active hna hac
      exact (does_seven w h a b Am m cm hp1 hk1 hn1 hac).mono fun e w' hD => hD.steps (Nx.mk' hI' hu (by show s.c.e ≤ (activeK s.c (s.rs (nOf a)).v.e).e; omega) ⟨hz.next.p, hz.next.k, hz.next.n⟩)
  · exact (does_other w h kd a b (by omega) Am m cm hp1 hk1 hn1).mono fun e w' hD => hD.steps (Nx.mk' hI (Up.refl _ _) (Int.le_refl _) hz.next)
/-- How it begins. -/
def gh0 : Gh := ⟨fun _ => vw0.vi, fun _ => False, fun _ => [], fun _ => [], fun _ _ => 0, fun _ => 1, 1⟩
theorem inv0 : Inv gh0 nd0 := by
  have hc : nd0.c.e = 1 := rfl
  refine ⟨⟨by rw [hc]; omega, fun e h1 h2 => ?_, fun n hn => ?_, fun n hn hl => ?_, fun e h => h.elim, fun e _ => ⟨rfl, fun _ => rfl⟩, fun e n hn => Nat.le_refl _, fun e' e _ _ h => h.elim, fun e h1 h2 => ?_⟩, ⟨rfl, ⟨by decide, by decide⟩, fun x hx => ?_⟩, fun p hp => (by cases hp), fun n hn => ⟨newP n, rfl, rfl, rfl, rfl, rfl⟩, fun e => ⟨Nat.zero_le _, fun x hx => (by cases hx)⟩, fun n hn b hb => (by cases hb)⟩
  · rw [hc] at h2
    have : e = 1 := by omega
    subst this
    exact ⟨rfl, by decide, by decide⟩
  · exact ⟨rfl, .inl rfl, ⟨Int.le_refl _, Int.le_refl _⟩, fun _ => rfl, fun h => absurd (show (1 : Int) ≤ 0 from h) (by decide), fun e he => rfl, fun h => absurd h (by simp [Rl.leads, nd0, newP, Vi.none]), fun h => (by cases h), Nat.le_refl _, .inl rfl⟩
  · exact absurd hl (by simp [Rl.leads, nd0, newP, Vi.none])
  · rw [hc] at h2; omega
  · have hx' : x ∈ [(0 : Int), 1, 2] := hx
    simp only [List.mem_cons, List.not_mem_nil, or_false] at hx'
    have key : ∀ n : Nat, n < 3 → ∃ m : Nat, m < 4 ∧ (n : Int) = (m : Int) ∧ (∀ e, (1 : Int) ≤ e → e ≤ 1 → (m : Int) ∈ vw0.vi.l) ∧ ((1 : Int) = 1 ∨ (1 : Int) ≤ (nd0.rs m).joined) := fun n hn => ⟨n, by omega, rfl, fun e _ _ => by
      have : n = 0 ∨ n = 1 ∨ n = 2 := by omega
      rcases this with rfl | rfl | rfl <;> decide, .inl rfl⟩
    rcases hx' with rfl | rfl | rfl
    · exact key 0 (by omega)
    · exact key 1 (by omega)
    · exact key 2 (by omega)
theorem sz0 : Sz (leadN nd0) 0 := ⟨by decide, fun n hn => Nat.le_refl _, Nat.le_refl _⟩
end Go.Proofs.Ytjhcgnmibnjocaa

/-! Laws of nodes: does one log begin another one? -/
namespace Go.Proofs.Ytjhcgnmibnjocaa
open Go.RowKit Go.Maps
set_option linter.unusedVariables false
set_option linter.unusedSimpArgs false
theorem Ents.take {w : World} {T : Nat → Prop} {A : Option Addr} {n k : Nat} {l : List Ent} (h : Ents w T A n l) (hk : k ≤ n) : Ents w T A k (l.take k) := by
  obtain ⟨⟨ms, rfl, hr, hm⟩, hl, hn⟩ := h
  have hml : ms.length = n := by rw [List.length_map] at hl; exact hl
  refine ⟨⟨ms.take k, List.map_take, ⟨?_, fun h0 => ?_⟩, fun y hy => hm y (List.mem_of_mem_take hy)⟩, ?_, fun h0 => hn (by omega)⟩
  · rw [emV_length, List.length_take]; omega
  · obtain ⟨ad, ha, hlt, hc⟩ := hr.2 (by omega)
    refine ⟨ad, ha, hlt, fun j u hu => hc j u ?_⟩
    have e : emV ms = emV (ms.take k) ++ emV (ms.drop k) := by rw [← emV_append, List.take_append_drop]
    rw [e, List.getElem?_append_left (List.getElem?_eq_some_iff.1 hu).1]
    exact hu
  · rw [List.length_take, hl]; omega
theorem Ents.low {w w' : World} {T : Nat → Prop} {A : Option Addr} {n : Nat} {l : List Ent} (h : Ents w T A n l) (hb : Below w.heap.size w w') : Ents w' T A n l := h.kp (Kp.of_below hb)
set_option maxRecDepth 100000 in
set_option maxHeartbeats 4000000 in
theorem back2_any {T : Nat → Prop} (A : Option Addr) (n c : Nat) (l : List Ent) (w : World) (h : Ents w T A n l) (hTl : ∀ k, T k → k < w.heap.size) (hn : n ≤ 1000000) :
    Calls Try.prog 35 #[.slice A n c] w fun e w' => ∃ A1 c1, e = .returned (.slice A1 n c1) ∧ n ≤ c1 ∧ Ents w' T A1 n l ∧ Below w.heap.size w w' := by
  have hln := h.len
  go_enter Try.func35, Try.ntmps35
  go_wp2
  go_loopw [3, 8] (fun vo vi wr => ∃ j : Nat, j ≤ n ∧ vi = .int .i64 (j : Int) ∧ OwnD wr (fun k => T k ∨ vo.ownBlock = some k) w.heap.size vo (l.take j) ∧ Below w.heap.size w wr) (fun _ vi _ => ((n : Int) - intOf vi).toNat)
  case atStart => exact ⟨0, by omega, rfl, OwnD.nil _ _ _, Below.refl _ _⟩
  case round =>
    obtain ⟨j, hj, rfl, hO, hb⟩ := hrel
    obtain ⟨wo, rfl⟩ : ∃ wo : World, wo = wr := ⟨_, rfl⟩
    have hso := hb.size
    obtain ⟨vA, vc, hv⟩ := hO.sl
    rw [show (l.take j).length = j by rw [List.length_take]; omega] at hv
    subst hv
    by_cases hlt : j < n
    · have hlj : (j : Int) < n := by omega
      have hE : Ents wo (fun k => T k ∨ w.heap.size ≤ k) A n l := (h.sub (T' := fun k => T k ∨ w.heap.size ≤ k) (fun k hk ht => ht.elim id (fun h => by omega))).kp (Kp.of_below hb)
      obtain ⟨b, o, A2, c2, x, rfl, hbl, hg, hxo, m1, m2, hB⟩ := hE.at_ hlt
      have htk : l.take (j + 1) = l.take j ++ [x] := by rw [List.take_add_one, hg]; rfl
      have hge := ownD_ge hO
      have hbA : Below wo.heap.size wo (wo.alloc (.cells #[.int .i64 x.e, .slice A2 x.t.length c2] 103)) := Below.alloc (Below.refl _ _) (Nat.le_refl _) _
      have hO2 := hO.below hbA
      have hBT := (hB.kp (Kp.of_below hbA)).sub (T' := fun k => T k ∨ (Value.slice vA j vc).ownBlock = some k) (fun k _ hk => hk.imp id (fun e => (hge k e).1))
      have HO := hide htk
      clear htk hg hE
      go_wp2_with (at_builtin; refine app_entD rfl (.tmp 12) (.tmp 18) rfl (fun k => T k ∨ (Value.slice vA j vc).ownBlock = some k) w.heap.size (.slice vA j vc) (l.take j) ⟨x, .slice A2 x.t.length c2⟩ _ rfl rfl hO2 ⟨hBT, hxo⟩ (fun k hk => .inr hk) (wo.heap.size + 1) (by simp) rfl (by rw [List.length_take]; omega) (by simp; omega) (fun v' w4 ho4 hc4 hs4 => ?_))
      go_roundw
      case rel =>
        refine ⟨j + 1, by omega, by go_num, ?_, ?_⟩
        · rw [HO.out]
          exact ho4.sub fun k _ hk => hk.elim (fun h => .inl (.inl h)) .inr
        · exact (hb.alloc hso _).trans (hc4.low (fun k hk => (hge k hk).1) (by simp; omega))
      case measure => simp [intOf]; omega
    · obtain rfl : j = n := by omega
      rw [List.take_of_length_le (by omega)] at hO
      have hcap : j ≤ vc := by
        obtain ⟨ms, _, ho, _⟩ := hO
        obtain ⟨A', c', e, hc⟩ := own_sl ho
        cases e
        omega
      go_wp2
      go_ret
      exact ⟨vA, vc, rfl, hcap, hO.ents hln hTl (fun k hk => .inl hk), hb⟩
set_option maxRecDepth 100000 in
set_option maxHeartbeats 4000000 in
theorem begins_any {T T' : Nat → Prop} (A A' : Option Addr) (n n' c c' : Nat) (l l' : List Ent) (w : World) (h : Ents w T A n l) (h' : Ents w T' A' n' l') (hn : n ≤ 1000000) (hn' : n' ≤ 1000000) (hc : n' ≤ c') :
    Calls Try.prog 36 #[.slice A n c, .slice A' n' c'] w fun e w' => (∃ b, e = .returned (.bool b) ∧ (b = true ↔ l <+: l')) ∧ Below w.heap.size w w' := by
  have hln := h.len
  have hln' := h'.len
  by_cases hle : n ≤ n'
  · have d0 : decide ((n : Int) ≤ (n' : Int)) = true := decide_eq_true (by omega)
    have d0' : decide (n ≤ n') = true := decide_eq_true hle
    have hcn : (n : Int) ≤ (c' : Int) := by omega
    have hpre : decide (l = l'.take n) = true ↔ l <+: l' := by
      rw [decide_eq_true_iff, List.prefix_iff_eq_take, hln]
    rcases A' with _ | ⟨b, o, p⟩
    · have hS := dsamelog_any A none n n c c' l (l'.take n) w h (h'.take hle) hn
      go_enter Try.func36, Try.ntmps36
      go_wp2_with (go_at_call 73; (with_reducible refine hS.mono ?_); rintro e w1 ⟨rfl, hb1⟩)
      go_ret
      exact ⟨⟨_, rfl, hpre⟩, hb1⟩
    · have hS := dsamelog_any A (some ⟨b, o, p⟩) n n c c' l (l'.take n) w h (h'.take hle) hn
      go_enter Try.func36, Try.ntmps36
      go_wp2_with (go_at_call 73; (with_reducible refine hS.mono ?_); rintro e w1 ⟨rfl, hb1⟩)
      go_ret
      exact ⟨⟨_, rfl, hpre⟩, hb1⟩
  · have d0 : decide ((n : Int) ≤ (n' : Int)) = false := decide_eq_false (by omega)
    have d0' : decide (n ≤ n') = false := decide_eq_false hle
    go_enter Try.func36, Try.ntmps36
    go_wp2
    go_ret
    exact ⟨⟨false, rfl, (fun h => by cases h), fun h => absurd h.length_le (by omega)⟩, Below.refl _ _⟩
end Go.Proofs.Ytjhcgnmibnjocaa

/-! Laws of nodes: what is sure is one list. -/
namespace Go.Proofs.Ytjhcgnmibnjocaa
open Go.RowKit Go.Maps
set_option linter.unusedVariables false
set_option linter.unusedSimpArgs false
/-- An act, as it was handed in. -/
structure RAct where
  kd : Int
  a : Int
  b : Int
  A : Option Addr
  c : Nat
  ms : List Int
instance : Inhabited RAct := ⟨⟨0, 0, 0, none, 0, []⟩⟩
def RAct.cells (x : RAct) : List Value := [.int .i64 x.kd, .int .i64 x.a, .int .i64 x.b, .slice x.A x.ms.length x.c]
theorem RAct.len (x : RAct) : x.cells.length = 4 := rfl
structure RAct.ok (w : World) (x : RAct) : Prop where
  r : Reads w w.heap.size 1 x.A x.ms.length (ints x.ms)
  n : x.ms.length * 8 ≤ 140737488355328
/-- The longest sure list. -/
structure SuL (w : World) (T : Nat → Prop) (v : Value) (S : List Ent) : Prop where
  ex : ∃ A c, v = .slice A S.length c ∧ S.length ≤ c ∧ Ents w T A S.length S
  n : S.length ≤ 1000000
theorem SuL.nil (w : World) (T : Nat → Prop) : SuL w T (.slice none 0 0) [] := ⟨⟨none, 0, rfl, Nat.le_refl _, Ents.nil _ _⟩, by simp⟩
theorem SuL.goes {o o' : Nat → Option Nat} {w w' : World} {v : Value} {S : List Ent} (h : SuL w (OT o) v S) (hg : Goes o o' w w') (hlt : ∀ k, OT o k → k < w.heap.size) : SuL w' (OT o') v S := by
  obtain ⟨⟨A, c, e, h1, h2⟩, hn⟩ := h
  exact ⟨⟨A, c, e, h1, (h2.sub hg.T).kp (hg.kp.weaken (hg.R hlt))⟩, hn⟩
theorem SuL.low {T : Nat → Prop} {w w' : World} {v : Value} {S : List Ent} (h : SuL w T v S) (hb : Below w.heap.size w w') : SuL w' T v S := by
  obtain ⟨⟨A, c, e, h1, h2⟩, hn⟩ := h
  exact ⟨⟨A, c, e, h1, h2.low hb⟩, hn⟩
theorem Gh.cs_len {G : Gh} {c : Int} {s : Nd} {L : List Ent} (h : Inv G s) (hL : G.cs c L) : L.length ≤ s.n := by
  rcases hL with rfl | ⟨e, k, _, _, _, _, _, hp⟩
  · exact Nat.zero_le _
  · have := hp.length_le
    have h2 := (h.sm e).1
    rw [List.length_take] at this
    omega
theorem begins_yes {T T' : Nat → Prop} (A A' : Option Addr) (n n' c c' : Nat) (l l' : List Ent) (w : World) (h : Ents w T A n l) (h' : Ents w T' A' n' l') (hn : n ≤ 1000000) (hn' : n' ≤ 1000000) (hc : n' ≤ c') (hp : l <+: l') :
    Calls Try.prog 36 #[.slice A n c, .slice A' n' c'] w fun e w' => e = .returned (.bool true) ∧ Below w.heap.size w w' :=
  (begins_any A A' n n' c c' l l' w h h' hn hn' hc).mono fun e w' ⟨⟨b, e1, e2⟩, hb⟩ => ⟨by rw [e1, e2.2 hp], hb⟩
theorem begins_no {T T' : Nat → Prop} (A A' : Option Addr) (n n' c c' : Nat) (l l' : List Ent) (w : World) (h : Ents w T A n l) (h' : Ents w T' A' n' l') (hn : n ≤ 1000000) (hn' : n' ≤ 1000000) (hc : n' ≤ c') (hp : ¬l <+: l') :
    Calls Try.prog 36 #[.slice A n c, .slice A' n' c'] w fun e w' => e = .returned (.bool false) ∧ Below w.heap.size w w' :=
  (begins_any A A' n n' c c' l l' w h h' hn hn' hc).mono fun e w' ⟨⟨b, e1, e2⟩, hb⟩ => ⟨by rw [e1]; cases b with
    | false => rfl
    | true => exact absurd (e2.1 rfl) hp, hb⟩
end Go.Proofs.Ytjhcgnmibnjocaa

/-! Laws of nodes: acts that were handed in; RelayAgrees. -/
namespace Go.Proofs.Ytjhcgnmibnjocaa
open Go.RowKit Go.Maps
set_option linter.unusedVariables false
set_option linter.unusedSimpArgs false
section
open Go.ChangeShapes Go.WideShapes Go.ChangeAt
variable {H : Type} {enc : TypeId × Value → H} {w : World} {base : Nat} {held : Bool}
set_option maxRecDepth 100000 in
theorem ract_open (cs : List Value) (y : DataW H × List MemPlace) (n : Nat) (h : DataW.trod enc Try.prog w base (fun _ => true) held n 80 cs = some y) (hw : ∀ z ∈ y.1.weights Try.prog 80, z ≤ reachBytes) :
    ∃ q : RAct, cs = q.cells ∧ q.ok w := by
  obtain ⟨xs, n, rfl, rfl, hl, hxl, hf⟩ := DataW.trod_struct Try.underlying80 h
  rw [show Try.prog.cellsOf 80 = 4 by kernel_rfl] at hl
  obtain ⟨v0, v1, v2, v3, rfl⟩ := list4 hl
  obtain ⟨y0, y1, y2, y3, rfl⟩ := list4 hxl
  have q1 : Try.prog.cellsOf 3 = 1 := by kernel_rfl
  have q2 : Try.prog.cellsOf 29 = 1 := by kernel_rfl
  have g0 := hf 0 _ rfl
  have g1 := hf 1 _ rfl
  have g2 := hf 2 _ rfl
  have g3 := hf 3 _ rfl
  simp [q1] at g0 g1 g2
  simp [q2] at g3
  obtain ⟨a0, e0, rfl, w0⟩ := DataW.trod_int Try.underlying3 g0
  obtain ⟨a1, e1, rfl, w1⟩ := DataW.trod_int Try.underlying3 g1
  obtain ⟨a2, e2, rfl, w2⟩ := DataW.trod_int Try.underlying3 g2
  obtain ⟨A, m, c, l, e3, _, _, hr, hl64, hb⟩ := ints_trod g3
  simp at e0 e1 e2 e3
  subst e0 e1 e2 e3
  have hb2 := ints_weight (d := y3.1) (fun z hz => hw z (by
    simp only [DataW.weights, Try.underlying80, List.map_cons, List.map_nil, DataW.weightsEach, List.nil_append]
    simp only [List.mem_append]
    exact .inl hz)) hb
  have hn := reads_len hr
  subst hn
  exact ⟨⟨a0, a1, a2, A, c, l⟩, rfl, hr, by show l.length * 8 ≤ _; omega⟩
set_option maxRecDepth 100000 in
theorem racts_open {W : World} {base : Nat} {d : DataW H} {p : List MemPlace} {v : Value} (hv : Value.okWide Try.prog W .any base 76 v) (h : DataW.Trod enc Try.prog W 0 (fun _ => true) true 76 v d p) (hw : ∀ z ∈ d.weights Try.prog 76, z ≤ reachBytes) :
    ∃ A n c l, v = .slice A n c ∧ n ≤ c ∧ c ≤ maxLen ∧ Reads W W.heap.size 4 A n (rowsV RAct.cells l) ∧ l.length = n ∧ ∀ x ∈ l, x.ok W := by
  obtain ⟨A, n, c, rfl⟩ := okWide_slice Try.underlying76 hv
  obtain ⟨fuel, hf⟩ := h
  obtain ⟨A', n', c', l, hcs, h1, h2, _, h3, h4, h5, _⟩ := slice_trod (f := RAct.cells) (k := 4) (ok := fun q => q.ok W) (by omega) RAct.len Try.underlying76 (by kernel_rfl) ract_open hf hw
  simp [Value.cells] at hcs
  obtain ⟨rfl, rfl, rfl⟩ := hcs
  exact ⟨_, _, _, l, rfl, h1, h2, h3, h5, h4⟩
end
end Go.Proofs.Ytjhcgnmibnjocaa
