import Derived.Test.YtjhcgnmibnjocaaGI
import Derived.Test.YtjhcgnmibnjocaaY25
/-! Several texts in one. -/
/-! Nodes: a step: a command is proposed. -/
namespace Go.Proofs.Ytjhcgnmibnjocaa
open Go.RowKit Go.Maps
set_option linter.unusedVariables false
set_option linter.unusedSimpArgs false
attribute [local irreducible] First.wpF
def nOf (a : Int) : Nat := ((IntKind.u64.wrap a).tmod 4).toNat
theorem nOf_lt (a : Int) : nOf a < 4 := by
  have h1 : IntKind.u64.wrap a = a % 18446744073709551616 := rfl
  unfold nOf
  rw [Int.tmod_eq_emod_of_nonneg (by rw [h1]; omega)]
  omega
theorem nOf_eq (a : Int) : wrap64 ((IntKind.u64.wrap a).tmod 4) = (nOf a : Int) := by
  have h1 : IntKind.u64.wrap a = a % 18446744073709551616 := rfl
  unfold nOf
  rw [Int.tmod_eq_emod_of_nonneg (by rw [h1]; omega)]
  unfold wrap64
  omega
def kOf (b : Int) (l : Nat) : Nat := if l = 0 then 0 else ((IntKind.u64.wrap b).tmod (l : Int)).toNat
theorem kOf_lt (b : Int) {l : Nat} (hl : 0 < l) : kOf b l < l := by
  have h1 : IntKind.u64.wrap b = b % 18446744073709551616 := rfl
  unfold kOf
  rw [if_neg (by omega), Int.tmod_eq_emod_of_nonneg (by rw [h1]; omega)]
  have h2 := Int.emod_lt_of_pos (IntKind.u64.wrap b) (show (0 : Int) < l by omega)
  have h3 := Int.emod_nonneg (IntKind.u64.wrap b) (show (l : Int) ≠ 0 by omega)
  omega
theorem kOf_eq (b : Int) {l : Nat} (hl : 0 < l) (hl2 : l ≤ 1000000) : wrap64 ((IntKind.u64.wrap b).tmod (l : Int)) = (kOf b l : Int) := by
  have h1 : IntKind.u64.wrap b = b % 18446744073709551616 := rfl
  unfold kOf
  rw [if_neg (by omega), Int.tmod_eq_emod_of_nonneg (by rw [h1]; omega)]
  have h2 := Int.emod_lt_of_pos (IntKind.u64.wrap b) (show (0 : Int) < l by omega)
  have h3 := Int.emod_nonneg (IntKind.u64.wrap b) (show (l : Int) ≠ 0 by omega)
  unfold wrap64
  omega
section
variable {o : Nat → Option Nat} {w w' : World} {g br bk gc bm bs cr : Nat} {gr : Nat → Nat} {vp : Value} {vk : Nat → Value} {s : Nd}
/-- Behind a call of a relay's. -/
theorem NdX.took (h : NdX w o g s br bk gc bm bs cr gr vp vk) {n : Nat} {r' : Rl} {K : (Nat → Prop) → Prop} (hn : n < 4) (hA : Aft w w' (tg o (11 + n)) (OT o) (gr n) r' K) :
    ∃ o', NdX w' o' g { s with rs := upd s.rs n r' } br bk gc bm bs cr gr vp vk ∧ Goes o o' w w' ∧ Kp (tg o (11 + n)) w w' ∧ r'.ok ∧ ∃ T', K T' ∧ ∀ k, OT o' k → T' k := by
  obtain ⟨S', hW, hk, hs, hK⟩ := hA
  obtain ⟨o', ho1, ho2⟩ : ∃ o' : Nat → Option Nat, (∀ k, S' k → o' k = some (11 + n)) ∧ ∀ k, ¬S' k → o' k = o k := by
    refine ⟨fun k => @ite _ (S' k) (Classical.propDecidable _) (some (11 + n)) (o k), fun k hk => ?_, fun k hk => ?_⟩
    · simp only [if_pos hk]
    · simp only [if_neg hk]
  have hlt' : ∀ k, S' k → k < w'.heap.size := fun k hk => by
    obtain ⟨_, _, _, _, _, hX⟩ := hW
    exact hX.lt k (hX.sub k hk)
  have hT : ∀ k, OT o' k → OT o k ∨ S' k := fun k ht => by
    by_cases hs' : S' k
    · exact .inr hs'
    · refine .inl ?_
      unfold OT at *
      rw [ho2 k hs'] at ht
      exact ht
  have he : Oe o o' w w' (11 + n) := by
    refine ⟨hk, fun k hk' => ?_, fun k hk' => ?_, fun k ht => (hT k ht).elim (fun h' => Nat.lt_of_lt_of_le (h.lt k h') hk.size) (hlt' k)⟩
    · by_cases hs' : S' k
      · rcases hs k hs' with h' | h'
        · rw [ho1 k hs']; exact h'.symm
        · omega
      · exact ho2 k hs'
    · by_cases hs' : S' k
      · exact .inr (ho1 k hs')
      · rw [ho2 k hs']
        cases e : o k with
        | none => exact .inl rfl
        | some x => have := h.lt k (by unfold OT; rw [e]; rfl); omega
  have hr : RelW w' (tg o' (11 + n)) (OT o') (gr n) r' := hW.move (R := fun _ => False) (Kp.refl _ _) (fun _ h => h.elim) (fun _ h => h.elim) (fun _ _ h => h) (fun k _ ht => hT k ht) (fun k hk => ho1 k hk) (fun k hk => tg_OT hk) he.lt
  exact ⟨o', h.relay hn he hr, he.goes, hk, hr.1, _, hK, hT⟩
end
def Does (o : Nat → Option Nat) (g : Nat) (s' : Nd) (w : World) (e : Ending) (w' : World) : Prop := e = .returned (.bool true) ∧ ∃ o', NdW w' o' g s' ∧ Goes o o' w w'
theorem does_mk {o o' : Nat → Option Nat} {g br bk gc bm bs cr : Nat} {gr : Nat → Nat} {vp : Value} {vk : Nat → Value} {s' : Nd} {w w' : World} (h : NdX w' o' g s' br bk gc bm bs cr gr vp vk) (hg : Goes o o' w w') : Does o g s' w (.returned (.bool true)) w' := ⟨rfl, o', ⟨_, _, _, _, _, _, _, _, _, h⟩, hg⟩
set_option maxRecDepth 100000 in
set_option maxHeartbeats 4000000 in
theorem does_zero {o : Nat → Option Nat} {g br bk gc bm bs cr : Nat} {gr : Nat → Nat} {vp : Value} {vk : Nat → Value} {s : Nd} (w : World) (h : NdX w o g s br bk gc bm bs cr gr vp vk) (a b : Int) (Am : Option Addr) (m cm : Nat) (hpl : s.post.length ≤ 1000) (hkl : ∀ n, n < 4 → (s.kept n).length ≤ 1000) (hn1 : s.n ≤ 1000) :
    Calls Try.prog 34 #[.pointer (some ⟨g, 0, none⟩), .agg #[.int .i64 (0), .int .i64 a, .int .i64 b, .slice Am m cm]] w (Does o g (outN { s with n := s.n + 1 } (nOf a) (proposeP (s.rs (nOf a)) [(s.n + 1) % 256, nOf a]).r (proposeP (s.rs (nOf a)) [(s.n + 1) % 256, nOf a]).recs (proposeP (s.rs (nOf a)) [(s.n + 1) % 256, nOf a]).outs) w) := by
  have hna := nOf_eq a
  have hnl := nOf_lt a
  generalize nOf a = n at *
  have hke : 0 < s.post.length → wrap64 ((IntKind.u64.wrap b).tmod (s.post.length : Int)) = (kOf b s.post.length : Int) := fun h0 => kOf_eq b h0 (by omega)
  have hk0 : s.post.length = 0 → kOf b s.post.length = 0 := fun h0 => by rw [h0]; rfl
  have hkl0 : 0 < s.post.length → kOf b s.post.length < s.post.length := fun h0 => kOf_lt b h0
  generalize kOf b s.post.length = k at *
  obtain ⟨Ap, cp, hvp, _⟩ := h.po.sl
  subst hvp
  have c0 := h.blk.cell
  have l0 := h.blk.lt
  have hbA : Below w.heap.size w (w.alloc (.cells #[.int .i64 (0), .int .i64 a, .int .i64 b, .slice Am m cm] 80)) := Below.alloc (Below.refl _ _) (Nat.le_refl _) _
  have hP := Blk.new w 80 #[.int .i64 (0), .int .i64 a, .int .i64 b, .slice Am m cm]
  have hX0 := h.below hbA
  go_enter Try.func34, Try.ntmps34
  go_upto_if 32 with fail
  rw [hna]
  go_cut [6] (fun v6 wx => v6 = .int .i64 (k : Int) ∧ Below w.heap.size w wx ∧ Blk wx w.heap.size 80 #[.int .i64 (0), .int .i64 a, .int .i64 b, .slice Am m cm])
  case first =>
    rcases Nat.eq_zero_or_pos s.post.length with h0 | h0
    · have d0 : decide ((0 : Int) < s.post.length) = false := decide_eq_false (by omega)
      have d0' : decide (0 < s.post.length) = false := decide_eq_false (by omega)
      have hk00 := hk0 h0
      subst hk00
      rw [d0']
      clear h0
      go_wp2
      go_meet
      case rel => exact ⟨rfl, hbA, hP⟩
    · have d0 : decide ((0 : Int) < s.post.length) = true := decide_eq_true (by omega)
      have d0' : decide (0 < s.post.length) = true := decide_eq_true h0
      have hwl : IntKind.u64.wrap (s.post.length : Int) = (s.post.length : Int) := by rw [IntKind.wrap_u64]; omega
      have hz2 : ¬s.post = [] := fun e => by rw [e] at h0; cases h0
      have hkb := hke h0
      have hkb' : IntKind.i64.wrap ((IntKind.u64.wrap b).tmod (s.post.length : Int)) = (k : Int) := (IntWalk.i64_left _).trans hkb
      rw [d0']
      clear h0
      go_wp2
      refine wp_region_ext_lit (by kernel_rfl) (by kernel_rfl) ?_
      (repeat (first | ((with_reducible refine wpQuiet_step (fun K hK => ?_)); go_simp; first | ((with_reducible refine hK _ ?_); clear hK K) | (apply Exists.intro; (with_reducible refine ⟨fun _ => ?_, hK _ ?_⟩); skip; clear hK K)) | ((with_reducible refine quiet_skipN ?_ (fun K hK => ?_)); (rfl); go_simp; (with_reducible refine hK _ ?_); clear hK K)))
      (with_reducible refine wpQuiet_nil ?_); intro _ hw'; obtain ⟨Y, hw''⟩ := hw'; subst hw''
      go_wp2
      go_meet
      case rel => exact ⟨rfl, by (repeat' (first | with_reducible exact Below.refl _ _ | with_reducible refine Below.ext ?_ ?_ _ | with_reducible refine Below.alloc ?_ ?_ _ | with_reducible refine Below.setCell ?_ ?_ _ | with_reducible refine Below.drew ?_ | with_reducible assumption | (simp [World.size_ext]; done) | (simp [World.size_ext]; omega))), hP.ext Y⟩
  case rest =>
  clear hX0 hbA hP c0 l0
  obtain ⟨rfl, hbW, hP⟩ := hcut
  have hX := h.below hbW
  have hgW := Goes.below (o := o) hbW
  have cP := hP.cell
  have lP := hP.lt
  have cX := hX.blk.cell
  have lX := hX.blk.lt
  have fX := hX.blk.frozen
  have hwn : IntKind.i64.wrap ((s.n : Int) + 1) = (s.n : Int) + 1 := IntWalk.i64_in _ (by omega)
  have hXn : NdX (wc.setCell ⟨g, 4, none⟩ (.int .i64 ((s.n : Int) + 1))) o g { s with n := s.n + 1 } br bk gc bm bs cr gr (.slice Ap s.post.length cp) vk := by
    have := hX.count (s.n + 1)
    rwa [show ((s.n + 1 : Nat) : Int) = (s.n : Int) + 1 by omega] at this
  have hgn : Goes o o wc (wc.setCell ⟨g, 4, none⟩ (.int .i64 ((s.n : Int) + 1))) := Oe.goes (Oe.only hX.lt hX.og (Only.set_ (Only.refl _ _) (.inl rfl) _))
  go_upto_region 8 with fail
  refine abstr (fun W => NdX W o g { s with n := s.n + 1 } br bk gc bm bs cr gr (.slice Ap s.post.length cp) vk ∧ Goes o o w W) ⟨hXn, hgW.trans hgn⟩ (fun W hW => ?_)
  clear hXn hgn hX hgW cX lX fX cP lP hP hbW
  clear wc
  obtain ⟨hX, hgW⟩ := hW
  have hXb := hX.blk
  have lX := hXb.lt
  obtain ⟨cs, hrb, hrc⟩ := hX.rb
  have hcn := hrc n hnl
  have hng : ¬tg o (11 + n) g := fun e => by unfold tg at e; rw [hX.og] at e; injection e with e; omega
  have hnb : ¬tg o (11 + n) br := fun e => by unfold tg at e; rw [hX.obr] at e; injection e with e; omega
  have hnI : (n : Int) < 4 := by omega
  obtain ⟨q, hq⟩ : ∃ q, q = (s.n + 1) % 256 := ⟨_, rfl⟩
  rw [← hq]
  have hw1 : IntKind.u8.wrap ((s.n : Int) + 1) = (q : Int) := by
    have : IntKind.u8.wrap ((s.n : Int) + 1) = ((s.n : Int) + 1) % 256 := rfl
    omega
  have hw2 : IntKind.u8.wrap (n : Int) = (n : Int) := by
    have : IntKind.u8.wrap (n : Int) = (n : Int) % 256 := rfl
    omega
  have hq256 : q < 256 := by omega
  have HQ := hide hq
  clear hq
  refine wp_region_kp (tg o (11 + n)) [3, 6, 10, 11, 13] [0, 1, 2, 4, 5, 7, 8, 9, 12, 16, 17, 18, 19, 20] [(true, false, 0), (true, false, 1), (true, false, 2), (true, true, 3), (true, false, 4), (true, false, 5), (true, true, 6), (true, false, 7), (true, false, 8), (true, false, 9), (true, true, 10), (true, true, 11), (true, false, 12), (true, true, 13), (false, true, 14), (false, true, 15), (true, false, 16), (true, false, 17), (true, false, 18), (true, false, 19), (true, false, 20), (false, false, 21), (false, false, 22), (false, false, 23), (false, false, 24)] (by kernel_rfl) (by kernel_rfl) (fun X => ?_); simp only [List.map_cons, List.map_nil, List.getD_cons_zero, List.getD_cons_succ]
  (repeat (first | (refine First.wpF_pure (fun K hK => ?_); go_simp; first | (refine hK _ _ ?_; clear hK K) | (apply Exists.intro; refine ⟨fun _ => ?_, hK _ _ ?_⟩; fail)) | (refine First.wpF_free (fun K hK => ?_); go_simp; first | (refine hK _ _ ?_; clear hK K))))
  (refine first_readG rfl (v := .slice (some ⟨br, 0, none⟩) 4 cr) (fun w' hw' => ?_) (fun K hK => ?_); rotate_left 1; go_simp; refine hK _ _ ?_; clear hK K; rotate_left 1; (have hB' := Blk.kp (Blk.ext hXb _) hw' hng; have c' := Blk.cell hB'; go_simp))
  (repeat (first | (refine First.wpF_pure (fun K hK => ?_); go_simp; first | (refine hK _ _ ?_; clear hK K) | (apply Exists.intro; refine ⟨fun _ => ?_, hK _ _ ?_⟩; fail)) | (refine First.wpF_free (fun K hK => ?_); go_simp; first | (refine hK _ _ ?_; clear hK K))))
  (refine first_readG rfl (v := .pointer (some ⟨gr n, 0, none⟩)) (fun w' hw' => ?_) (fun K hK => ?_); rotate_left 1; go_simp; refine hK _ _ ?_; clear hK K; rotate_left 1; (have hB' := Blk.kp (Blk.ext hrb _) hw' hnb; have c' := Blk.cell hB'; go_simp))
  (repeat (first | (refine First.wpF_pure (fun K hK => ?_); go_simp; first | (refine hK _ _ ?_; clear hK K) | (apply Exists.intro; refine ⟨fun _ => ?_, hK _ _ ?_⟩; fail)) | (refine First.wpF_free (fun K hK => ?_); go_simp; first | (refine hK _ _ ?_; clear hK K))))
  (refine first_readG rfl (v := .int .i64 ((s.n : Int) + 1)) (fun w' hw' => ?_) (fun K hK => ?_); rotate_left 1; go_simp; refine hK _ _ ?_; clear hK K; rotate_left 1; (have hB' := Blk.kp (Blk.ext hXb _) hw' hng; have c' := Blk.cell hB'; go_simp))
  (repeat (first | (refine First.wpF_pure (fun K hK => ?_); go_simp; first | (refine hK _ _ ?_; clear hK K) | (apply Exists.intro; refine ⟨fun _ => ?_, hK _ _ ?_⟩; fail)) | (refine First.wpF_free (fun K hK => ?_); go_simp; first | (refine hK _ _ ?_; clear hK K))))
  (refine first_readG rfl (v := .int .u8 (q : Int)) (fun w' hw' => ?_) (fun K hK => ?_); rotate_left 1; go_simp; refine hK _ _ ?_; clear hK K; rotate_left 1; go_simp)
  (repeat (first | (refine First.wpF_pure (fun K hK => ?_); go_simp; first | (refine hK _ _ ?_; clear hK K) | (apply Exists.intro; refine ⟨fun _ => ?_, hK _ _ ?_⟩; fail)) | (refine First.wpF_free (fun K hK => ?_); go_simp; first | (refine hK _ _ ?_; clear hK K))))
  (refine first_readG rfl (v := .int .u8 (n : Int)) (fun w' hw' => ?_) (fun K hK => ?_); rotate_left 1; go_simp; refine hK _ _ ?_; clear hK K; rotate_left 1; go_simp)
  (repeat (first | (refine First.wpF_pure (fun K hK => ?_); go_simp; first | (refine hK _ _ ?_; clear hK K) | (apply Exists.intro; refine ⟨fun _ => ?_, hK _ _ ?_⟩; fail)) | (refine First.wpF_free (fun K hK => ?_); go_simp; first | (refine hK _ _ ?_; clear hK K))))
  have hbx : Below W.heap.size W (W.ext X) := World.below_ext W X
  have hgx := hgW.trans (Goes.below (o := o) hbx)
  have hX2 := hX.below hbx
  generalize W.ext X = V at *
  have hbV : Below V.heap.size V (V.alloc (.cells #[.int .u8 (q : Int), .int .u8 (n : Int)] 5)) := Below.alloc (Below.refl _ _) (Nat.le_refl _) _
  have hX3 := hX2.below hbV
  have hu : Bsl (V.alloc (.cells #[.int .u8 (q : Int), .int .u8 (n : Int)] 5)) (fun _ => False) (.slice (some ⟨V.heap.size, 0, none⟩) 2 2) [q, n] := by
    refine ⟨⟨_, _, rfl, ⟨rfl, fun _ => ⟨_, rfl, by simp, cells_new V _ _⟩⟩, fun e => (by cases e), fun _ a ha h => h, Nat.le_refl _, by unfold maxLen; simp⟩, fun x hx => ?_⟩
    simp only [List.mem_cons, List.not_mem_nil, or_false] at hx
    rcases hx with rfl | rfl <;> omega
  have hPr := propose_any (.slice (some ⟨V.heap.size, 0, none⟩) 2 2) [q, n] _ (hX3.rel n hnl) hu (by simp)
  have hmem := (hX3.rel n hnl).1.mem.2
  have hlt3 := hX3.lt
  have hgx3 := hgx.trans (Goes.below (o := o) hbV)
  refine First.wpF_must (fun K hK => ?_)
  go_wp2
  (refine hK _ _ (fun hnd => by first | exact Bool.noConfusion hnd | exact Kp.of_below hbV) ?_; clear hK K)
  refine First.wpF_must (fun K hK => ?_)
  go_wp2_with (go_at_call 16; (with_reducible refine hPr.mono ?_); rintro e w3 hA; obtain ⟨o', hX4, hg4, hk4, hok4, T', ⟨A1, n1, c1, A2, n2, c2, rfl, hR4, hO4⟩, hsub⟩ := hX3.took hnl hA)
  (refine hK _ _ (fun hnd => by first | exact Bool.noConfusion hnd | exact hk4) ?_; clear hK K)
  (repeat (first | (refine First.wpF_pure (fun K hK => ?_); go_simp; first | (refine hK _ _ ?_; clear hK K) | (apply Exists.intro; refine ⟨fun _ => ?_, hK _ _ ?_⟩; fail)) | (refine First.wpF_free (fun K hK => ?_); go_simp; first | (refine hK _ _ ?_; clear hK K))))
  refine First.wpF_must (fun K hK => ?_)
  go_wp2
  (refine hK _ _ (fun hnd => by first | exact Bool.noConfusion hnd | exact hk4) ?_; clear hK K)
  refine First.wpF_must (fun K hK => ?_)
  go_wp2
  (refine hK _ _ (fun hnd => by first | exact Bool.noConfusion hnd | exact hk4) ?_; clear hK K)
  refine First.wpF_must (fun K hK => ?_)
  go_wp2
  (refine hK _ _ (fun hnd => by first | exact Bool.noConfusion hnd | exact hk4) ?_; clear hK K)
  refine First.wpF_must (fun K hK => ?_)
  go_wp2
  (refine hK _ _ (fun hnd => by first | exact Bool.noConfusion hnd | exact hk4) ?_; clear hK K)
  refine First.wpF_nil ?_
  have hO4' := hO4.sub (fun k _ hk => hsub k hk)
  have hR4' := hR4.sub (fun k _ hk => hsub k hk)
  have hn1l : n1 ≤ 1 := by
    rw [← hR4.len]
    unfold proposeP
    repeat' split
    all_goals simp
  have hn2l : n2 ≤ 8 := by
    rw [← hO4.len]
    unfold proposeP
    repeat' split
    all_goals first | (simp; done) | skip
    rw [List.length_map]
    exact Nat.le_trans (List.length_filter_le _ _) hmem
  have hout := nout_any w3 hX4 hnl (c := c1) (d := c2) hR4' hO4' (by show s.post.length ≤ 10000; omega) (by have := hkl n hnl; show (s.kept n).length ≤ 10000; omega) (by omega) (by omega)
  go_wp2_with (go_at_call 85; (with_reducible refine hout.mono ?_); rintro e w5 ⟨rfl, o5, vp5, vk5, hX5, hg5⟩)
  go_ret
  have hqe := HQ.out
  subst hqe
  exact does_mk hX5 ((hgx3.trans hg4).trans hg5)
end Go.Proofs.Ytjhcgnmibnjocaa

/-! Nodes: a step: a tick, a letter once more, who is active. -/
namespace Go.Proofs.Ytjhcgnmibnjocaa
open Go.RowKit Go.Maps
set_option linter.unusedVariables false
set_option linter.unusedSimpArgs false
attribute [local irreducible] First.wpF
section
variable {o : Nat → Option Nat} {w w' : World} {g br bk gc bm bs cr : Nat} {gr : Nat → Nat} {vp : Value} {vk : Nat → Value} {s : Nd}
/-- Behind a call of the control's. -/
theorem NdX.control (h : NdX w o g s br bk gc bm bs cr gr vp vk) (hk : Kp (tg o 3) w w') {k : Vw} {bm' bs' : Nat} (hC : Ctl w' gc bm' bs' k) (hok : k.ok) (h1 : bm' = bm ∨ w.heap.size ≤ bm') (h2 : bs' = bs ∨ w.heap.size ≤ bs') : ∃ o', NdX w' o' g { s with c := k } br bk gc bm' bs' cr gr vp vk ∧ Goes o o' w w' := by
  obtain ⟨o', ho'⟩ : ∃ o' : Nat → Option Nat, o' = fun k => if k = bm' ∨ k = bs' then some 3 else o k := ⟨_, rfl⟩
  have h3 : ∀ k, k = bm' ∨ k = bs' → o' k = some 3 := fun k hk => by rw [ho']; simp only [if_pos hk]
  have h4 : ∀ k, ¬(k = bm' ∨ k = bs') → o' k = o k := fun k hk => by rw [ho']; simp only [if_neg hk]
  have hl := hC.lt
  have he : Oe o o' w w' 3 := by
    refine ⟨hk, fun k hk => ?_, fun k hk => ?_, fun k ht => ?_⟩
    · by_cases hb : k = bm' ∨ k = bs'
      · rw [h3 k hb]
        rcases hb with rfl | rfl
        · rcases h1 with rfl | h1
          · exact h.oct.2.1.symm
          · omega
        · rcases h2 with rfl | h2
          · exact h.oct.2.2.symm
          · omega
      · exact h4 k hb
    · by_cases hb : k = bm' ∨ k = bs'
      · exact .inr (h3 k hb)
      · rw [h4 k hb]
        cases e : o k with
        | none => exact .inl rfl
        | some x => have := h.lt k (by unfold OT; rw [e]; rfl); omega
    · by_cases hb : k = bm' ∨ k = bs'
      · rcases hb with rfl | rfl
        · exact hl.2.1
        · exact hl.2.2
      · have : OT o k := by unfold OT at *; rw [h4 k hb] at ht; exact ht
        exact Nat.lt_of_lt_of_le (h.lt k this) hk.size
  exact ⟨o', h.ctl he hC hok (h3 _ (.inl rfl)) (h3 _ (.inr rfl)), he.goes⟩
end
set_option maxRecDepth 100000 in
set_option maxHeartbeats 4000000 in
theorem does_one {o : Nat → Option Nat} {g br bk gc bm bs cr : Nat} {gr : Nat → Nat} {vp : Value} {vk : Nat → Value} {s : Nd} (w : World) (h : NdX w o g s br bk gc bm bs cr gr vp vk) (a b : Int) (Am : Option Addr) (m cm : Nat) (hpl : s.post.length ≤ 1000) (hkl : ∀ n, n < 4 → (s.kept n).length ≤ 1000) (hn1 : s.n ≤ 1000) :
    Calls Try.prog 34 #[.pointer (some ⟨g, 0, none⟩), .agg #[.int .i64 (1), .int .i64 a, .int .i64 b, .slice Am m cm]] w (Does o g (outN s (nOf a) (s.rs (nOf a)) [] (tickP (s.rs (nOf a)))) w) := by
  have hna := nOf_eq a
  have hnl := nOf_lt a
  generalize nOf a = n at *
  have hke : 0 < s.post.length → wrap64 ((IntKind.u64.wrap b).tmod (s.post.length : Int)) = (kOf b s.post.length : Int) := fun h0 => kOf_eq b h0 (by omega)
  have hk0 : s.post.length = 0 → kOf b s.post.length = 0 := fun h0 => by rw [h0]; rfl
  have hkl0 : 0 < s.post.length → kOf b s.post.length < s.post.length := fun h0 => kOf_lt b h0
  generalize kOf b s.post.length = k at *
  obtain ⟨Ap, cp, hvp, _⟩ := h.po.sl
  subst hvp
  have c0 := h.blk.cell
  have l0 := h.blk.lt
  have hbA : Below w.heap.size w (w.alloc (.cells #[.int .i64 (1), .int .i64 a, .int .i64 b, .slice Am m cm] 80)) := Below.alloc (Below.refl _ _) (Nat.le_refl _) _
  have hP := Blk.new w 80 #[.int .i64 (1), .int .i64 a, .int .i64 b, .slice Am m cm]
  have hX0 := h.below hbA
  go_enter Try.func34, Try.ntmps34
  go_upto_if 32 with fail
  rw [hna]
  go_cut [6] (fun v6 wx => v6 = .int .i64 (k : Int) ∧ Below w.heap.size w wx ∧ Blk wx w.heap.size 80 #[.int .i64 (1), .int .i64 a, .int .i64 b, .slice Am m cm])
  case first =>
    rcases Nat.eq_zero_or_pos s.post.length with h0 | h0
    · have d0 : decide ((0 : Int) < s.post.length) = false := decide_eq_false (by omega)
      have d0' : decide (0 < s.post.length) = false := decide_eq_false (by omega)
      have hk00 := hk0 h0
      subst hk00
      rw [d0']
      clear h0
      go_wp2
      go_meet
      case rel => exact ⟨rfl, hbA, hP⟩
    · have d0 : decide ((0 : Int) < s.post.length) = true := decide_eq_true (by omega)
      have d0' : decide (0 < s.post.length) = true := decide_eq_true h0
      have hwl : IntKind.u64.wrap (s.post.length : Int) = (s.post.length : Int) := by rw [IntKind.wrap_u64]; omega
      have hz2 : ¬s.post = [] := fun e => by rw [e] at h0; cases h0
      have hkb := hke h0
      have hkb' : IntKind.i64.wrap ((IntKind.u64.wrap b).tmod (s.post.length : Int)) = (k : Int) := (IntWalk.i64_left _).trans hkb
      rw [d0']
      clear h0
      go_wp2
      refine wp_region_ext_lit (by kernel_rfl) (by kernel_rfl) ?_
      (repeat (first | ((with_reducible refine wpQuiet_step (fun K hK => ?_)); go_simp; first | ((with_reducible refine hK _ ?_); clear hK K) | (apply Exists.intro; (with_reducible refine ⟨fun _ => ?_, hK _ ?_⟩); skip; clear hK K)) | ((with_reducible refine quiet_skipN ?_ (fun K hK => ?_)); (rfl); go_simp; (with_reducible refine hK _ ?_); clear hK K)))
      (with_reducible refine wpQuiet_nil ?_); intro _ hw'; obtain ⟨Y, hw''⟩ := hw'; subst hw''
      go_wp2
      go_meet
      case rel => exact ⟨rfl, by (repeat' (first | with_reducible exact Below.refl _ _ | with_reducible refine Below.ext ?_ ?_ _ | with_reducible refine Below.alloc ?_ ?_ _ | with_reducible refine Below.setCell ?_ ?_ _ | with_reducible refine Below.drew ?_ | with_reducible assumption | (simp [World.size_ext]; done) | (simp [World.size_ext]; omega))), hP.ext Y⟩
  case rest =>
  clear hX0 hbA hP c0 l0
  obtain ⟨rfl, hbW, hP⟩ := hcut
  have hX := h.below hbW
  have hgW := Goes.below (o := o) hbW
  have cP := hP.cell
  have lP := hP.lt
  have cX := hX.blk.cell
  have lX := hX.blk.lt
  obtain ⟨cs, hrb, hrc⟩ := hX.rb
  have hcn := hrc n hnl
  have crb := hrb.cell
  have lrb := hrb.lt
  have mrb : wc.cell? ⟨br, n, none⟩ = some (.pointer (some ⟨gr n, 0, none⟩)) := by rw [crb, hcn]
  have hnI : (n : Int) < 4 := by omega
  obtain ⟨hok, Ar, ccr, vr, mb, hRX⟩ := hX.rel n hnl
  have htk := tick_any wc hRX hok
  have hmem := hok.mem.2
  have hlt := hX.lt
  have htl : (tickP (s.rs n)).length ≤ 1000 := by
    unfold tickP
    split
    · have h1 : ∀ l : List Int, (l.flatMap (tickOne (s.rs n))).length ≤ 17 * l.length := fun l => by
        induction l with
        | nil => exact Nat.le_refl _
        | cons x l ih =>
          have := tickOne_len (s.rs n) x
          rw [List.flatMap_cons, List.length_append, List.length_cons]
          omega
      have h2 := h1 (othersP (s.rs n))
      have h3 : (othersP (s.rs n)).length ≤ 8 := Nat.le_trans (List.length_filter_le _ _) hmem
      omega
    · simp
  have HN := hide (upd_self s.rs n)
  go_wp2_with (first | (go_at_call 17; (with_reducible refine htk.mono ?_); rintro e w3 ⟨⟨A1, c1, rfl, hO1⟩, hb3⟩; have hX3 := hX.below hb3; have hg3 := hgW.trans (Goes.below (o := o) hb3); have hout := nout_any w3 hX3 hnl (c := 0) (d := c1) (Recs.nil w3 (OT o)) hO1 (by omega) (by have := hkl n hnl; omega) (by omega) (by omega)) | (go_at_call 85; (with_reducible refine hout.mono ?_); rintro e w5 ⟨rfl, o5, vp5, vk5, hX5, hg5⟩))
  go_ret
  have hs : outN s n (s.rs n) [] (tickP (s.rs n)) = { s with kept := upd s.kept n (s.kept n ++ []), post := posts n s.post (tickP (s.rs n)) } := by
    unfold outN
    rw [HN.out]
  rw [hs]
  exact does_mk hX5 (hg3.trans hg5)
set_option maxRecDepth 100000 in
set_option maxHeartbeats 4000000 in
theorem does_other {o : Nat → Option Nat} {g br bk gc bm bs cr : Nat} {gr : Nat → Nat} {vp : Value} {vk : Nat → Value} {s : Nd} (w : World) (h : NdX w o g s br bk gc bm bs cr gr vp vk) (kd a b : Int) (hkd : kd < 0 ∨ 7 < kd) (Am : Option Addr) (m cm : Nat) (hpl : s.post.length ≤ 1000) (hkl : ∀ n, n < 4 → (s.kept n).length ≤ 1000) (hn1 : s.n ≤ 1000) :
    Calls Try.prog 34 #[.pointer (some ⟨g, 0, none⟩), .agg #[.int .i64 (kd), .int .i64 a, .int .i64 b, .slice Am m cm]] w (Does o g s w) := by
  have e0 : (kd == 0) = false := by simp; omega
  have e1 : (kd == 1) = false := by simp; omega
  have e2 : (kd == 2) = false := by simp; omega
  have e3 : (kd == 3) = false := by simp; omega
  have e4 : (kd == 4) = false := by simp; omega
  have e5 : (kd == 5) = false := by simp; omega
  have e6 : (kd == 6) = false := by simp; omega
  have e7 : (kd == 7) = false := by simp; omega
  clear hkd
  have hna := nOf_eq a
  have hnl := nOf_lt a
  generalize nOf a = n at *
  have hke : 0 < s.post.length → wrap64 ((IntKind.u64.wrap b).tmod (s.post.length : Int)) = (kOf b s.post.length : Int) := fun h0 => kOf_eq b h0 (by omega)
  have hk0 : s.post.length = 0 → kOf b s.post.length = 0 := fun h0 => by rw [h0]; rfl
  have hkl0 : 0 < s.post.length → kOf b s.post.length < s.post.length := fun h0 => kOf_lt b h0
  generalize kOf b s.post.length = k at *
  obtain ⟨Ap, cp, hvp, _⟩ := h.po.sl
  subst hvp
  have c0 := h.blk.cell
  have l0 := h.blk.lt
  have hbA : Below w.heap.size w (w.alloc (.cells #[.int .i64 (kd), .int .i64 a, .int .i64 b, .slice Am m cm] 80)) := Below.alloc (Below.refl _ _) (Nat.le_refl _) _
  have hP := Blk.new w 80 #[.int .i64 (kd), .int .i64 a, .int .i64 b, .slice Am m cm]
  have hX0 := h.below hbA
  go_enter Try.func34, Try.ntmps34
  go_upto_if 32 with fail
  rw [hna]
  go_cut [6] (fun v6 wx => v6 = .int .i64 (k : Int) ∧ Below w.heap.size w wx ∧ Blk wx w.heap.size 80 #[.int .i64 (kd), .int .i64 a, .int .i64 b, .slice Am m cm])
  case first =>
    rcases Nat.eq_zero_or_pos s.post.length with h0 | h0
    · have d0 : decide ((0 : Int) < s.post.length) = false := decide_eq_false (by omega)
      have d0' : decide (0 < s.post.length) = false := decide_eq_false (by omega)
      have hk00 := hk0 h0
      subst hk00
      rw [d0']
      clear h0
      go_wp2
      go_meet
      case rel => exact ⟨rfl, hbA, hP⟩
    · have d0 : decide ((0 : Int) < s.post.length) = true := decide_eq_true (by omega)
      have d0' : decide (0 < s.post.length) = true := decide_eq_true h0
      have hwl : IntKind.u64.wrap (s.post.length : Int) = (s.post.length : Int) := by rw [IntKind.wrap_u64]; omega
      have hz2 : ¬s.post = [] := fun e => by rw [e] at h0; cases h0
      have hkb := hke h0
      have hkb' : IntKind.i64.wrap ((IntKind.u64.wrap b).tmod (s.post.length : Int)) = (k : Int) := (IntWalk.i64_left _).trans hkb
      rw [d0']
      clear h0
      go_wp2
      refine wp_region_ext_lit (by kernel_rfl) (by kernel_rfl) ?_
      (repeat (first | ((with_reducible refine wpQuiet_step (fun K hK => ?_)); go_simp; first | ((with_reducible refine hK _ ?_); clear hK K) | (apply Exists.intro; (with_reducible refine ⟨fun _ => ?_, hK _ ?_⟩); skip; clear hK K)) | ((with_reducible refine quiet_skipN ?_ (fun K hK => ?_)); (rfl); go_simp; (with_reducible refine hK _ ?_); clear hK K)))
      (with_reducible refine wpQuiet_nil ?_); intro _ hw'; obtain ⟨Y, hw''⟩ := hw'; subst hw''
      go_wp2
      go_meet
      case rel => exact ⟨rfl, by (repeat' (first | with_reducible exact Below.refl _ _ | with_reducible refine Below.ext ?_ ?_ _ | with_reducible refine Below.alloc ?_ ?_ _ | with_reducible refine Below.setCell ?_ ?_ _ | with_reducible refine Below.drew ?_ | with_reducible assumption | (simp [World.size_ext]; done) | (simp [World.size_ext]; omega))), hP.ext Y⟩
  case rest =>
  clear hX0 hbA hP c0 l0
  obtain ⟨rfl, hbW, hP⟩ := hcut
  have hX := h.below hbW
  have hgW := Goes.below (o := o) hbW
  have cP := hP.cell
  have lP := hP.lt
  have cX := hX.blk.cell
  have lX := hX.blk.lt
  go_wp2
  go_ret
  exact does_mk hX hgW
set_option maxRecDepth 100000 in
set_option maxHeartbeats 4000000 in
theorem does_seven_no {o : Nat → Option Nat} {g br bk gc bm bs cr : Nat} {gr : Nat → Nat} {vp : Value} {vk : Nat → Value} {s : Nd} (w : World) (h : NdX w o g s br bk gc bm bs cr gr vp vk) (a b : Int) (Am : Option Addr) (m cm : Nat) (hpl : s.post.length ≤ 1000) (hkl : ∀ n, n < 4 → (s.kept n).length ≤ 1000) (hn1 : s.n ≤ 1000) (hac : (s.rs (nOf a)).act = false) :
    Calls Try.prog 34 #[.pointer (some ⟨g, 0, none⟩), .agg #[.int .i64 (7), .int .i64 a, .int .i64 b, .slice Am m cm]] w (Does o g s w) := by
  have hna := nOf_eq a
  have hnl := nOf_lt a
  generalize nOf a = n at *
  have hke : 0 < s.post.length → wrap64 ((IntKind.u64.wrap b).tmod (s.post.length : Int)) = (kOf b s.post.length : Int) := fun h0 => kOf_eq b h0 (by omega)
  have hk0 : s.post.length = 0 → kOf b s.post.length = 0 := fun h0 => by rw [h0]; rfl
  have hkl0 : 0 < s.post.length → kOf b s.post.length < s.post.length := fun h0 => kOf_lt b h0
  generalize kOf b s.post.length = k at *
  obtain ⟨Ap, cp, hvp, _⟩ := h.po.sl
  subst hvp
  have c0 := h.blk.cell
  have l0 := h.blk.lt
  have hbA : Below w.heap.size w (w.alloc (.cells #[.int .i64 (7), .int .i64 a, .int .i64 b, .slice Am m cm] 80)) := Below.alloc (Below.refl _ _) (Nat.le_refl _) _
  have hP := Blk.new w 80 #[.int .i64 (7), .int .i64 a, .int .i64 b, .slice Am m cm]
  have hX0 := h.below hbA
  go_enter Try.func34, Try.ntmps34
  go_upto_if 32 with fail
  rw [hna]
  go_cut [6] (fun v6 wx => v6 = .int .i64 (k : Int) ∧ Below w.heap.size w wx ∧ Blk wx w.heap.size 80 #[.int .i64 (7), .int .i64 a, .int .i64 b, .slice Am m cm])
  case first =>
    rcases Nat.eq_zero_or_pos s.post.length with h0 | h0
    · have d0 : decide ((0 : Int) < s.post.length) = false := decide_eq_false (by omega)
      have d0' : decide (0 < s.post.length) = false := decide_eq_false (by omega)
      have hk00 := hk0 h0
      subst hk00
      rw [d0']
      clear h0
      go_wp2
      go_meet
      case rel => exact ⟨rfl, hbA, hP⟩
    · have d0 : decide ((0 : Int) < s.post.length) = true := decide_eq_true (by omega)
      have d0' : decide (0 < s.post.length) = true := decide_eq_true h0
      have hwl : IntKind.u64.wrap (s.post.length : Int) = (s.post.length : Int) := by rw [IntKind.wrap_u64]; omega
      have hz2 : ¬s.post = [] := fun e => by rw [e] at h0; cases h0
      have hkb := hke h0
      have hkb' : IntKind.i64.wrap ((IntKind.u64.wrap b).tmod (s.post.length : Int)) = (k : Int) := (IntWalk.i64_left _).trans hkb
      rw [d0']
      clear h0
      go_wp2
      refine wp_region_ext_lit (by kernel_rfl) (by kernel_rfl) ?_
      (repeat (first | ((with_reducible refine wpQuiet_step (fun K hK => ?_)); go_simp; first | ((with_reducible refine hK _ ?_); clear hK K) | (apply Exists.intro; (with_reducible refine ⟨fun _ => ?_, hK _ ?_⟩); skip; clear hK K)) | ((with_reducible refine quiet_skipN ?_ (fun K hK => ?_)); (rfl); go_simp; (with_reducible refine hK _ ?_); clear hK K)))
      (with_reducible refine wpQuiet_nil ?_); intro _ hw'; obtain ⟨Y, hw''⟩ := hw'; subst hw''
      go_wp2
      go_meet
      case rel => exact ⟨rfl, by (repeat' (first | with_reducible exact Below.refl _ _ | with_reducible refine Below.ext ?_ ?_ _ | with_reducible refine Below.alloc ?_ ?_ _ | with_reducible refine Below.setCell ?_ ?_ _ | with_reducible refine Below.drew ?_ | with_reducible assumption | (simp [World.size_ext]; done) | (simp [World.size_ext]; omega))), hP.ext Y⟩
  case rest =>
  clear hX0 hbA hP c0 l0
  obtain ⟨rfl, hbW, hP⟩ := hcut
  have hX := h.below hbW
  have hgW := Goes.below (o := o) hbW
  have cP := hP.cell
  have lP := hP.lt
  have cX := hX.blk.cell
  have lX := hX.blk.lt
  obtain ⟨cs, hrb, hrc⟩ := hX.rb
  have hcn := hrc n hnl
  have crb := hrb.cell
  have lrb := hrb.lt
  have mrb : wc.cell? ⟨br, n, none⟩ = some (.pointer (some ⟨gr n, 0, none⟩)) := by rw [crb, hcn]
  have hnI : (n : Int) < 4 := by omega
  have hAc := ractive_any wc (hX.rel n hnl)
  rw [hac] at hAc
  go_wp2_with (go_at_call 21; (with_reducible refine hAc.mono ?_); rintro e w3 ⟨rfl, rfl⟩)
  go_ret
  exact does_mk hX hgW
set_option maxRecDepth 100000 in
set_option maxHeartbeats 4000000 in
theorem does_seven {o : Nat → Option Nat} {g br bk gc bm bs cr : Nat} {gr : Nat → Nat} {vp : Value} {vk : Nat → Value} {s : Nd} (w : World) (h : NdX w o g s br bk gc bm bs cr gr vp vk) (a b : Int) (Am : Option Addr) (m cm : Nat) (hpl : s.post.length ≤ 1000) (hkl : ∀ n, n < 4 → (s.kept n).length ≤ 1000) (hn1 : s.n ≤ 1000) (hac : (s.rs (nOf a)).act = true) :
    Calls Try.prog 34 #[.pointer (some ⟨g, 0, none⟩), .agg #[.int .i64 (7), .int .i64 a, .int .i64 b, .slice Am m cm]] w (Does o g { s with c := activeK s.c (s.rs (nOf a)).v.e } w) := by
  have hna := nOf_eq a
  have hnl := nOf_lt a
  generalize nOf a = n at *
  have hke : 0 < s.post.length → wrap64 ((IntKind.u64.wrap b).tmod (s.post.length : Int)) = (kOf b s.post.length : Int) := fun h0 => kOf_eq b h0 (by omega)
  have hk0 : s.post.length = 0 → kOf b s.post.length = 0 := fun h0 => by rw [h0]; rfl
  have hkl0 : 0 < s.post.length → kOf b s.post.length < s.post.length := fun h0 => kOf_lt b h0
  generalize kOf b s.post.length = k at *
  obtain ⟨Ap, cp, hvp, _⟩ := h.po.sl
  subst hvp
  have c0 := h.blk.cell
  have l0 := h.blk.lt
  have hbA : Below w.heap.size w (w.alloc (.cells #[.int .i64 (7), .int .i64 a, .int .i64 b, .slice Am m cm] 80)) := Below.alloc (Below.refl _ _) (Nat.le_refl _) _
  have hP := Blk.new w 80 #[.int .i64 (7), .int .i64 a, .int .i64 b, .slice Am m cm]
  have hX0 := h.below hbA
  go_enter Try.func34, Try.ntmps34
  go_upto_if 32 with fail
  rw [hna]
  go_cut [6] (fun v6 wx => v6 = .int .i64 (k : Int) ∧ Below w.heap.size w wx ∧ Blk wx w.heap.size 80 #[.int .i64 (7), .int .i64 a, .int .i64 b, .slice Am m cm])
  case first =>
    rcases Nat.eq_zero_or_pos s.post.length with h0 | h0
    · have d0 : decide ((0 : Int) < s.post.length) = false := decide_eq_false (by omega)
      have d0' : decide (0 < s.post.length) = false := decide_eq_false (by omega)
      have hk00 := hk0 h0
      subst hk00
      rw [d0']
      clear h0
      go_wp2
      go_meet
      case rel => exact ⟨rfl, hbA, hP⟩
    · have d0 : decide ((0 : Int) < s.post.length) = true := decide_eq_true (by omega)
      have d0' : decide (0 < s.post.length) = true := decide_eq_true h0
      have hwl : IntKind.u64.wrap (s.post.length : Int) = (s.post.length : Int) := by rw [IntKind.wrap_u64]; omega
      have hz2 : ¬s.post = [] := fun e => by rw [e] at h0; cases h0
      have hkb := hke h0
      have hkb' : IntKind.i64.wrap ((IntKind.u64.wrap b).tmod (s.post.length : Int)) = (k : Int) := (IntWalk.i64_left _).trans hkb
      rw [d0']
      clear h0
      go_wp2
      refine wp_region_ext_lit (by kernel_rfl) (by kernel_rfl) ?_
      (repeat (first | ((with_reducible refine wpQuiet_step (fun K hK => ?_)); go_simp; first | ((with_reducible refine hK _ ?_); clear hK K) | (apply Exists.intro; (with_reducible refine ⟨fun _ => ?_, hK _ ?_⟩); skip; clear hK K)) | ((with_reducible refine quiet_skipN ?_ (fun K hK => ?_)); (rfl); go_simp; (with_reducible refine hK _ ?_); clear hK K)))
      (with_reducible refine wpQuiet_nil ?_); intro _ hw'; obtain ⟨Y, hw''⟩ := hw'; subst hw''
      go_wp2
      go_meet
      case rel => exact ⟨rfl, by (repeat' (first | with_reducible exact Below.refl _ _ | with_reducible refine Below.ext ?_ ?_ _ | with_reducible refine Below.alloc ?_ ?_ _ | with_reducible refine Below.setCell ?_ ?_ _ | with_reducible refine Below.drew ?_ | with_reducible assumption | (simp [World.size_ext]; done) | (simp [World.size_ext]; omega))), hP.ext Y⟩
  case rest =>
  clear hX0 hbA hP c0 l0
  obtain ⟨rfl, hbW, hP⟩ := hcut
  have hX := h.below hbW
  have hgW := Goes.below (o := o) hbW
  have cP := hP.cell
  have lP := hP.lt
  have cX := hX.blk.cell
  have lX := hX.blk.lt
  obtain ⟨cs, hrb, hrc⟩ := hX.rb
  have hcn := hrc n hnl
  have crb := hrb.cell
  have lrb := hrb.lt
  have mrb : wc.cell? ⟨br, n, none⟩ = some (.pointer (some ⟨gr n, 0, none⟩)) := by rw [crb, hcn]
  have hnI : (n : Int) < 4 := by omega
  have hAc := ractive_any wc (hX.rel n hnl)
  rw [hac] at hAc
  go_upto_region 43 with (go_at_call 21; (with_reducible refine hAc.mono ?_); rintro e w3 ⟨rfl, rfl⟩)
  have hXb := hX.blk
  have hng : ¬tg o 3 g := fun e => by unfold tg at e; rw [hX.og] at e; cases e
  have hnb : ¬tg o 3 br := fun e => by unfold tg at e; rw [hX.obr] at e; cases e
  obtain ⟨hok, Ar, ccr, vr, mb, hRX⟩ := hX.rel n hnl
  clear mrb crb lrb hAc cX lX cP lP hP
  refine wp_region_kp (tg o 3) [3, 7, 10, 12] [0, 1, 2, 4, 5, 6, 8, 9] [(true, false, 0), (true, false, 1), (true, false, 2), (true, true, 3), (true, false, 4), (true, false, 5), (true, false, 6), (true, true, 7), (true, false, 8), (true, false, 9), (true, true, 10), (false, true, 11), (true, true, 12), (false, true, 13)] (by kernel_rfl) (by kernel_rfl) (fun X => ?_); simp only [List.map_cons, List.map_nil, List.getD_cons_zero, List.getD_cons_succ]
  (repeat (first | (refine First.wpF_pure (fun K hK => ?_); go_simp; first | (refine hK _ _ ?_; clear hK K) | (apply Exists.intro; refine ⟨fun _ => ?_, hK _ _ ?_⟩; fail)) | (refine First.wpF_free (fun K hK => ?_); go_simp; first | (refine hK _ _ ?_; clear hK K))))
  (refine first_readG rfl (v := .pointer (some ⟨gc, 0, none⟩)) (fun w' hw' => ?_) (fun K hK => ?_); rotate_left 1; go_simp; refine hK _ _ ?_; clear hK K; rotate_left 1; (have hB' := Blk.kp (Blk.ext hXb _) hw' hng; have c' := Blk.cell hB'; go_simp))
  (repeat (first | (refine First.wpF_pure (fun K hK => ?_); go_simp; first | (refine hK _ _ ?_; clear hK K) | (apply Exists.intro; refine ⟨fun _ => ?_, hK _ _ ?_⟩; fail)) | (refine First.wpF_free (fun K hK => ?_); go_simp; first | (refine hK _ _ ?_; clear hK K))))
  (refine first_readG rfl (v := .slice (some ⟨br, 0, none⟩) 4 cr) (fun w' hw' => ?_) (fun K hK => ?_); rotate_left 1; go_simp; refine hK _ _ ?_; clear hK K; rotate_left 1; (have hB' := Blk.kp (Blk.ext hXb _) hw' hng; have c' := Blk.cell hB'; go_simp))
  (repeat (first | (refine First.wpF_pure (fun K hK => ?_); go_simp; first | (refine hK _ _ ?_; clear hK K) | (apply Exists.intro; refine ⟨fun _ => ?_, hK _ _ ?_⟩; fail)) | (refine First.wpF_free (fun K hK => ?_); go_simp; first | (refine hK _ _ ?_; clear hK K))))
  (refine first_readG rfl (v := .pointer (some ⟨gr n, 0, none⟩)) (fun w' hw' => ?_) (fun K hK => ?_); rotate_left 1; go_simp; refine hK _ _ ?_; clear hK K; rotate_left 1; (have hB' := Blk.kp (Blk.ext hrb _) hw' hnb; have c' := Blk.cell hB'; go_simp))
  (repeat (first | (refine First.wpF_pure (fun K hK => ?_); go_simp; first | (refine hK _ _ ?_; clear hK K) | (apply Exists.intro; refine ⟨fun _ => ?_, hK _ _ ?_⟩; fail)) | (refine First.wpF_free (fun K hK => ?_); go_simp; first | (refine hK _ _ ?_; clear hK K))))
  have hbx : Below w3.heap.size w3 (w3.ext X) := World.below_ext w3 X
  have hX2 := hX.below hbx
  have hg2 := hgW.trans (Goes.below (o := o) hbx)
  have hVw := rview_any (w3.ext X) (hRX.below hbx) hok
  generalize w3.ext X = V at *
  refine First.wpF_must (fun K hK => ?_)
  go_wp2_with (go_at_call 12; (with_reducible refine hVw.mono ?_); rintro e w5 ⟨⟨v5, rfl, ho5⟩, hb5⟩; obtain ⟨A5, c5, rfl, _⟩ := own_sl ho5)
  (refine hK _ _ (fun hnd => by first | exact Bool.noConfusion hnd | exact Kp.of_below hb5) ?_; clear hK K)
  have hX5 := hX2.below hb5
  have hg5 := hg2.trans (Goes.below (o := o) hb5)
  have hfd : ∀ w, (Instr.field 39 (.agg #[.int .i64 (s.rs n).v.e, .int .i64 (s.rs n).v.p, .slice A5 (s.rs n).v.l.length c5]) 0).run Try.prog w = .ok (.int .i64 (s.rs n).v.e) w := fun _ => by kernel_rfl
  have hAct := active_any gc bm bs s.c (s.rs n).v.e w5 hX5.ct hX5.ck.mb hX5.ck.pos
  (repeat (first | (refine First.wpF_pure (fun K hK => ?_); go_simp; first | (refine hK _ _ ?_; clear hK K) | (apply Exists.intro; refine ⟨fun _ => ?_, hK _ _ ?_⟩; fail)) | (refine First.wpF_free (fun K hK => ?_); go_simp; first | (refine hK _ _ ?_; clear hK K))))
  (refine first_readG rfl (v := .int .i64 (s.rs n).v.e) (fun w' hw' => ?_) (fun K hK => ?_); rotate_left 1; go_simp; refine hK _ _ ?_; clear hK K; rotate_left 1; go_simp)
  (repeat (first | (refine First.wpF_pure (fun K hK => ?_); go_simp; first | (refine hK _ _ ?_; clear hK K) | (apply Exists.intro; refine ⟨fun _ => ?_, hK _ _ ?_⟩; fail)) | (refine First.wpF_free (fun K hK => ?_); go_simp; first | (refine hK _ _ ?_; clear hK K))))
  refine First.wpF_must (fun K hK => ?_)
  go_wp2_with (go_at_call 87; (with_reducible refine hAct.mono ?_); rintro e w6 ⟨rfl, ⟨bs', hC6, hbs'⟩, hO6⟩; have hk6 : Kp (tg o 3) w5 w6 := Kp.of_both hO6 hX5.oct.1 hX5.oct.2.2)
  (refine hK _ _ (fun hnd => by first | exact Bool.noConfusion hnd | exact hk6) ?_; clear hK K)
  (repeat (first | (refine First.wpF_pure (fun K hK => ?_); go_simp; first | (refine hK _ _ ?_; clear hK K) | (apply Exists.intro; refine ⟨fun _ => ?_, hK _ _ ?_⟩; fail)) | (refine First.wpF_free (fun K hK => ?_); go_simp; first | (refine hK _ _ ?_; clear hK K))))
  refine First.wpF_nil ?_
  obtain ⟨o7, hX7, hg7⟩ := hX5.control hk6 hC6 (activeK_ok hX5.ck _) (.inl rfl) hbs'
  go_wp2
  go_ret
  exact does_mk hX7 (hg5.trans hg7)
end Go.Proofs.Ytjhcgnmibnjocaa

/-! Nodes: a letter is taken out, or is there once more: appends. -/
namespace Go.Proofs.Ytjhcgnmibnjocaa
open Go.RowKit Go.Maps
set_option linter.unusedVariables false
set_option linter.unusedSimpArgs false
/-- Some cells stay. -/
def SameG (p : Addr → Prop) (w w' : World) : Prop := ∀ a, p a → w'.cell? a = w.cell? a
theorem SameG.refl (p : Addr → Prop) (w : World) : SameG p w w := fun _ _ => rfl
theorem SameG.trans {p : Addr → Prop} {w w' w'' : World} (h : SameG p w w') (h' : SameG p w' w'') : SameG p w w'' := fun a ha => (h' a ha).trans (h a ha)
theorem SameG.below {p : Addr → Prop} {B : Nat} {w w' : World} (h : Below B w w') (hp : ∀ a, p a → a.block < B) : SameG p w w' := fun a ha => h.cell (hp a ha)
theorem SameG.both {p : Addr → Prop} {w w' w'' : World} (h : SameG p w w') (h' : SameG p w w'') : SameG p w' w'' := fun a ha => (h' a ha).trans (h a ha).symm
theorem wp_region_same (p : Addr → Prop) {P : Program} {id : Nat} {Q : Exit → Act → World → Prop} {a : Act} {w : World} {l : List Oper} (Vs Ps : List Nat) (ks : List (Bool × Bool × Nat)) (hm : P.follows .mixedOrders = true)
    (hB : (Region.noSelect l.toArray && decide (ks.length = l.length) && First.orderB .any l.toArray Vs Ps ks (Array.replicate l.length false)) = true)
    (h : ∀ X, First.wpF P l.toArray (SameG p) (Q .normal) (ks.map fun k => (k.1, k.2.1, l.getD k.2.2 default)) a (w.ext X)) : (Code.region id l.toArray true).wp P Q a w := by
  have hw₁ : ({ w with drawn := w.drawn + 1 } : World) = w.ext ⟨#[], w.drawn + 1⟩ := by simp [World.ext]
  exact First.wp_region_first _ (SameG.refl p) (fun w w' w'' h h' => h.trans h') Vs Ps ks hm hB (hw₁ ▸ h _)
/-- An append onto a row: what stood there stays, wherever the new row lies. -/
theorem run_appS {w : World} {t ty e : TypeId} {i : TypeInfo} {z : Value} {size bytes : Nat} (ht : Try.prog.underlying t = some (.slice e)) (hi : Try.prog.info? e = some i) (hz : i.zero = some z) (hsize : i.size = size) (hby : i.bytes = bytes) (hzs : z.cells.size = size) (hsz : 0 < size)
    {v : Value} {n : Nat} {xs : List Value} (hown : w.ownsRow 0 e size v n xs) {ad : Addr} {m c : Nat} {news : List Value} (hl : news.length = m * size) (hnews : ∀ j u, news[j]? = some u → w.cell? (ad.add j) = some u) (h1 : ∀ u ∈ news, u.oneCell' = true) (hm : 0 < m) (h63 : n + m ≤ maxLen) (hbytes : (n + m) * bytes ≤ 140737488355328) {v' : Value} {w' : World}
    (hr : (Builtin.append_ #[t, t] ty #[v, .slice (some ad) m c]).run Try.prog w = .ok v' w') : ∀ b, v.ownBlock = some b → ∀ j, j < n * size → w'.cell? ⟨b, j, none⟩ = w.cell? ⟨b, j, none⟩ := by
  subst hsize hby
  intro b hb j hj
  rcases hown.2 with ⟨rfl, _⟩ | ⟨g, cap, cur, rfl, _, hg, hnc, hcm, hcs, htake⟩
  · cases hb
  · cases hb
    show w'.cell? ⟨g, j, none⟩ = w.cell? ⟨g, j, none⟩
    by_cases hroom : n + m ≤ cap
    · have hnm : n * i.size + news.length ≤ cur.size := by rw [hl, hcs, ← Nat.add_mul]; exact Nat.mul_le_mul_right _ hroom
      have hr2 := run_append_room (P := Try.prog) w t ty e i ht hi g n cap cur hg ad m c news hl hnews h1 hroom hnm
      rw [hr] at hr2
      cases hr2
      rw [blk_cell (setRow_heap w g cur _ e _ hg) j, blk_cell hg j]
      simp only [List.getElem?_toArray, List.append_assoc]
      rw [List.getElem?_append_left (by rw [List.length_take, Array.length_toList]; omega), List.getElem?_take, if_pos hj, Array.getElem?_toList]
    · have holds : ∀ j u, xs[j]? = some u → w.cell? ((⟨g, 0, none⟩ : Addr).add j) = some u := hown.cells (g := g) rfl
      have hr2 := run_append_grow (P := Try.prog) w t ty e i z ht hi hz ⟨g, 0, none⟩ n cap xs hown.1 holds ad m c news hl hnews (by omega) (by simp only [maxLen] at h63; omega) (growslice_fits (by omega) hbytes)
      rw [hr] at hr2
      cases hr2
      rw [World.cell?_alloc_lt _ _ _ (by have := Blk.lt hg; simpa using this)]
      rfl
theorem OwnL.at_ {w : World} {T : Nat → Prop} {v : Value} {l : List Lt} (h : OwnL w T v l) {k : Nat} {p : Lt} (hk : l[k]? = some p) :
    ∃ bp cap cur m, v = .slice (some ⟨bp, 0, none⟩) l.length cap ∧ Blk w bp 145 cur ∧ m.x = p ∧ LmW w T m ∧ l.length ≤ cap ∧ cap ≤ maxLen ∧ ∀ i u, m.cells[i]? = some u → cur[k * 13 + i]? = some u := by
  obtain ⟨ms, he, ho, hm⟩ := h
  have hkl : k < l.length := (List.getElem?_eq_some_iff.1 hk).1
  rcases ho.2 with ⟨_, h0⟩ | ⟨bp, cap, cur, hv, _, hh, hnc, hmx, hcs, htk⟩
  · omega
  · have hml : ms.length = l.length := by rw [← he, List.length_map]
    obtain ⟨m, hg⟩ : ∃ m, ms[k]? = some m := ⟨ms[k]'(by omega), List.getElem?_eq_getElem (by omega)⟩
    refine ⟨bp, cap, cur, m, hv, hh, ?_, hm _ (List.mem_of_getElem? hg), hnc, hmx, fun i u hu => ?_⟩
    · have : (ms.map Lm.x)[k]? = some m.x := by rw [List.getElem?_map, hg]; rfl
      rw [he, hk] at this
      exact (Option.some.inj this).symm
    · have h1 := rowsV_get (k := 13) Lm.cells_len ms k _ hg i u hu
      have h2 : (lmV ms)[k * 13 + i]? = some u := h1
      rw [← htk, List.getElem?_take] at h2
      split at h2
      · rw [← Array.getElem?_toList]; exact h2
      · cases h2
theorem lmV_drop : ∀ (k : Nat) (ms : List Lm), (lmV ms).drop (k * 13) = lmV (ms.drop k)
  | 0, ms => by simp
  | k + 1, [] => by simp [lmV, rowsV]
  | k + 1, m :: ms => by
    have : lmV (m :: ms) = m.cells ++ lmV ms := by simp [lmV, rowsV]
    rw [this, List.drop_succ_cons, ← lmV_drop k ms, show (k + 1) * 13 = m.cells.length + k * 13 by rw [Lm.cells_len]; omega, List.drop_append]
    simp
theorem lmV_take : ∀ (k : Nat) (ms : List Lm), (lmV ms).take (k * 13) = lmV (ms.take k)
  | 0, ms => by simp [lmV, rowsV]
  | k + 1, [] => by simp [lmV, rowsV]
  | k + 1, m :: ms => by
    have : lmV (m :: ms) = m.cells ++ lmV ms := by simp [lmV, rowsV]
    have h2 : lmV ((m :: ms).take (k + 1)) = m.cells ++ lmV (ms.take k) := by simp [lmV, rowsV]
    rw [this, h2, ← lmV_take k ms, show (k + 1) * 13 = m.cells.length + k * 13 by rw [Lm.cells_len]; omega, List.take_append, List.take_of_length_le (by omega)]
    simp
end Go.Proofs.Ytjhcgnmibnjocaa

/-! Nodes: a step: a letter is lost. -/
namespace Go.Proofs.Ytjhcgnmibnjocaa
open Go.RowKit Go.Maps
set_option linter.unusedVariables false
set_option linter.unusedSimpArgs false
attribute [local irreducible] First.wpF
section
variable {o : Nat → Option Nat} {w : World} {g br bk gc bm bs cr : Nat} {gr : Nat → Nat} {vp : Value} {vk : Nat → Value} {s : Nd}
/-- A letter is taken out. -/
theorem NdX.drop (h : NdX w o g s br bk gc bm bs cr gr vp vk) {k bp cap : Nat} (hk : k < s.post.length) (hvp : vp = .slice (some ⟨bp, 0, none⟩) s.post.length cap) (hl : s.post.length ≤ 1000) {A2 : Addr} (hA : A2 = ⟨bp, (k + 1) * 13, none⟩ ∨ s.post.length = k + 1) :
    ∃ v1 w2 v2 w3 o' A' c' A'' c'', v1 = .slice A' k c' ∧ v2 = .slice A'' (s.post.eraseIdx k).length c'' ∧
      (Builtin.append_ #[84, 84] 84 #[.slice (some ⟨w.heap.size, 0, none⟩) 0 0, .slice (some ⟨bp, 0, none⟩) k cap]).run Try.prog (w.alloc (.cells #[] 145)) = .ok v1 w2 ∧
      (Builtin.append_ #[84, 84] 84 #[v1, .slice (some A2) (s.post.length - (k + 1)) (cap - (k + 1))]).run Try.prog w2 = .ok v2 w3 ∧
      NdX (w3.setCell ⟨g, 2, none⟩ v2) o' g { s with post := s.post.eraseIdx k } br bk gc bm bs cr gr v2 vk ∧ Below w.heap.size w w2 ∧ Below w.heap.size w w3 ∧ Goes o o' w (w3.setCell ⟨g, 2, none⟩ v2) := by
  subst hvp
  obtain ⟨i0, hi, hz0, hz1, hz2⟩ := info_parts infoLt
  obtain ⟨ms, he, hown, hms⟩ := h.po
  have hml : ms.length = s.post.length := by rw [← he, List.length_map]
  have hcells := hown.cells (g := bp) rfl
  have hbl : bp < w.heap.size := (hown.lt bp rfl).2
  have hb0 : Below w.heap.size w (w.alloc (.cells #[] 145)) := Below.alloc (Below.refl _ _) (Nat.le_refl _) _
  have hlit := own_low (World.ownsRow_made (size := 13) (e := 145) w #[] 0 (Nat.le_refl _) (Nat.zero_le _) rfl) (Nat.zero_le _)
  have hr1 : Reads (w.alloc (.cells #[] 145)) (w.alloc (.cells #[] 145)).heap.size 13 (some ⟨bp, 0, none⟩) k (lmV (ms.take k)) := by
    refine ⟨by rw [lmV_length, List.length_take, Nat.min_eq_left (by omega)], fun _ => ⟨_, rfl, by simp; omega, fun j u hu => ?_⟩⟩
    rw [← lmV_take, List.getElem?_take] at hu
    split at hu
    · rw [hb0.cell (by rw [block_of_add]; exact hbl)]
      exact hcells j u hu
    · cases hu
  obtain ⟨v1, w2, r1, r2, r3, r4⟩ := run_appR (t := 84) (ty := 84) (e := 145) Try.underlying84 hi hz0 hz1 hz2 rfl (by decide) hlit (c := cap) hr1 (lmV_one (fun m hm => hms m (List.mem_of_mem_take hm))) (by unfold maxLen; omega) (by omega)
  have hb2 : Below w.heap.size w w2 := ⟨r3.os.trans hb0.os, r3.tape.trans hb0.tape, r3.output.trans hb0.output, Nat.le_trans hb0.size r3.size, fun i hi => (r3.block i (by simp; omega) (by simp [Value.ownBlock]; omega)).trans (hb0.block i hi)⟩
  have hv1 : ∀ b, v1.ownBlock = some b → w.heap.size ≤ b := fun b hb => by
    rcases r4 with e | e
    · rw [e] at hb; cases hb; exact Nat.le_refl _
    · rw [e] at hb; cases hb; simp
  have hr2 : Reads w2 w2.heap.size 13 (some A2) (s.post.length - (k + 1)) (lmV (ms.drop (k + 1))) := by
    refine ⟨by rw [lmV_length, List.length_drop, hml], fun h0 => ?_⟩
    have hA' : A2 = ⟨bp, (k + 1) * 13, none⟩ := by
      rcases hA with hA | hA
      · exact hA
      · omega
    subst hA'
    refine ⟨_, rfl, Nat.lt_of_lt_of_le hbl hb2.size, fun j u hu => ?_⟩
    rw [← lmV_drop, List.getElem?_drop] at hu
    have h3 := hcells _ u hu
    rw [Addr.add_lit] at h3 ⊢
    rw [hb2.cell hbl]
    simpa using h3
  obtain ⟨v2, w3, t1, t2, t3, t4⟩ := run_appR (t := 84) (ty := 84) (e := 145) Try.underlying84 hi hz0 hz1 hz2 rfl (by decide) r2 (c := cap - (k + 1)) hr2 (lmV_one (fun m hm => hms m (List.mem_of_mem_drop hm))) (by unfold maxLen; omega) (by omega)
  have hb3 : Below w.heap.size w w3 := ⟨t3.os.trans hb2.os, t3.tape.trans hb2.tape, t3.output.trans hb2.output, Nat.le_trans hb2.size t3.size, fun i hi => (t3.block i (Nat.lt_of_lt_of_le hi hb2.size) (fun e => by have := hv1 i e.symm; omega)).trans (hb2.block i hi)⟩
  have hv2 : ∀ b, v2.ownBlock = some b → w.heap.size ≤ b ∧ b < w3.heap.size := fun b hb => by
    refine ⟨?_, (t2.lt b hb).2⟩
    rcases t4 with e | e
    · rw [e] at hb; exact hv1 b hb
    · rw [e] at hb; cases hb; exact hb2.size
  obtain ⟨A', c', hA', _⟩ := own_sl r2
  obtain ⟨A'', c'', hA'', _⟩ := own_sl t2
  have hlen : (s.post.eraseIdx k).length = 0 + k + (s.post.length - (k + 1)) := by rw [List.length_eraseIdx, if_pos hk]; omega
  have he' : (ms.take k ++ ms.drop (k + 1)).map Lm.x = s.post.eraseIdx k := by rw [List.eraseIdx_eq_take_drop_succ, List.map_append, List.map_take, List.map_drop, he]
  obtain ⟨o', ho'⟩ : ∃ o' : Nat → Option Nat, o' = fun k => if v2.ownBlock = some k then some 6 else o k := ⟨_, rfl⟩
  have h3 : ∀ k, v2.ownBlock = some k → o' k = some 6 := fun k hk => by rw [ho']; simp only [if_pos hk]
  have h4 : ∀ k, ¬v2.ownBlock = some k → o' k = o k := fun k hk => by rw [ho']; simp only [if_neg hk]
  have hoe : Oe o o' w w3 6 := by
    refine ⟨Kp.of_below hb3, fun k hk => h4 k (fun e => by have := (hv2 k e).1; omega), fun k hk => ?_, fun k ht => ?_⟩
    · by_cases e : v2.ownBlock = some k
      · exact .inr (h3 k e)
      · rw [h4 k e]
        cases e' : o k with
        | none => exact .inl rfl
        | some x => have := h.lt k (by unfold OT; rw [e']; rfl); omega
    · by_cases e : v2.ownBlock = some k
      · exact (hv2 k e).2
      · have : OT o k := by unfold OT at *; rw [h4 k e] at ht; exact ht
        exact Nat.lt_of_lt_of_le (h.lt k this) hb3.size
  refine ⟨v1, w2, v2, w3, o', A', c', A'', c'', by rw [hA', Nat.zero_add], by rw [hlen]; exact hA'', r1, t1, h.post hoe ⟨ms.take k ++ ms.drop (k + 1), he', ?_, fun m hm => ?_⟩ h3, hb2, hb3, hoe.goes.trans (Oe.goes (Oe.only hoe.lt (hoe.opt h.lt h.og) (Only.set_ (Only.refl _ _) (.inl rfl) _)))⟩
  · rw [hlen, lmV_append]
    simpa using t2
  · have hm0 : LmW w (OT o) m := (List.mem_append.1 hm).elim (fun h' => hms m (List.mem_of_mem_take h')) (fun h' => hms m (List.mem_of_mem_drop h'))
    exact (hm0.sub hoe.T).kp (hoe.kp.weaken (hoe.R h.lt))
end
set_option maxRecDepth 100000 in
set_option maxHeartbeats 4000000 in
theorem does_four_none {o : Nat → Option Nat} {g br bk gc bm bs cr : Nat} {gr : Nat → Nat} {vp : Value} {vk : Nat → Value} {s : Nd} (w : World) (h : NdX w o g s br bk gc bm bs cr gr vp vk) (a b : Int) (Am : Option Addr) (m cm : Nat) (hpl : s.post.length ≤ 1000) (hkl : ∀ n, n < 4 → (s.kept n).length ≤ 1000) (hn1 : s.n ≤ 1000) (hlen : s.post = []) :
    Calls Try.prog 34 #[.pointer (some ⟨g, 0, none⟩), .agg #[.int .i64 (4), .int .i64 a, .int .i64 b, .slice Am m cm]] w (Does o g s w) := by
  have hna := nOf_eq a
  have hnl := nOf_lt a
  generalize nOf a = n at *
  have hke : 0 < s.post.length → wrap64 ((IntKind.u64.wrap b).tmod (s.post.length : Int)) = (kOf b s.post.length : Int) := fun h0 => kOf_eq b h0 (by omega)
  have hk0 : s.post.length = 0 → kOf b s.post.length = 0 := fun h0 => by rw [h0]; rfl
  have hkl0 : 0 < s.post.length → kOf b s.post.length < s.post.length := fun h0 => kOf_lt b h0
  generalize kOf b s.post.length = k at *
  obtain ⟨Ap, cp, hvp, _⟩ := h.po.sl
  subst hvp
  have c0 := h.blk.cell
  have l0 := h.blk.lt
  have hbA : Below w.heap.size w (w.alloc (.cells #[.int .i64 (4), .int .i64 a, .int .i64 b, .slice Am m cm] 80)) := Below.alloc (Below.refl _ _) (Nat.le_refl _) _
  have hP := Blk.new w 80 #[.int .i64 (4), .int .i64 a, .int .i64 b, .slice Am m cm]
  have hX0 := h.below hbA
  have HL := hide hlen
  clear hlen
  go_enter Try.func34, Try.ntmps34
  go_upto_if 32 with fail
  rw [hna]
  go_cut [6] (fun v6 wx => v6 = .int .i64 (k : Int) ∧ Below w.heap.size w wx ∧ Blk wx w.heap.size 80 #[.int .i64 (4), .int .i64 a, .int .i64 b, .slice Am m cm])
  case first =>
    rcases Nat.eq_zero_or_pos s.post.length with h0 | h0
    · have d0 : decide ((0 : Int) < s.post.length) = false := decide_eq_false (by omega)
      have d0' : decide (0 < s.post.length) = false := decide_eq_false (by omega)
      have hk00 := hk0 h0
      subst hk00
      rw [d0']
      clear h0
      go_wp2
      go_meet
      case rel => exact ⟨rfl, hbA, hP⟩
    · have d0 : decide ((0 : Int) < s.post.length) = true := decide_eq_true (by omega)
      have d0' : decide (0 < s.post.length) = true := decide_eq_true h0
      have hwl : IntKind.u64.wrap (s.post.length : Int) = (s.post.length : Int) := by rw [IntKind.wrap_u64]; omega
      have hz2 : ¬s.post = [] := fun e => by rw [e] at h0; cases h0
      have hkb := hke h0
      have hkb' : IntKind.i64.wrap ((IntKind.u64.wrap b).tmod (s.post.length : Int)) = (k : Int) := (IntWalk.i64_left _).trans hkb
      rw [d0']
      clear h0
      go_wp2
      refine wp_region_ext_lit (by kernel_rfl) (by kernel_rfl) ?_
      (repeat (first | ((with_reducible refine wpQuiet_step (fun K hK => ?_)); go_simp; first | ((with_reducible refine hK _ ?_); clear hK K) | (apply Exists.intro; (with_reducible refine ⟨fun _ => ?_, hK _ ?_⟩); skip; clear hK K)) | ((with_reducible refine quiet_skipN ?_ (fun K hK => ?_)); (rfl); go_simp; (with_reducible refine hK _ ?_); clear hK K)))
      (with_reducible refine wpQuiet_nil ?_); intro _ hw'; obtain ⟨Y, hw''⟩ := hw'; subst hw''
      go_wp2
      go_meet
      case rel => exact ⟨rfl, by (repeat' (first | with_reducible exact Below.refl _ _ | with_reducible refine Below.ext ?_ ?_ _ | with_reducible refine Below.alloc ?_ ?_ _ | with_reducible refine Below.setCell ?_ ?_ _ | with_reducible refine Below.drew ?_ | with_reducible assumption | (simp [World.size_ext]; done) | (simp [World.size_ext]; omega))), hP.ext Y⟩
  case rest =>
  clear hX0 hbA hP c0 l0
  obtain ⟨rfl, hbW, hP⟩ := hcut
  have hX := h.below hbW
  have hgW := Goes.below (o := o) hbW
  have cP := hP.cell
  have lP := hP.lt
  have cX := hX.blk.cell
  have lX := hX.blk.lt
  have hlen := HL.out
  go_wp2
  go_ret
  exact does_mk hX hgW
set_option maxRecDepth 100000 in
set_option maxHeartbeats 4000000 in
theorem does_four {o : Nat → Option Nat} {g br bk gc bm bs cr : Nat} {gr : Nat → Nat} {vp : Value} {vk : Nat → Value} {s : Nd} (w : World) (h : NdX w o g s br bk gc bm bs cr gr vp vk) (a b : Int) (Am : Option Addr) (m cm : Nat) (hpl : s.post.length ≤ 1000) (hkl : ∀ n, n < 4 → (s.kept n).length ≤ 1000) (hn1 : s.n ≤ 1000) (hlen : 0 < s.post.length) :
    Calls Try.prog 34 #[.pointer (some ⟨g, 0, none⟩), .agg #[.int .i64 (4), .int .i64 a, .int .i64 b, .slice Am m cm]] w (Does o g { s with post := s.post.eraseIdx (kOf b s.post.length) } w) := by
  have hna := nOf_eq a
  have hnl := nOf_lt a
  generalize nOf a = n at *
  have hke : 0 < s.post.length → wrap64 ((IntKind.u64.wrap b).tmod (s.post.length : Int)) = (kOf b s.post.length : Int) := fun h0 => kOf_eq b h0 (by omega)
  have hk0 : s.post.length = 0 → kOf b s.post.length = 0 := fun h0 => by rw [h0]; rfl
  have hkl0 : 0 < s.post.length → kOf b s.post.length < s.post.length := fun h0 => kOf_lt b h0
  generalize kOf b s.post.length = k at *
  obtain ⟨Ap, cp, hvp, _⟩ := h.po.sl
  subst hvp
  have c0 := h.blk.cell
  have l0 := h.blk.lt
  have hbA : Below w.heap.size w (w.alloc (.cells #[.int .i64 (4), .int .i64 a, .int .i64 b, .slice Am m cm] 80)) := Below.alloc (Below.refl _ _) (Nat.le_refl _) _
  have hP := Blk.new w 80 #[.int .i64 (4), .int .i64 a, .int .i64 b, .slice Am m cm]
  have hX0 := h.below hbA
  have HL := hide hlen
  clear hlen
  go_enter Try.func34, Try.ntmps34
  go_upto_if 32 with fail
  rw [hna]
  go_cut [6] (fun v6 wx => v6 = .int .i64 (k : Int) ∧ Below w.heap.size w wx ∧ Blk wx w.heap.size 80 #[.int .i64 (4), .int .i64 a, .int .i64 b, .slice Am m cm])
  case first =>
    rcases Nat.eq_zero_or_pos s.post.length with h0 | h0
    · have d0 : decide ((0 : Int) < s.post.length) = false := decide_eq_false (by omega)
      have d0' : decide (0 < s.post.length) = false := decide_eq_false (by omega)
      have hk00 := hk0 h0
      subst hk00
      rw [d0']
      clear h0
      go_wp2
      go_meet
      case rel => exact ⟨rfl, hbA, hP⟩
    · have d0 : decide ((0 : Int) < s.post.length) = true := decide_eq_true (by omega)
      have d0' : decide (0 < s.post.length) = true := decide_eq_true h0
      have hwl : IntKind.u64.wrap (s.post.length : Int) = (s.post.length : Int) := by rw [IntKind.wrap_u64]; omega
      have hz2 : ¬s.post = [] := fun e => by rw [e] at h0; cases h0
      have hkb := hke h0
      have hkb' : IntKind.i64.wrap ((IntKind.u64.wrap b).tmod (s.post.length : Int)) = (k : Int) := (IntWalk.i64_left _).trans hkb
      rw [d0']
      clear h0
      go_wp2
      refine wp_region_ext_lit (by kernel_rfl) (by kernel_rfl) ?_
      (repeat (first | ((with_reducible refine wpQuiet_step (fun K hK => ?_)); go_simp; first | ((with_reducible refine hK _ ?_); clear hK K) | (apply Exists.intro; (with_reducible refine ⟨fun _ => ?_, hK _ ?_⟩); skip; clear hK K)) | ((with_reducible refine quiet_skipN ?_ (fun K hK => ?_)); (rfl); go_simp; (with_reducible refine hK _ ?_); clear hK K)))
      (with_reducible refine wpQuiet_nil ?_); intro _ hw'; obtain ⟨Y, hw''⟩ := hw'; subst hw''
      go_wp2
      go_meet
      case rel => exact ⟨rfl, by (repeat' (first | with_reducible exact Below.refl _ _ | with_reducible refine Below.ext ?_ ?_ _ | with_reducible refine Below.alloc ?_ ?_ _ | with_reducible refine Below.setCell ?_ ?_ _ | with_reducible refine Below.drew ?_ | with_reducible assumption | (simp [World.size_ext]; done) | (simp [World.size_ext]; omega))), hP.ext Y⟩
  case rest =>
  clear hX0 hbA hP c0 l0
  obtain ⟨rfl, hbW, hP⟩ := hcut
  have hX := h.below hbW
  have hgW := Goes.below (o := o) hbW
  have cP := hP.cell
  have lP := hP.lt
  have cX := hX.blk.cell
  have lX := hX.blk.lt
  have hlen := HL.out
  have hk := hkl0 hlen
  obtain ⟨p, hp⟩ : ∃ p, s.post[k]? = some p := ⟨s.post[k]'hk, List.getElem?_eq_getElem hk⟩
  obtain ⟨bp, cap, cur, lm, hvp, hBp, hlx, hLm, hlc, hcm, hcl⟩ := hX.po.at_ hp
  simp only [Value.slice.injEq] at hvp
  obtain ⟨rfl, -, rfl⟩ := hvp
  obtain ⟨⟨pf, pt, mg, pv⟩, vm, vl, vw⟩ := lm
  simp only at hlx
  subst hlx
  obtain ⟨⟨A1, c1, e1, _, _⟩, B1, d1, e2, _⟩ := hLm.mg
  obtain ⟨C1, f1, e3, _, _⟩ := hLm.vw
  simp only at e1 e2 e3
  subst e1 e2 e3
  have q0 := hcl 0 _ rfl
  have q1 := hcl 1 _ rfl
  have q2 := hcl 2 _ rfl
  have q3 := hcl 3 _ rfl
  have q4 := hcl 4 _ rfl
  have q5 := hcl 5 _ rfl
  have q6 := hcl 6 _ rfl
  have q7 := hcl 7 _ rfl
  have q8 := hcl 8 _ rfl
  have q9 := hcl 9 _ rfl
  have q10 := hcl 10 _ rfl
  have q11 := hcl 11 _ rfl
  have q12 := hcl 12 _ rfl
  rw [Nat.add_zero] at q0
  have cBp := hBp.cell
  have lBp := hBp.lt
  have hki : (k : Int) < s.post.length := by omega
  have hz2 : ¬s.post = [] := fun e => by rw [e] at hlen; cases hlen
  have hbl : Below wc.heap.size wc (wc.alloc (.cells #[.int .i64 pf, .int .i64 (pt : Int), .int .i64 mg.k, .int .i64 mg.e, .int .i64 mg.v.e, .int .i64 mg.v.p, (.slice A1 mg.v.l.length c1), .int .i64 mg.i, .int .i64 mg.s, (.slice B1 mg.log.length d1), .int .i64 pv.e, .int .i64 pv.p, (.slice C1 pv.l.length f1)] 145)) := Below.alloc (Below.refl _ _) (Nat.le_refl _) _
  have hpl2 : ¬OT o wc.heap.size := fun e => Nat.lt_irrefl _ (hX.lt _ e)
  go_upto_region 16 with fail
  refine abstr (fun W => NdX W o g s br bk gc bm bs cr gr (.slice (some ⟨bp, 0, none⟩) s.post.length cp) vk ∧ Goes o o w W ∧ Blk W wc.heap.size 145 #[.int .i64 pf, .int .i64 (pt : Int), .int .i64 mg.k, .int .i64 mg.e, .int .i64 mg.v.e, .int .i64 mg.v.p, (.slice A1 mg.v.l.length c1), .int .i64 mg.i, .int .i64 mg.s, (.slice B1 mg.log.length d1), .int .i64 pv.e, .int .i64 pv.p, (.slice C1 pv.l.length f1)] ∧ LmW W (OT o) ⟨⟨pf, pt, mg, pv⟩, .slice A1 mg.v.l.length c1, .slice B1 mg.log.length d1, .slice C1 pv.l.length f1⟩ ∧ Blk W w.heap.size 80 #[.int .i64 (4), .int .i64 a, .int .i64 b, .slice Am m cm]) ⟨hX.below hbl, hgW.trans (Goes.below hbl), Blk.new _ _ _, hLm.kp (Kp.of_below hbl), hP.below hbl hP.lt⟩ (fun W hW => ?_)
  clear q0 q1 q2 q3 q4 q5 q6 q7 q8 q9 q10 q11 q12 cBp lBp hBp hcl hLm cX lX cP lP hbl
  generalize wc.heap.size = pl at *
  clear hX hgW hbW hP
  obtain ⟨hX, hgW, hPl, hLm, hPA⟩ := hW
  have hcap0 : ¬cp = 0 := by omega
  have zj : (k : Int) ≤ (cp : Int) := by omega
  have zk : (0 : Int) ≤ (k : Int) := by omega
  have zl : (k : Int) + 1 ≤ (s.post.length : Int) := by omega
  have zm : (0 : Int) ≤ (k : Int) + 1 := by omega
  have hwk : IntKind.i64.wrap ((k : Int) + 1) = (k : Int) + 1 := IntWalk.i64_in _ (by omega)
  refine wp_region_same (fun a => a.block = g) [5, 7, 12, 15] [0, 2, 3, 4, 6, 9, 10, 11, 13, 14, 17, 18] [(true, false, 0), (true, false, 2), (true, false, 3), (true, false, 4), (true, true, 5), (true, false, 6), (true, true, 7), (true, false, 9), (true, false, 10), (true, false, 11), (true, true, 12), (true, false, 13), (true, false, 14), (true, true, 15), (false, true, 1), (false, true, 8), (false, false, 16), (true, false, 17), (true, false, 18), (false, false, 19)] (by kernel_rfl) (by kernel_rfl) (fun X => ?_); simp only [List.map_cons, List.map_nil, List.getD_cons_zero, List.getD_cons_succ]
  have hbx : Below W.heap.size W (W.ext X) := World.below_ext W X
  have hXV := hX.below hbx
  have hgV := hgW.trans (Goes.below (o := o) hbx)
  have hPlV := hPl.ext X
  have hLmV := hLm.kp (Kp.of_below hbx)
  have hPAV := hPA.ext X
  generalize W.ext X = V at *
  clear hX hgW hPl hLm hPA
  have cV := hXV.blk.cell
  have lV := hXV.blk.lt
  obtain ⟨A2, hA2, hA2'⟩ : ∃ A2 : Addr, (A2 = ⟨bp, (k + 1) * 13, none⟩ ∨ s.post.length = k + 1) ∧ A2 = (if cp = k + 1 then ⟨bp, 0, none⟩ else ⟨bp, (k + 1) * 13, none⟩ : Addr) := by
    by_cases hce : cp = k + 1
    · exact ⟨_, .inr (by omega), by rw [if_pos hce]⟩
    · exact ⟨_, .inl rfl, by rw [if_neg hce]⟩
  obtain ⟨v1, w2, v2, w3, o', A', c', A'', c'', rfl, rfl, r1, r2, hX8, hb2, hb3, hg8'⟩ := hXV.drop hk rfl (by omega) hA2
  have hg8 := hgV.trans hg8'
  have hsv : ∀ a : Addr, a.block = g → a.block < V.heap.size := fun a ha => by rw [ha]; exact lV
  have hs1 : SameG (fun a => a.block = g) V (V.alloc (.cells #[] 145)) := SameG.below (B := V.heap.size) (Below.alloc (Below.refl _ _) (Nat.le_refl _) _) hsv
  have hs2 := SameG.below (p := fun a => a.block = g) hb2 hsv
  have hs3 := SameG.below (p := fun a => a.block = g) hb3 hsv
  have cw3 : ∀ i, w3.cell? ⟨g, i, none⟩ = #[.slice (some ⟨br, 0, none⟩) 4 cr, .slice (some ⟨bk, 0, none⟩) 4 4, (.slice (some ⟨bp, 0, none⟩) s.post.length cp), .pointer (some ⟨gc, 0, none⟩), .int .i64 (s.n : Int)][i]? := fun i => (hs3 ⟨g, i, none⟩ rfl).trans (cV i)
  have hB3 : Blk w3 g 87 #[.slice (some ⟨br, 0, none⟩) 4 cr, .slice (some ⟨bk, 0, none⟩) 4 4, (.slice (some ⟨bp, 0, none⟩) s.post.length cp), .pointer (some ⟨gc, 0, none⟩), .int .i64 (s.n : Int)] := hXV.blk.below hb3 lV
  have f3 := hB3.frozen
  have l3 := hB3.lt
  have HA := hide hA2'
  clear hA2'
  (repeat (first | (refine First.wpF_pure (fun K hK => ?_); go_simp; first | (refine hK _ _ ?_; clear hK K) | (apply Exists.intro; refine ⟨fun _ => ?_, hK _ _ ?_⟩; fail)) | (refine First.wpF_free (fun K hK => ?_); go_simp; first | (refine hK _ _ ?_; clear hK K))))
  (refine first_readG rfl (v := .slice (some ⟨bp, 0, none⟩) s.post.length cp) (fun w' hw' => ?_) (fun K hK => ?_); rotate_left 1; go_simp; refine hK _ _ ?_; clear hK K; rotate_left 1; (have cg : ∀ i, w'.cell? ⟨g, i, none⟩ = #[.slice (some ⟨br, 0, none⟩) 4 cr, .slice (some ⟨bk, 0, none⟩) 4 4, (.slice (some ⟨bp, 0, none⟩) s.post.length cp), .pointer (some ⟨gc, 0, none⟩), .int .i64 (s.n : Int)][i]? := fun i => (hw' ⟨g, i, none⟩ rfl).trans (cV i); go_simp))
  (repeat (first | (refine First.wpF_pure (fun K hK => ?_); go_simp; first | (refine hK _ _ ?_; clear hK K) | (apply Exists.intro; refine ⟨fun _ => ?_, hK _ _ ?_⟩; fail)) | (refine First.wpF_free (fun K hK => ?_); go_simp; first | (refine hK _ _ ?_; clear hK K))))
  (refine first_readG rfl (v := .slice (some ⟨bp, 0, none⟩) k cp) (fun w' hw' => ?_) (fun K hK => ?_); rotate_left 1; go_simp; refine hK _ _ ?_; clear hK K; rotate_left 1; (skip; go_simp))
  (repeat (first | (refine First.wpF_pure (fun K hK => ?_); go_simp; first | (refine hK _ _ ?_; clear hK K) | (apply Exists.intro; refine ⟨fun _ => ?_, hK _ _ ?_⟩; fail)) | (refine First.wpF_free (fun K hK => ?_); go_simp; first | (refine hK _ _ ?_; clear hK K))))
  (refine first_readG rfl (v := .slice (some ⟨bp, 0, none⟩) s.post.length cp) (fun w' hw' => ?_) (fun K hK => ?_); rotate_left 1; go_simp; refine hK _ _ ?_; clear hK K; rotate_left 1; (have cg : ∀ i, w'.cell? ⟨g, i, none⟩ = #[.slice (some ⟨br, 0, none⟩) 4 cr, .slice (some ⟨bk, 0, none⟩) 4 4, (.slice (some ⟨bp, 0, none⟩) s.post.length cp), .pointer (some ⟨gc, 0, none⟩), .int .i64 (s.n : Int)][i]? := fun i => (hw' ⟨g, i, none⟩ rfl).trans (cV i); go_simp))
  (repeat (first | (refine First.wpF_pure (fun K hK => ?_); go_simp; first | (refine hK _ _ ?_; clear hK K) | (apply Exists.intro; refine ⟨fun _ => ?_, hK _ _ ?_⟩; fail)) | (refine First.wpF_free (fun K hK => ?_); go_simp; first | (refine hK _ _ ?_; clear hK K))))
  refine first_readG rfl (v := .slice (some A2) (s.post.length - (k + 1)) (cp - (k + 1))) (fun w' hw' => ?_) (fun K hK => ?_)
  rotate_left 1
  go_simp
  refine hK _ _ ?_
  clear hK K
  rotate_left 1
  · go_simp
    rw [HA.out]
    split <;> rfl
  (repeat (first | (refine First.wpF_pure (fun K hK => ?_); go_simp; first | (refine hK _ _ ?_; clear hK K) | (apply Exists.intro; refine ⟨fun _ => ?_, hK _ _ ?_⟩; fail)) | (refine First.wpF_free (fun K hK => ?_); go_simp; first | (refine hK _ _ ?_; clear hK K))))
  refine First.wpF_must (fun K hK => ?_)
  go_wp2
  (refine hK _ _ (fun hnd => by first | exact Bool.noConfusion hnd | exact hs1) ?_; clear hK K)
  refine First.wpF_must (fun K hK => ?_)
  go_wp2_with (at_builtin; refine wpList_append_run rfl (.tmp 111) (.tmp 117) 84 rfl rfl rfl r1 ?_)
  (refine hK _ _ (fun hnd => by first | exact Bool.noConfusion hnd | exact hs1.both hs2) ?_; clear hK K)
  refine First.wpF_must (fun K hK => ?_)
  go_wp2_with (at_builtin; refine wpList_append_run rfl (.tmp 118) (.tmp 125) 84 rfl rfl rfl r2 ?_)
  (refine hK _ _ (fun hnd => by first | exact Bool.noConfusion hnd | exact hs2.both hs3) ?_; clear hK K)
  (repeat (first | (refine First.wpF_pure (fun K hK => ?_); go_simp; first | (refine hK _ _ ?_; clear hK K) | (apply Exists.intro; refine ⟨fun _ => ?_, hK _ _ ?_⟩; fail)) | (refine First.wpF_free (fun K hK => ?_); go_simp; first | (refine hK _ _ ?_; clear hK K))))
  refine First.wpF_must (fun K hK => ?_)
  go_wp2
  (refine hK _ _ (fun hnd => by first | exact Bool.noConfusion hnd | exact hs3) ?_; clear hK K)
  refine First.wpF_nil ?_
  have hb18 : Below w.heap.size w w := Below.refl _ _
  have hPl8 : Blk (w3.setCell ⟨g, 2, none⟩ (.slice A'' (s.post.eraseIdx k).length c'')) pl 145 #[.int .i64 pf, .int .i64 (pt : Int), .int .i64 mg.k, .int .i64 mg.e, .int .i64 mg.v.e, .int .i64 mg.v.p, (.slice A1 mg.v.l.length c1), .int .i64 mg.i, .int .i64 mg.s, (.slice B1 mg.log.length d1), .int .i64 pv.e, .int .i64 pv.p, (.slice C1 pv.l.length f1)] := (hPlV.below hb3 hPlV.lt).far (p := ⟨g, 2, none⟩) (by show pl ≠ g; intro e; subst e; exact hpl2 (tg_OT hXV.og)) _
  have hPA8 : Blk (w3.setCell ⟨g, 2, none⟩ (.slice A'' (s.post.eraseIdx k).length c'')) w.heap.size 80 #[.int .i64 (4), .int .i64 a, .int .i64 b, .slice Am m cm] := (hPAV.below hb3 hPAV.lt).far (p := ⟨g, 2, none⟩) (by show w.heap.size ≠ g; have := h.blk.lt; omega) _
  have hLm8 : LmW (w3.setCell ⟨g, 2, none⟩ (.slice A'' (s.post.eraseIdx k).length c'')) (OT o') ⟨⟨pf, pt, mg, pv⟩, .slice A1 mg.v.l.length c1, .slice B1 mg.log.length d1, .slice C1 pv.l.length f1⟩ := (hLmV.sub hg8'.T).kp (hg8'.kp.weaken (hg8'.R hXV.lt))
  clear r1 r2 hs1 hs2 hs3 cw3 hB3 f3 l3 hPlV hPAV hLmV hb2 hb3 hXV cV lV
  generalize w3.setCell ⟨g, 2, none⟩ (.slice A'' (s.post.eraseIdx k).length c'') = w8 at *
  have cPl := hPl8.cell
  have lPl := hPl8.lt
  have cPA := hPA8.cell
  have lPA := hPA8.lt
  go_wp2
  go_ret
  exact does_mk hX8 hg8
end Go.Proofs.Ytjhcgnmibnjocaa

/-! Nodes: a step: a letter arrives. -/
namespace Go.Proofs.Ytjhcgnmibnjocaa
open Go.RowKit Go.Maps
set_option linter.unusedVariables false
set_option linter.unusedSimpArgs false
attribute [local irreducible] First.wpF
set_option maxRecDepth 100000 in
set_option maxHeartbeats 4000000 in
theorem does_two_none {o : Nat → Option Nat} {g br bk gc bm bs cr : Nat} {gr : Nat → Nat} {vp : Value} {vk : Nat → Value} {s : Nd} (w : World) (h : NdX w o g s br bk gc bm bs cr gr vp vk) (a b : Int) (Am : Option Addr) (m cm : Nat) (hpl : s.post.length ≤ 1000) (hkl : ∀ n, n < 4 → (s.kept n).length ≤ 1000) (hn1 : s.n ≤ 1000) (hlen : s.post = []) :
    Calls Try.prog 34 #[.pointer (some ⟨g, 0, none⟩), .agg #[.int .i64 (2), .int .i64 a, .int .i64 b, .slice Am m cm]] w (Does o g s w) := by
  have hna := nOf_eq a
  have hnl := nOf_lt a
  generalize nOf a = n at *
  have hke : 0 < s.post.length → wrap64 ((IntKind.u64.wrap b).tmod (s.post.length : Int)) = (kOf b s.post.length : Int) := fun h0 => kOf_eq b h0 (by omega)
  have hk0 : s.post.length = 0 → kOf b s.post.length = 0 := fun h0 => by rw [h0]; rfl
  have hkl0 : 0 < s.post.length → kOf b s.post.length < s.post.length := fun h0 => kOf_lt b h0
  generalize kOf b s.post.length = k at *
  obtain ⟨Ap, cp, hvp, _⟩ := h.po.sl
  subst hvp
  have c0 := h.blk.cell
  have l0 := h.blk.lt
  have hbA : Below w.heap.size w (w.alloc (.cells #[.int .i64 (2), .int .i64 a, .int .i64 b, .slice Am m cm] 80)) := Below.alloc (Below.refl _ _) (Nat.le_refl _) _
  have hP := Blk.new w 80 #[.int .i64 (2), .int .i64 a, .int .i64 b, .slice Am m cm]
  have hX0 := h.below hbA
  have HL := hide hlen
  clear hlen
  go_enter Try.func34, Try.ntmps34
  go_upto_if 32 with fail
  rw [hna]
  go_cut [6] (fun v6 wx => v6 = .int .i64 (k : Int) ∧ Below w.heap.size w wx ∧ Blk wx w.heap.size 80 #[.int .i64 (2), .int .i64 a, .int .i64 b, .slice Am m cm])
  case first =>
    rcases Nat.eq_zero_or_pos s.post.length with h0 | h0
    · have d0 : decide ((0 : Int) < s.post.length) = false := decide_eq_false (by omega)
      have d0' : decide (0 < s.post.length) = false := decide_eq_false (by omega)
      have hk00 := hk0 h0
      subst hk00
      rw [d0']
      clear h0
      go_wp2
      go_meet
      case rel => exact ⟨rfl, hbA, hP⟩
    · have d0 : decide ((0 : Int) < s.post.length) = true := decide_eq_true (by omega)
      have d0' : decide (0 < s.post.length) = true := decide_eq_true h0
      have hwl : IntKind.u64.wrap (s.post.length : Int) = (s.post.length : Int) := by rw [IntKind.wrap_u64]; omega
      have hz2 : ¬s.post = [] := fun e => by rw [e] at h0; cases h0
      have hkb := hke h0
      have hkb' : IntKind.i64.wrap ((IntKind.u64.wrap b).tmod (s.post.length : Int)) = (k : Int) := (IntWalk.i64_left _).trans hkb
      rw [d0']
      clear h0
      go_wp2
      refine wp_region_ext_lit (by kernel_rfl) (by kernel_rfl) ?_
      (repeat (first | ((with_reducible refine wpQuiet_step (fun K hK => ?_)); go_simp; first | ((with_reducible refine hK _ ?_); clear hK K) | (apply Exists.intro; (with_reducible refine ⟨fun _ => ?_, hK _ ?_⟩); skip; clear hK K)) | ((with_reducible refine quiet_skipN ?_ (fun K hK => ?_)); (rfl); go_simp; (with_reducible refine hK _ ?_); clear hK K)))
      (with_reducible refine wpQuiet_nil ?_); intro _ hw'; obtain ⟨Y, hw''⟩ := hw'; subst hw''
      go_wp2
      go_meet
      case rel => exact ⟨rfl, by (repeat' (first | with_reducible exact Below.refl _ _ | with_reducible refine Below.ext ?_ ?_ _ | with_reducible refine Below.alloc ?_ ?_ _ | with_reducible refine Below.setCell ?_ ?_ _ | with_reducible refine Below.drew ?_ | with_reducible assumption | (simp [World.size_ext]; done) | (simp [World.size_ext]; omega))), hP.ext Y⟩
  case rest =>
  clear hX0 hbA hP c0 l0
  obtain ⟨rfl, hbW, hP⟩ := hcut
  have hX := h.below hbW
  have hgW := Goes.below (o := o) hbW
  have cP := hP.cell
  have lP := hP.lt
  have cX := hX.blk.cell
  have lX := hX.blk.lt
  have hlen := HL.out
  go_wp2
  go_ret
  exact does_mk hX hgW
set_option maxRecDepth 100000 in
set_option maxHeartbeats 4000000 in
theorem does_two_lead {o : Nat → Option Nat} {g br bk gc bm bs cr : Nat} {gr : Nat → Nat} {vp : Value} {vk : Nat → Value} {s : Nd} (w : World) (h : NdX w o g s br bk gc bm bs cr gr vp vk) (a b : Int) (Am : Option Addr) (m cm : Nat) (hpl : s.post.length ≤ 1000) (hkl : ∀ n, n < 4 → (s.kept n).length ≤ 1000) (hn1 : s.n ≤ 1000) (p : Lt) (hp0 : s.post[kOf b s.post.length]? = some p) (hpt0 : p.t < 4) (hpf0 : p.f < 0) (hpv0 : p.v.l.length ≤ 1000) :
    Calls Try.prog 34 #[.pointer (some ⟨g, 0, none⟩), .agg #[.int .i64 (2), .int .i64 a, .int .i64 b, .slice Am m cm]] w (Does o g (outN { s with post := s.post.eraseIdx (kOf b s.post.length) } p.t (leadP (s.rs p.t) p.v).r (leadP (s.rs p.t) p.v).recs []) w) := by
  have hna := nOf_eq a
  have hnl := nOf_lt a
  generalize nOf a = n at *
  have hke : 0 < s.post.length → wrap64 ((IntKind.u64.wrap b).tmod (s.post.length : Int)) = (kOf b s.post.length : Int) := fun h0 => kOf_eq b h0 (by omega)
  have hk0 : s.post.length = 0 → kOf b s.post.length = 0 := fun h0 => by rw [h0]; rfl
  have hkl0 : 0 < s.post.length → kOf b s.post.length < s.post.length := fun h0 => kOf_lt b h0
  generalize kOf b s.post.length = k at *
  obtain ⟨Ap, cp, hvp, _⟩ := h.po.sl
  subst hvp
  have c0 := h.blk.cell
  have l0 := h.blk.lt
  have hbA : Below w.heap.size w (w.alloc (.cells #[.int .i64 (2), .int .i64 a, .int .i64 b, .slice Am m cm] 80)) := Below.alloc (Below.refl _ _) (Nat.le_refl _) _
  have hP := Blk.new w 80 #[.int .i64 (2), .int .i64 a, .int .i64 b, .slice Am m cm]
  have hX0 := h.below hbA
  have HL : Hid (0 < s.post.length) := hide (by have := (List.getElem?_eq_some_iff.1 hp0).1; omega)
  have HP0 := hide (⟨hp0, hpt0, hpf0, hpv0⟩ : _ ∧ _ ∧ _ ∧ _)
  clear hp0 hpt0 hpf0 hpv0
  go_enter Try.func34, Try.ntmps34
  go_upto_if 32 with fail
  rw [hna]
  go_cut [6] (fun v6 wx => v6 = .int .i64 (k : Int) ∧ Below w.heap.size w wx ∧ Blk wx w.heap.size 80 #[.int .i64 (2), .int .i64 a, .int .i64 b, .slice Am m cm])
  case first =>
    rcases Nat.eq_zero_or_pos s.post.length with h0 | h0
    · have d0 : decide ((0 : Int) < s.post.length) = false := decide_eq_false (by omega)
      have d0' : decide (0 < s.post.length) = false := decide_eq_false (by omega)
      have hk00 := hk0 h0
      subst hk00
      rw [d0']
      clear h0
      go_wp2
      go_meet
      case rel => exact ⟨rfl, hbA, hP⟩
    · have d0 : decide ((0 : Int) < s.post.length) = true := decide_eq_true (by omega)
      have d0' : decide (0 < s.post.length) = true := decide_eq_true h0
      have hwl : IntKind.u64.wrap (s.post.length : Int) = (s.post.length : Int) := by rw [IntKind.wrap_u64]; omega
      have hz2 : ¬s.post = [] := fun e => by rw [e] at h0; cases h0
      have hkb := hke h0
      have hkb' : IntKind.i64.wrap ((IntKind.u64.wrap b).tmod (s.post.length : Int)) = (k : Int) := (IntWalk.i64_left _).trans hkb
      rw [d0']
      clear h0
      go_wp2
      refine wp_region_ext_lit (by kernel_rfl) (by kernel_rfl) ?_
      (repeat (first | ((with_reducible refine wpQuiet_step (fun K hK => ?_)); go_simp; first | ((with_reducible refine hK _ ?_); clear hK K) | (apply Exists.intro; (with_reducible refine ⟨fun _ => ?_, hK _ ?_⟩); skip; clear hK K)) | ((with_reducible refine quiet_skipN ?_ (fun K hK => ?_)); (rfl); go_simp; (with_reducible refine hK _ ?_); clear hK K)))
      (with_reducible refine wpQuiet_nil ?_); intro _ hw'; obtain ⟨Y, hw''⟩ := hw'; subst hw''
      go_wp2
      go_meet
      case rel => exact ⟨rfl, by (repeat' (first | with_reducible exact Below.refl _ _ | with_reducible refine Below.ext ?_ ?_ _ | with_reducible refine Below.alloc ?_ ?_ _ | with_reducible refine Below.setCell ?_ ?_ _ | with_reducible refine Below.drew ?_ | with_reducible assumption | (simp [World.size_ext]; done) | (simp [World.size_ext]; omega))), hP.ext Y⟩
  case rest =>
  clear hX0 hbA hP c0 l0
  obtain ⟨rfl, hbW, hP⟩ := hcut
  have hX := h.below hbW
  have hgW := Goes.below (o := o) hbW
  have cP := hP.cell
  have lP := hP.lt
  have cX := hX.blk.cell
  have lX := hX.blk.lt
  have hlen := HL.out
  have hk := hkl0 hlen
  have hp := HP0.out.1
  have hpt := HP0.out.2.1
  have hpf := HP0.out.2.2.1
  have hpv := HP0.out.2.2.2
  clear HP0
  obtain ⟨bp, cap, cur, lm, hvp, hBp, hlx, hLm, hlc, hcm, hcl⟩ := hX.po.at_ hp
  simp only [Value.slice.injEq] at hvp
  obtain ⟨rfl, -, rfl⟩ := hvp
  obtain ⟨⟨pf, pt, mg, pv⟩, vm, vl, vw⟩ := lm
  simp only at hlx
  subst hlx
  obtain ⟨⟨A1, c1, e1, _, _⟩, B1, d1, e2, _⟩ := hLm.mg
  obtain ⟨C1, f1, e3, _, _⟩ := hLm.vw
  simp only at e1 e2 e3
  subst e1 e2 e3
  have q0 := hcl 0 _ rfl
  have q1 := hcl 1 _ rfl
  have q2 := hcl 2 _ rfl
  have q3 := hcl 3 _ rfl
  have q4 := hcl 4 _ rfl
  have q5 := hcl 5 _ rfl
  have q6 := hcl 6 _ rfl
  have q7 := hcl 7 _ rfl
  have q8 := hcl 8 _ rfl
  have q9 := hcl 9 _ rfl
  have q10 := hcl 10 _ rfl
  have q11 := hcl 11 _ rfl
  have q12 := hcl 12 _ rfl
  rw [Nat.add_zero] at q0
  have cBp := hBp.cell
  have lBp := hBp.lt
  have hki : (k : Int) < s.post.length := by omega
  simp only at hpt hpf hpv
  have dpf : decide (pf < 0) = true := decide_eq_true hpf
  have hz2 : ¬s.post = [] := fun e => by rw [e] at hlen; cases hlen
  have hbl : Below wc.heap.size wc (wc.alloc (.cells #[.int .i64 pf, .int .i64 (pt : Int), .int .i64 mg.k, .int .i64 mg.e, .int .i64 mg.v.e, .int .i64 mg.v.p, (.slice A1 mg.v.l.length c1), .int .i64 mg.i, .int .i64 mg.s, (.slice B1 mg.log.length d1), .int .i64 pv.e, .int .i64 pv.p, (.slice C1 pv.l.length f1)] 145)) := Below.alloc (Below.refl _ _) (Nat.le_refl _) _
  have hpl2 : ¬OT o wc.heap.size := fun e => Nat.lt_irrefl _ (hX.lt _ e)
  go_upto_region 16 with fail
  refine abstr (fun W => NdX W o g s br bk gc bm bs cr gr (.slice (some ⟨bp, 0, none⟩) s.post.length cp) vk ∧ Goes o o w W ∧ Blk W wc.heap.size 145 #[.int .i64 pf, .int .i64 (pt : Int), .int .i64 mg.k, .int .i64 mg.e, .int .i64 mg.v.e, .int .i64 mg.v.p, (.slice A1 mg.v.l.length c1), .int .i64 mg.i, .int .i64 mg.s, (.slice B1 mg.log.length d1), .int .i64 pv.e, .int .i64 pv.p, (.slice C1 pv.l.length f1)] ∧ LmW W (OT o) ⟨⟨pf, pt, mg, pv⟩, .slice A1 mg.v.l.length c1, .slice B1 mg.log.length d1, .slice C1 pv.l.length f1⟩ ∧ Blk W w.heap.size 80 #[.int .i64 (2), .int .i64 a, .int .i64 b, .slice Am m cm]) ⟨hX.below hbl, hgW.trans (Goes.below hbl), Blk.new _ _ _, hLm.kp (Kp.of_below hbl), hP.below hbl hP.lt⟩ (fun W hW => ?_)
  clear q0 q1 q2 q3 q4 q5 q6 q7 q8 q9 q10 q11 q12 cBp lBp hBp hcl hLm cX lX cP lP hbl
  generalize wc.heap.size = pl at *
  clear hX hgW hbW hP
  obtain ⟨hX, hgW, hPl, hLm, hPA⟩ := hW
  have hcap0 : ¬cp = 0 := by omega
  have zj : (k : Int) ≤ (cp : Int) := by omega
  have zk : (0 : Int) ≤ (k : Int) := by omega
  have zl : (k : Int) + 1 ≤ (s.post.length : Int) := by omega
  have zm : (0 : Int) ≤ (k : Int) + 1 := by omega
  have hwk : IntKind.i64.wrap ((k : Int) + 1) = (k : Int) + 1 := IntWalk.i64_in _ (by omega)
  refine wp_region_same (fun a => a.block = g) [5, 7, 12, 15] [0, 2, 3, 4, 6, 9, 10, 11, 13, 14, 17, 18] [(true, false, 0), (true, false, 2), (true, false, 3), (true, false, 4), (true, true, 5), (true, false, 6), (true, true, 7), (true, false, 9), (true, false, 10), (true, false, 11), (true, true, 12), (true, false, 13), (true, false, 14), (true, true, 15), (false, true, 1), (false, true, 8), (false, false, 16), (true, false, 17), (true, false, 18), (false, false, 19)] (by kernel_rfl) (by kernel_rfl) (fun X => ?_); simp only [List.map_cons, List.map_nil, List.getD_cons_zero, List.getD_cons_succ]
  have hbx : Below W.heap.size W (W.ext X) := World.below_ext W X
  have hXV := hX.below hbx
  have hgV := hgW.trans (Goes.below (o := o) hbx)
  have hPlV := hPl.ext X
  have hLmV := hLm.kp (Kp.of_below hbx)
  have hPAV := hPA.ext X
  generalize W.ext X = V at *
  clear hX hgW hPl hLm hPA
  have cV := hXV.blk.cell
  have lV := hXV.blk.lt
  obtain ⟨A2, hA2, hA2'⟩ : ∃ A2 : Addr, (A2 = ⟨bp, (k + 1) * 13, none⟩ ∨ s.post.length = k + 1) ∧ A2 = (if cp = k + 1 then ⟨bp, 0, none⟩ else ⟨bp, (k + 1) * 13, none⟩ : Addr) := by
    by_cases hce : cp = k + 1
    · exact ⟨_, .inr (by omega), by rw [if_pos hce]⟩
    · exact ⟨_, .inl rfl, by rw [if_neg hce]⟩
  obtain ⟨v1, w2, v2, w3, o', A', c', A'', c'', rfl, rfl, r1, r2, hX8, hb2, hb3, hg8'⟩ := hXV.drop hk rfl (by omega) hA2
  have hg8 := hgV.trans hg8'
  have hsv : ∀ a : Addr, a.block = g → a.block < V.heap.size := fun a ha => by rw [ha]; exact lV
  have hs1 : SameG (fun a => a.block = g) V (V.alloc (.cells #[] 145)) := SameG.below (B := V.heap.size) (Below.alloc (Below.refl _ _) (Nat.le_refl _) _) hsv
  have hs2 := SameG.below (p := fun a => a.block = g) hb2 hsv
  have hs3 := SameG.below (p := fun a => a.block = g) hb3 hsv
  have cw3 : ∀ i, w3.cell? ⟨g, i, none⟩ = #[.slice (some ⟨br, 0, none⟩) 4 cr, .slice (some ⟨bk, 0, none⟩) 4 4, (.slice (some ⟨bp, 0, none⟩) s.post.length cp), .pointer (some ⟨gc, 0, none⟩), .int .i64 (s.n : Int)][i]? := fun i => (hs3 ⟨g, i, none⟩ rfl).trans (cV i)
  have hB3 : Blk w3 g 87 #[.slice (some ⟨br, 0, none⟩) 4 cr, .slice (some ⟨bk, 0, none⟩) 4 4, (.slice (some ⟨bp, 0, none⟩) s.post.length cp), .pointer (some ⟨gc, 0, none⟩), .int .i64 (s.n : Int)] := hXV.blk.below hb3 lV
  have f3 := hB3.frozen
  have l3 := hB3.lt
  have HA := hide hA2'
  clear hA2'
  (repeat (first | (refine First.wpF_pure (fun K hK => ?_); go_simp; first | (refine hK _ _ ?_; clear hK K) | (apply Exists.intro; refine ⟨fun _ => ?_, hK _ _ ?_⟩; fail)) | (refine First.wpF_free (fun K hK => ?_); go_simp; first | (refine hK _ _ ?_; clear hK K))))
  (refine first_readG rfl (v := .slice (some ⟨bp, 0, none⟩) s.post.length cp) (fun w' hw' => ?_) (fun K hK => ?_); rotate_left 1; go_simp; refine hK _ _ ?_; clear hK K; rotate_left 1; (have cg : ∀ i, w'.cell? ⟨g, i, none⟩ = #[.slice (some ⟨br, 0, none⟩) 4 cr, .slice (some ⟨bk, 0, none⟩) 4 4, (.slice (some ⟨bp, 0, none⟩) s.post.length cp), .pointer (some ⟨gc, 0, none⟩), .int .i64 (s.n : Int)][i]? := fun i => (hw' ⟨g, i, none⟩ rfl).trans (cV i); go_simp))
  (repeat (first | (refine First.wpF_pure (fun K hK => ?_); go_simp; first | (refine hK _ _ ?_; clear hK K) | (apply Exists.intro; refine ⟨fun _ => ?_, hK _ _ ?_⟩; fail)) | (refine First.wpF_free (fun K hK => ?_); go_simp; first | (refine hK _ _ ?_; clear hK K))))
  (refine first_readG rfl (v := .slice (some ⟨bp, 0, none⟩) k cp) (fun w' hw' => ?_) (fun K hK => ?_); rotate_left 1; go_simp; refine hK _ _ ?_; clear hK K; rotate_left 1; (skip; go_simp))
  (repeat (first | (refine First.wpF_pure (fun K hK => ?_); go_simp; first | (refine hK _ _ ?_; clear hK K) | (apply Exists.intro; refine ⟨fun _ => ?_, hK _ _ ?_⟩; fail)) | (refine First.wpF_free (fun K hK => ?_); go_simp; first | (refine hK _ _ ?_; clear hK K))))
  (refine first_readG rfl (v := .slice (some ⟨bp, 0, none⟩) s.post.length cp) (fun w' hw' => ?_) (fun K hK => ?_); rotate_left 1; go_simp; refine hK _ _ ?_; clear hK K; rotate_left 1; (have cg : ∀ i, w'.cell? ⟨g, i, none⟩ = #[.slice (some ⟨br, 0, none⟩) 4 cr, .slice (some ⟨bk, 0, none⟩) 4 4, (.slice (some ⟨bp, 0, none⟩) s.post.length cp), .pointer (some ⟨gc, 0, none⟩), .int .i64 (s.n : Int)][i]? := fun i => (hw' ⟨g, i, none⟩ rfl).trans (cV i); go_simp))
  (repeat (first | (refine First.wpF_pure (fun K hK => ?_); go_simp; first | (refine hK _ _ ?_; clear hK K) | (apply Exists.intro; refine ⟨fun _ => ?_, hK _ _ ?_⟩; fail)) | (refine First.wpF_free (fun K hK => ?_); go_simp; first | (refine hK _ _ ?_; clear hK K))))
  refine first_readG rfl (v := .slice (some A2) (s.post.length - (k + 1)) (cp - (k + 1))) (fun w' hw' => ?_) (fun K hK => ?_)
  rotate_left 1
  go_simp
  refine hK _ _ ?_
  clear hK K
  rotate_left 1
  · go_simp
    rw [HA.out]
    split <;> rfl
  (repeat (first | (refine First.wpF_pure (fun K hK => ?_); go_simp; first | (refine hK _ _ ?_; clear hK K) | (apply Exists.intro; refine ⟨fun _ => ?_, hK _ _ ?_⟩; fail)) | (refine First.wpF_free (fun K hK => ?_); go_simp; first | (refine hK _ _ ?_; clear hK K))))
  refine First.wpF_must (fun K hK => ?_)
  go_wp2
  (refine hK _ _ (fun hnd => by first | exact Bool.noConfusion hnd | exact hs1) ?_; clear hK K)
  refine First.wpF_must (fun K hK => ?_)
  go_wp2_with (at_builtin; refine wpList_append_run rfl (.tmp 111) (.tmp 117) 84 rfl rfl rfl r1 ?_)
  (refine hK _ _ (fun hnd => by first | exact Bool.noConfusion hnd | exact hs1.both hs2) ?_; clear hK K)
  refine First.wpF_must (fun K hK => ?_)
  go_wp2_with (at_builtin; refine wpList_append_run rfl (.tmp 118) (.tmp 125) 84 rfl rfl rfl r2 ?_)
  (refine hK _ _ (fun hnd => by first | exact Bool.noConfusion hnd | exact hs2.both hs3) ?_; clear hK K)
  (repeat (first | (refine First.wpF_pure (fun K hK => ?_); go_simp; first | (refine hK _ _ ?_; clear hK K) | (apply Exists.intro; refine ⟨fun _ => ?_, hK _ _ ?_⟩; fail)) | (refine First.wpF_free (fun K hK => ?_); go_simp; first | (refine hK _ _ ?_; clear hK K))))
  refine First.wpF_must (fun K hK => ?_)
  go_wp2
  (refine hK _ _ (fun hnd => by first | exact Bool.noConfusion hnd | exact hs3) ?_; clear hK K)
  refine First.wpF_nil ?_
  have hb18 : Below w.heap.size w w := Below.refl _ _
  have hpl8 : ¬OT o' pl := fun e => hpl2 (hg8'.T pl hPlV.lt e)
  have hPl8 : Blk (w3.setCell ⟨g, 2, none⟩ (.slice A'' (s.post.eraseIdx k).length c'')) pl 145 #[.int .i64 pf, .int .i64 (pt : Int), .int .i64 mg.k, .int .i64 mg.e, .int .i64 mg.v.e, .int .i64 mg.v.p, (.slice A1 mg.v.l.length c1), .int .i64 mg.i, .int .i64 mg.s, (.slice B1 mg.log.length d1), .int .i64 pv.e, .int .i64 pv.p, (.slice C1 pv.l.length f1)] := (hPlV.below hb3 hPlV.lt).far (p := ⟨g, 2, none⟩) (by show pl ≠ g; intro e; subst e; exact hpl2 (tg_OT hXV.og)) _
  have hPA8 : Blk (w3.setCell ⟨g, 2, none⟩ (.slice A'' (s.post.eraseIdx k).length c'')) w.heap.size 80 #[.int .i64 (2), .int .i64 a, .int .i64 b, .slice Am m cm] := (hPAV.below hb3 hPAV.lt).far (p := ⟨g, 2, none⟩) (by show w.heap.size ≠ g; have := h.blk.lt; omega) _
  have hLm8 : LmW (w3.setCell ⟨g, 2, none⟩ (.slice A'' (s.post.eraseIdx k).length c'')) (OT o') ⟨⟨pf, pt, mg, pv⟩, .slice A1 mg.v.l.length c1, .slice B1 mg.log.length d1, .slice C1 pv.l.length f1⟩ := (hLmV.sub hg8'.T).kp (hg8'.kp.weaken (hg8'.R hXV.lt))
  clear r1 r2 hs1 hs2 hs3 cw3 hB3 f3 l3 hPlV hPAV hLmV hb2 hb3 hXV cV lV
  generalize w3.setCell ⟨g, 2, none⟩ (.slice A'' (s.post.eraseIdx k).length c'') = w8 at *
  have cPl := hPl8.cell
  have lPl := hPl8.lt
  have cPA := hPA8.cell
  have lPA := hPA8.lt
  obtain ⟨cs, hrb, hrc⟩ := hX8.rb
  have hcn := hrc pt hpt
  have hX8b := hX8.blk
  have hng : ¬tg o' (11 + pt) g := fun e => by unfold tg at e; rw [hX8.og] at e; injection e with e; omega
  have hnb : ¬tg o' (11 + pt) br := fun e => by unfold tg at e; rw [hX8.obr] at e; injection e with e; omega
  have hnl8 : ¬tg o' (11 + pt) pl := fun e => hpl8 (tg_OT e)
  have hptI : (pt : Int) < 4 := by omega
  go_upto_region 19 with fail
  refine wp_region_kp (tg o' (11 + pt)) [3, 5, 7, 9] [0, 1, 2, 4, 6, 8, 11, 12, 13] [(true, false, 0), (true, false, 1), (true, false, 2), (true, true, 3), (true, false, 4), (true, true, 5), (true, false, 6), (true, true, 7), (true, false, 8), (true, true, 9), (false, true, 10), (true, false, 11), (true, false, 12), (true, false, 13), (false, false, 14), (false, false, 15)] (by kernel_rfl) (by kernel_rfl) (fun Y => ?_); simp only [List.map_cons, List.map_nil, List.getD_cons_zero, List.getD_cons_succ]
  (repeat (first | (refine First.wpF_pure (fun K hK => ?_); go_simp; first | (refine hK _ _ ?_; clear hK K) | (apply Exists.intro; refine ⟨fun _ => ?_, hK _ _ ?_⟩; fail)) | (refine First.wpF_free (fun K hK => ?_); go_simp; first | (refine hK _ _ ?_; clear hK K))))
  (refine first_readG rfl (v := .slice (some ⟨br, 0, none⟩) 4 cr) (fun w' hw' => ?_) (fun K hK => ?_); rotate_left 1; go_simp; refine hK _ _ ?_; clear hK K; rotate_left 1; (have hB' := Blk.kp (Blk.ext hX8b _) hw' hng; have c' := Blk.cell hB'; go_simp))
  (repeat (first | (refine First.wpF_pure (fun K hK => ?_); go_simp; first | (refine hK _ _ ?_; clear hK K) | (apply Exists.intro; refine ⟨fun _ => ?_, hK _ _ ?_⟩; fail)) | (refine First.wpF_free (fun K hK => ?_); go_simp; first | (refine hK _ _ ?_; clear hK K))))
  (refine first_readG rfl (v := .int .i64 (pt : Int)) (fun w' hw' => ?_) (fun K hK => ?_); rotate_left 1; go_simp; refine hK _ _ ?_; clear hK K; rotate_left 1; (have hB' := Blk.kp (Blk.ext hPl8 _) hw' hnl8; have c' := Blk.cell hB'; go_simp))
  (repeat (first | (refine First.wpF_pure (fun K hK => ?_); go_simp; first | (refine hK _ _ ?_; clear hK K) | (apply Exists.intro; refine ⟨fun _ => ?_, hK _ _ ?_⟩; fail)) | (refine First.wpF_free (fun K hK => ?_); go_simp; first | (refine hK _ _ ?_; clear hK K))))
  (refine first_readG rfl (v := .pointer (some ⟨gr pt, 0, none⟩)) (fun w' hw' => ?_) (fun K hK => ?_); rotate_left 1; go_simp; refine hK _ _ ?_; clear hK K; rotate_left 1; (have hB' := Blk.kp (Blk.ext hrb _) hw' hnb; have c' := Blk.cell hB'; go_simp))
  (repeat (first | (refine First.wpF_pure (fun K hK => ?_); go_simp; first | (refine hK _ _ ?_; clear hK K) | (apply Exists.intro; refine ⟨fun _ => ?_, hK _ _ ?_⟩; fail)) | (refine First.wpF_free (fun K hK => ?_); go_simp; first | (refine hK _ _ ?_; clear hK K))))
  (refine first_readG rfl (v := .agg #[.int .i64 pv.e, .int .i64 pv.p, .slice C1 pv.l.length f1]) (fun w' hw' => ?_) (fun K hK => ?_); rotate_left 1; go_simp; refine hK _ _ ?_; clear hK K; rotate_left 1; (have hB' := Blk.kp (Blk.ext hPl8 _) hw' hnl8; have c' := Blk.cell hB'; go_simp))
  (repeat (first | (refine First.wpF_pure (fun K hK => ?_); go_simp; first | (refine hK _ _ ?_; clear hK K) | (apply Exists.intro; refine ⟨fun _ => ?_, hK _ _ ?_⟩; fail)) | (refine First.wpF_free (fun K hK => ?_); go_simp; first | (refine hK _ _ ?_; clear hK K))))
  have hby : Below w8.heap.size w8 (w8.ext Y) := World.below_ext w8 Y
  have hX9 := hX8.below hby
  have hg9 := hg8.trans (Goes.below (o := o') hby)
  have hPl9 := hPl8.ext Y
  obtain ⟨C1', f1', e9, hr9, hn9⟩ := (hLm8.kp (Kp.of_below hby)).vw
  simp only [Value.slice.injEq] at e9
  obtain ⟨rfl, -, rfl⟩ := e9
  simp only at hr9 hn9
  generalize w8.ext Y = W9 at *
  have hLd := lead_any C1 f1 pv W9 (hX9.rel pt hpt) hr9 (fun h0 a ha ht => hn9 h0 a ha (tg_OT ht)) (by omega)
  refine First.wpF_must (fun K hK => ?_)
  go_wp2_with (go_at_call 14; (with_reducible refine hLd.mono ?_); rintro e w10 hA; obtain ⟨o10, hX10, hg10, hk10, hok10, T10, ⟨R1, n1, d2, rfl, hR10⟩, hsub⟩ := hX9.took hpt hA)
  (refine hK _ _ (fun hnd => by first | exact Bool.noConfusion hnd | exact hk10) ?_; clear hK K)
  (repeat (first | (refine First.wpF_pure (fun K hK => ?_); go_simp; first | (refine hK _ _ ?_; clear hK K) | (apply Exists.intro; refine ⟨fun _ => ?_, hK _ _ ?_⟩; fail)) | (refine First.wpF_free (fun K hK => ?_); go_simp; first | (refine hK _ _ ?_; clear hK K))))
  refine First.wpF_must (fun K hK => ?_)
  go_wp2
  (refine hK _ _ (fun hnd => by first | exact Bool.noConfusion hnd | exact hk10) ?_; clear hK K)
  refine First.wpF_must (fun K hK => ?_)
  go_wp2
  (refine hK _ _ (fun hnd => by first | exact Bool.noConfusion hnd | exact hk10) ?_; clear hK K)
  refine First.wpF_nil ?_
  have hR10' := hR10.sub (fun k _ hk => hsub k hk)
  have hPl10 : Blk w10 pl 145 #[.int .i64 pf, .int .i64 (pt : Int), .int .i64 mg.k, .int .i64 mg.e, .int .i64 mg.v.e, .int .i64 mg.v.p, (.slice A1 mg.v.l.length c1), .int .i64 mg.i, .int .i64 mg.s, (.slice B1 mg.log.length d1), .int .i64 pv.e, .int .i64 pv.p, (.slice C1 pv.l.length f1)] := Blk.kp hPl9 hk10 hnl8
  have cP10 := hPl10.cell
  have lP10 := hPl10.lt
  have hn1l : n1 ≤ 1 := by
    rw [← hR10.len]
    unfold leadP
    repeat' split
    all_goals simp
  have hout := nout_any w10 hX10 hpt (c := d2) (d := 0) hR10' (Outs.nil w10 (OT o10)) (by show (s.post.eraseIdx k).length ≤ 10000; have := List.length_eraseIdx_le s.post k; omega) (by have := hkl pt hpt; show (s.kept pt).length ≤ 10000; omega) (by omega) (by omega)
  go_wp2_with (go_at_call 85; (with_reducible refine hout.mono ?_); rintro e w11 ⟨rfl, o11, vp11, vk11, hX11, hg11⟩)
  go_ret
  exact does_mk hX11 ((hg9.trans hg10).trans hg11)
end Go.Proofs.Ytjhcgnmibnjocaa

/-! Nodes: a step: a relay's letter arrives. -/
namespace Go.Proofs.Ytjhcgnmibnjocaa
open Go.RowKit Go.Maps
set_option linter.unusedVariables false
set_option linter.unusedSimpArgs false
attribute [local irreducible] First.wpF
theorem take_recs_len (r : Rl) (f : Int) (m : Mg) : (takeP_ r f m).recs.length ≤ 2 := by
  unfold takeP_ offerP shipP offerR offer2R ship1R
  repeat' split
  all_goals simp
theorem take_outs_len (r : Rl) (f : Int) (m : Mg) : (takeP_ r f m).outs.length ≤ 1 := by
  unfold takeP_ offerP shipP hearO
  repeat' split
  all_goals simp
set_option maxRecDepth 100000 in
set_option maxHeartbeats 4000000 in
theorem does_two_take {o : Nat → Option Nat} {g br bk gc bm bs cr : Nat} {gr : Nat → Nat} {vp : Value} {vk : Nat → Value} {s : Nd} (w : World) (h : NdX w o g s br bk gc bm bs cr gr vp vk) (a b : Int) (Am : Option Addr) (m cm : Nat) (hpl : s.post.length ≤ 1000) (hkl : ∀ n, n < 4 → (s.kept n).length ≤ 1000) (hn1 : s.n ≤ 1000) (p : Lt) (hp0 : s.post[kOf b s.post.length]? = some p) (hpt0 : p.t < 4) (hpf0 : 0 ≤ p.f) (hpv0 : p.m.v.l.length ≤ 1000) :
    Calls Try.prog 34 #[.pointer (some ⟨g, 0, none⟩), .agg #[.int .i64 (2), .int .i64 a, .int .i64 b, .slice Am m cm]] w (Does o g (outN { s with post := s.post.eraseIdx (kOf b s.post.length) } p.t (takeP_ (s.rs p.t) p.f p.m).r (takeP_ (s.rs p.t) p.f p.m).recs (takeP_ (s.rs p.t) p.f p.m).outs) w) := by
  have hna := nOf_eq a
  have hnl := nOf_lt a
  generalize nOf a = n at *
  have hke : 0 < s.post.length → wrap64 ((IntKind.u64.wrap b).tmod (s.post.length : Int)) = (kOf b s.post.length : Int) := fun h0 => kOf_eq b h0 (by omega)
  have hk0 : s.post.length = 0 → kOf b s.post.length = 0 := fun h0 => by rw [h0]; rfl
  have hkl0 : 0 < s.post.length → kOf b s.post.length < s.post.length := fun h0 => kOf_lt b h0
  generalize kOf b s.post.length = k at *
  obtain ⟨Ap, cp, hvp, _⟩ := h.po.sl
  subst hvp
  have c0 := h.blk.cell
  have l0 := h.blk.lt
  have hbA : Below w.heap.size w (w.alloc (.cells #[.int .i64 (2), .int .i64 a, .int .i64 b, .slice Am m cm] 80)) := Below.alloc (Below.refl _ _) (Nat.le_refl _) _
  have hP := Blk.new w 80 #[.int .i64 (2), .int .i64 a, .int .i64 b, .slice Am m cm]
  have hX0 := h.below hbA
  have HL : Hid (0 < s.post.length) := hide (by have := (List.getElem?_eq_some_iff.1 hp0).1; omega)
  have HP0 := hide (⟨hp0, hpt0, hpf0, hpv0⟩ : _ ∧ _ ∧ _ ∧ _)
  clear hp0 hpt0 hpf0 hpv0
  go_enter Try.func34, Try.ntmps34
  go_upto_if 32 with fail
  rw [hna]
  go_cut [6] (fun v6 wx => v6 = .int .i64 (k : Int) ∧ Below w.heap.size w wx ∧ Blk wx w.heap.size 80 #[.int .i64 (2), .int .i64 a, .int .i64 b, .slice Am m cm])
  case first =>
    rcases Nat.eq_zero_or_pos s.post.length with h0 | h0
    · have d0 : decide ((0 : Int) < s.post.length) = false := decide_eq_false (by omega)
      have d0' : decide (0 < s.post.length) = false := decide_eq_false (by omega)
      have hk00 := hk0 h0
      subst hk00
      rw [d0']
      clear h0
      go_wp2
      go_meet
      case rel => exact ⟨rfl, hbA, hP⟩
    · have d0 : decide ((0 : Int) < s.post.length) = true := decide_eq_true (by omega)
      have d0' : decide (0 < s.post.length) = true := decide_eq_true h0
      have hwl : IntKind.u64.wrap (s.post.length : Int) = (s.post.length : Int) := by rw [IntKind.wrap_u64]; omega
      have hz2 : ¬s.post = [] := fun e => by rw [e] at h0; cases h0
      have hkb := hke h0
      have hkb' : IntKind.i64.wrap ((IntKind.u64.wrap b).tmod (s.post.length : Int)) = (k : Int) := (IntWalk.i64_left _).trans hkb
      rw [d0']
      clear h0
      go_wp2
      refine wp_region_ext_lit (by kernel_rfl) (by kernel_rfl) ?_
      (repeat (first | ((with_reducible refine wpQuiet_step (fun K hK => ?_)); go_simp; first | ((with_reducible refine hK _ ?_); clear hK K) | (apply Exists.intro; (with_reducible refine ⟨fun _ => ?_, hK _ ?_⟩); skip; clear hK K)) | ((with_reducible refine quiet_skipN ?_ (fun K hK => ?_)); (rfl); go_simp; (with_reducible refine hK _ ?_); clear hK K)))
      (with_reducible refine wpQuiet_nil ?_); intro _ hw'; obtain ⟨Y, hw''⟩ := hw'; subst hw''
      go_wp2
      go_meet
      case rel => exact ⟨rfl, by (repeat' (first | with_reducible exact Below.refl _ _ | with_reducible refine Below.ext ?_ ?_ _ | with_reducible refine Below.alloc ?_ ?_ _ | with_reducible refine Below.setCell ?_ ?_ _ | with_reducible refine Below.drew ?_ | with_reducible assumption | (simp [World.size_ext]; done) | (simp [World.size_ext]; omega))), hP.ext Y⟩
  case rest =>
  clear hX0 hbA hP c0 l0
  obtain ⟨rfl, hbW, hP⟩ := hcut
  have hX := h.below hbW
  have hgW := Goes.below (o := o) hbW
  have cP := hP.cell
  have lP := hP.lt
  have cX := hX.blk.cell
  have lX := hX.blk.lt
  have hlen := HL.out
  have hk := hkl0 hlen
  have hp := HP0.out.1
  have hpt := HP0.out.2.1
  have hpf := HP0.out.2.2.1
  have hpv := HP0.out.2.2.2
  clear HP0
  obtain ⟨bp, cap, cur, lm, hvp, hBp, hlx, hLm, hlc, hcm, hcl⟩ := hX.po.at_ hp
  simp only [Value.slice.injEq] at hvp
  obtain ⟨rfl, -, rfl⟩ := hvp
  obtain ⟨⟨pf, pt, mg, pv⟩, vm, vl, vw⟩ := lm
  simp only at hlx
  subst hlx
  obtain ⟨⟨A1, c1, e1, _, _⟩, B1, d1, e2, _⟩ := hLm.mg
  obtain ⟨C1, f1, e3, _, _⟩ := hLm.vw
  simp only at e1 e2 e3
  subst e1 e2 e3
  have q0 := hcl 0 _ rfl
  have q1 := hcl 1 _ rfl
  have q2 := hcl 2 _ rfl
  have q3 := hcl 3 _ rfl
  have q4 := hcl 4 _ rfl
  have q5 := hcl 5 _ rfl
  have q6 := hcl 6 _ rfl
  have q7 := hcl 7 _ rfl
  have q8 := hcl 8 _ rfl
  have q9 := hcl 9 _ rfl
  have q10 := hcl 10 _ rfl
  have q11 := hcl 11 _ rfl
  have q12 := hcl 12 _ rfl
  rw [Nat.add_zero] at q0
  have cBp := hBp.cell
  have lBp := hBp.lt
  have hki : (k : Int) < s.post.length := by omega
  simp only at hpt hpf hpv
  have dpf : decide (pf < 0) = false := decide_eq_false (by omega)
  have hz2 : ¬s.post = [] := fun e => by rw [e] at hlen; cases hlen
  have hbl : Below wc.heap.size wc (wc.alloc (.cells #[.int .i64 pf, .int .i64 (pt : Int), .int .i64 mg.k, .int .i64 mg.e, .int .i64 mg.v.e, .int .i64 mg.v.p, (.slice A1 mg.v.l.length c1), .int .i64 mg.i, .int .i64 mg.s, (.slice B1 mg.log.length d1), .int .i64 pv.e, .int .i64 pv.p, (.slice C1 pv.l.length f1)] 145)) := Below.alloc (Below.refl _ _) (Nat.le_refl _) _
  have hpl2 : ¬OT o wc.heap.size := fun e => Nat.lt_irrefl _ (hX.lt _ e)
  go_upto_region 16 with fail
  refine abstr (fun W => NdX W o g s br bk gc bm bs cr gr (.slice (some ⟨bp, 0, none⟩) s.post.length cp) vk ∧ Goes o o w W ∧ Blk W wc.heap.size 145 #[.int .i64 pf, .int .i64 (pt : Int), .int .i64 mg.k, .int .i64 mg.e, .int .i64 mg.v.e, .int .i64 mg.v.p, (.slice A1 mg.v.l.length c1), .int .i64 mg.i, .int .i64 mg.s, (.slice B1 mg.log.length d1), .int .i64 pv.e, .int .i64 pv.p, (.slice C1 pv.l.length f1)] ∧ LmW W (OT o) ⟨⟨pf, pt, mg, pv⟩, .slice A1 mg.v.l.length c1, .slice B1 mg.log.length d1, .slice C1 pv.l.length f1⟩ ∧ Blk W w.heap.size 80 #[.int .i64 (2), .int .i64 a, .int .i64 b, .slice Am m cm]) ⟨hX.below hbl, hgW.trans (Goes.below hbl), Blk.new _ _ _, hLm.kp (Kp.of_below hbl), hP.below hbl hP.lt⟩ (fun W hW => ?_)
  clear q0 q1 q2 q3 q4 q5 q6 q7 q8 q9 q10 q11 q12 cBp lBp hBp hcl hLm cX lX cP lP hbl
  generalize wc.heap.size = pl at *
  clear hX hgW hbW hP
  obtain ⟨hX, hgW, hPl, hLm, hPA⟩ := hW
  have hcap0 : ¬cp = 0 := by omega
  have zj : (k : Int) ≤ (cp : Int) := by omega
  have zk : (0 : Int) ≤ (k : Int) := by omega
  have zl : (k : Int) + 1 ≤ (s.post.length : Int) := by omega
  have zm : (0 : Int) ≤ (k : Int) + 1 := by omega
  have hwk : IntKind.i64.wrap ((k : Int) + 1) = (k : Int) + 1 := IntWalk.i64_in _ (by omega)
  refine wp_region_same (fun a => a.block = g) [5, 7, 12, 15] [0, 2, 3, 4, 6, 9, 10, 11, 13, 14, 17, 18] [(true, false, 0), (true, false, 2), (true, false, 3), (true, false, 4), (true, true, 5), (true, false, 6), (true, true, 7), (true, false, 9), (true, false, 10), (true, false, 11), (true, true, 12), (true, false, 13), (true, false, 14), (true, true, 15), (false, true, 1), (false, true, 8), (false, false, 16), (true, false, 17), (true, false, 18), (false, false, 19)] (by kernel_rfl) (by kernel_rfl) (fun X => ?_); simp only [List.map_cons, List.map_nil, List.getD_cons_zero, List.getD_cons_succ]
  have hbx : Below W.heap.size W (W.ext X) := World.below_ext W X
  have hXV := hX.below hbx
  have hgV := hgW.trans (Goes.below (o := o) hbx)
  have hPlV := hPl.ext X
  have hLmV := hLm.kp (Kp.of_below hbx)
  have hPAV := hPA.ext X
  generalize W.ext X = V at *
  clear hX hgW hPl hLm hPA
  have cV := hXV.blk.cell
  have lV := hXV.blk.lt
  obtain ⟨A2, hA2, hA2'⟩ : ∃ A2 : Addr, (A2 = ⟨bp, (k + 1) * 13, none⟩ ∨ s.post.length = k + 1) ∧ A2 = (if cp = k + 1 then ⟨bp, 0, none⟩ else ⟨bp, (k + 1) * 13, none⟩ : Addr) := by
    by_cases hce : cp = k + 1
    · exact ⟨_, .inr (by omega), by rw [if_pos hce]⟩
    · exact ⟨_, .inl rfl, by rw [if_neg hce]⟩
  obtain ⟨v1, w2, v2, w3, o', A', c', A'', c'', rfl, rfl, r1, r2, hX8, hb2, hb3, hg8'⟩ := hXV.drop hk rfl (by omega) hA2
  have hg8 := hgV.trans hg8'
  have hsv : ∀ a : Addr, a.block = g → a.block < V.heap.size := fun a ha => by rw [ha]; exact lV
  have hs1 : SameG (fun a => a.block = g) V (V.alloc (.cells #[] 145)) := SameG.below (B := V.heap.size) (Below.alloc (Below.refl _ _) (Nat.le_refl _) _) hsv
  have hs2 := SameG.below (p := fun a => a.block = g) hb2 hsv
  have hs3 := SameG.below (p := fun a => a.block = g) hb3 hsv
  have cw3 : ∀ i, w3.cell? ⟨g, i, none⟩ = #[.slice (some ⟨br, 0, none⟩) 4 cr, .slice (some ⟨bk, 0, none⟩) 4 4, (.slice (some ⟨bp, 0, none⟩) s.post.length cp), .pointer (some ⟨gc, 0, none⟩), .int .i64 (s.n : Int)][i]? := fun i => (hs3 ⟨g, i, none⟩ rfl).trans (cV i)
  have hB3 : Blk w3 g 87 #[.slice (some ⟨br, 0, none⟩) 4 cr, .slice (some ⟨bk, 0, none⟩) 4 4, (.slice (some ⟨bp, 0, none⟩) s.post.length cp), .pointer (some ⟨gc, 0, none⟩), .int .i64 (s.n : Int)] := hXV.blk.below hb3 lV
  have f3 := hB3.frozen
  have l3 := hB3.lt
  have HA := hide hA2'
  clear hA2'
  (repeat (first | (refine First.wpF_pure (fun K hK => ?_); go_simp; first | (refine hK _ _ ?_; clear hK K) | (apply Exists.intro; refine ⟨fun _ => ?_, hK _ _ ?_⟩; fail)) | (refine First.wpF_free (fun K hK => ?_); go_simp; first | (refine hK _ _ ?_; clear hK K))))
  (refine first_readG rfl (v := .slice (some ⟨bp, 0, none⟩) s.post.length cp) (fun w' hw' => ?_) (fun K hK => ?_); rotate_left 1; go_simp; refine hK _ _ ?_; clear hK K; rotate_left 1; (have cg : ∀ i, w'.cell? ⟨g, i, none⟩ = #[.slice (some ⟨br, 0, none⟩) 4 cr, .slice (some ⟨bk, 0, none⟩) 4 4, (.slice (some ⟨bp, 0, none⟩) s.post.length cp), .pointer (some ⟨gc, 0, none⟩), .int .i64 (s.n : Int)][i]? := fun i => (hw' ⟨g, i, none⟩ rfl).trans (cV i); go_simp))
  (repeat (first | (refine First.wpF_pure (fun K hK => ?_); go_simp; first | (refine hK _ _ ?_; clear hK K) | (apply Exists.intro; refine ⟨fun _ => ?_, hK _ _ ?_⟩; fail)) | (refine First.wpF_free (fun K hK => ?_); go_simp; first | (refine hK _ _ ?_; clear hK K))))
  (refine first_readG rfl (v := .slice (some ⟨bp, 0, none⟩) k cp) (fun w' hw' => ?_) (fun K hK => ?_); rotate_left 1; go_simp; refine hK _ _ ?_; clear hK K; rotate_left 1; (skip; go_simp))
  (repeat (first | (refine First.wpF_pure (fun K hK => ?_); go_simp; first | (refine hK _ _ ?_; clear hK K) | (apply Exists.intro; refine ⟨fun _ => ?_, hK _ _ ?_⟩; fail)) | (refine First.wpF_free (fun K hK => ?_); go_simp; first | (refine hK _ _ ?_; clear hK K))))
  (refine first_readG rfl (v := .slice (some ⟨bp, 0, none⟩) s.post.length cp) (fun w' hw' => ?_) (fun K hK => ?_); rotate_left 1; go_simp; refine hK _ _ ?_; clear hK K; rotate_left 1; (have cg : ∀ i, w'.cell? ⟨g, i, none⟩ = #[.slice (some ⟨br, 0, none⟩) 4 cr, .slice (some ⟨bk, 0, none⟩) 4 4, (.slice (some ⟨bp, 0, none⟩) s.post.length cp), .pointer (some ⟨gc, 0, none⟩), .int .i64 (s.n : Int)][i]? := fun i => (hw' ⟨g, i, none⟩ rfl).trans (cV i); go_simp))
  (repeat (first | (refine First.wpF_pure (fun K hK => ?_); go_simp; first | (refine hK _ _ ?_; clear hK K) | (apply Exists.intro; refine ⟨fun _ => ?_, hK _ _ ?_⟩; fail)) | (refine First.wpF_free (fun K hK => ?_); go_simp; first | (refine hK _ _ ?_; clear hK K))))
  refine first_readG rfl (v := .slice (some A2) (s.post.length - (k + 1)) (cp - (k + 1))) (fun w' hw' => ?_) (fun K hK => ?_)
  rotate_left 1
  go_simp
  refine hK _ _ ?_
  clear hK K
  rotate_left 1
  · go_simp
    rw [HA.out]
    split <;> rfl
  (repeat (first | (refine First.wpF_pure (fun K hK => ?_); go_simp; first | (refine hK _ _ ?_; clear hK K) | (apply Exists.intro; refine ⟨fun _ => ?_, hK _ _ ?_⟩; fail)) | (refine First.wpF_free (fun K hK => ?_); go_simp; first | (refine hK _ _ ?_; clear hK K))))
  refine First.wpF_must (fun K hK => ?_)
  go_wp2
  (refine hK _ _ (fun hnd => by first | exact Bool.noConfusion hnd | exact hs1) ?_; clear hK K)
  refine First.wpF_must (fun K hK => ?_)
  go_wp2_with (at_builtin; refine wpList_append_run rfl (.tmp 111) (.tmp 117) 84 rfl rfl rfl r1 ?_)
  (refine hK _ _ (fun hnd => by first | exact Bool.noConfusion hnd | exact hs1.both hs2) ?_; clear hK K)
  refine First.wpF_must (fun K hK => ?_)
  go_wp2_with (at_builtin; refine wpList_append_run rfl (.tmp 118) (.tmp 125) 84 rfl rfl rfl r2 ?_)
  (refine hK _ _ (fun hnd => by first | exact Bool.noConfusion hnd | exact hs2.both hs3) ?_; clear hK K)
  (repeat (first | (refine First.wpF_pure (fun K hK => ?_); go_simp; first | (refine hK _ _ ?_; clear hK K) | (apply Exists.intro; refine ⟨fun _ => ?_, hK _ _ ?_⟩; fail)) | (refine First.wpF_free (fun K hK => ?_); go_simp; first | (refine hK _ _ ?_; clear hK K))))
  refine First.wpF_must (fun K hK => ?_)
  go_wp2
  (refine hK _ _ (fun hnd => by first | exact Bool.noConfusion hnd | exact hs3) ?_; clear hK K)
  refine First.wpF_nil ?_
  have hb18 : Below w.heap.size w w := Below.refl _ _
  have hpl8 : ¬OT o' pl := fun e => hpl2 (hg8'.T pl hPlV.lt e)
  have hPl8 : Blk (w3.setCell ⟨g, 2, none⟩ (.slice A'' (s.post.eraseIdx k).length c'')) pl 145 #[.int .i64 pf, .int .i64 (pt : Int), .int .i64 mg.k, .int .i64 mg.e, .int .i64 mg.v.e, .int .i64 mg.v.p, (.slice A1 mg.v.l.length c1), .int .i64 mg.i, .int .i64 mg.s, (.slice B1 mg.log.length d1), .int .i64 pv.e, .int .i64 pv.p, (.slice C1 pv.l.length f1)] := (hPlV.below hb3 hPlV.lt).far (p := ⟨g, 2, none⟩) (by show pl ≠ g; intro e; subst e; exact hpl2 (tg_OT hXV.og)) _
  have hPA8 : Blk (w3.setCell ⟨g, 2, none⟩ (.slice A'' (s.post.eraseIdx k).length c'')) w.heap.size 80 #[.int .i64 (2), .int .i64 a, .int .i64 b, .slice Am m cm] := (hPAV.below hb3 hPAV.lt).far (p := ⟨g, 2, none⟩) (by show w.heap.size ≠ g; have := h.blk.lt; omega) _
  have hLm8 : LmW (w3.setCell ⟨g, 2, none⟩ (.slice A'' (s.post.eraseIdx k).length c'')) (OT o') ⟨⟨pf, pt, mg, pv⟩, .slice A1 mg.v.l.length c1, .slice B1 mg.log.length d1, .slice C1 pv.l.length f1⟩ := (hLmV.sub hg8'.T).kp (hg8'.kp.weaken (hg8'.R hXV.lt))
  clear r1 r2 hs1 hs2 hs3 cw3 hB3 f3 l3 hPlV hPAV hLmV hb2 hb3 hXV cV lV
  generalize w3.setCell ⟨g, 2, none⟩ (.slice A'' (s.post.eraseIdx k).length c'') = w8 at *
  have cPl := hPl8.cell
  have lPl := hPl8.lt
  have cPA := hPA8.cell
  have lPA := hPA8.lt
  obtain ⟨cs, hrb, hrc⟩ := hX8.rb
  have hcn := hrc pt hpt
  have hX8b := hX8.blk
  have hng : ¬tg o' (11 + pt) g := fun e => by unfold tg at e; rw [hX8.og] at e; injection e with e; omega
  have hnb : ¬tg o' (11 + pt) br := fun e => by unfold tg at e; rw [hX8.obr] at e; injection e with e; omega
  have hnl8 : ¬tg o' (11 + pt) pl := fun e => hpl8 (tg_OT e)
  have hptI : (pt : Int) < 4 := by omega
  go_upto_region 21 with fail
  refine wp_region_kp (tg o' (11 + pt)) [3, 5, 7, 9, 11] [0, 1, 2, 4, 6, 8, 10, 13, 14, 15] [(true, false, 0), (true, false, 1), (true, false, 2), (true, true, 3), (true, false, 4), (true, true, 5), (true, false, 6), (true, true, 7), (true, false, 8), (true, true, 9), (true, false, 10), (true, true, 11), (false, true, 12), (true, false, 13), (true, false, 14), (true, false, 15), (false, false, 16), (false, false, 17)] (by kernel_rfl) (by kernel_rfl) (fun Y => ?_); simp only [List.map_cons, List.map_nil, List.getD_cons_zero, List.getD_cons_succ]
  (repeat (first | (refine First.wpF_pure (fun K hK => ?_); go_simp; first | (refine hK _ _ ?_; clear hK K) | (apply Exists.intro; refine ⟨fun _ => ?_, hK _ _ ?_⟩; fail)) | (refine First.wpF_free (fun K hK => ?_); go_simp; first | (refine hK _ _ ?_; clear hK K))))
  (refine first_readG rfl (v := .slice (some ⟨br, 0, none⟩) 4 cr) (fun w' hw' => ?_) (fun K hK => ?_); rotate_left 1; go_simp; refine hK _ _ ?_; clear hK K; rotate_left 1; (have hB' := Blk.kp (Blk.ext hX8b _) hw' hng; have c' := Blk.cell hB'; go_simp))
  (repeat (first | (refine First.wpF_pure (fun K hK => ?_); go_simp; first | (refine hK _ _ ?_; clear hK K) | (apply Exists.intro; refine ⟨fun _ => ?_, hK _ _ ?_⟩; fail)) | (refine First.wpF_free (fun K hK => ?_); go_simp; first | (refine hK _ _ ?_; clear hK K))))
  (refine first_readG rfl (v := .int .i64 (pt : Int)) (fun w' hw' => ?_) (fun K hK => ?_); rotate_left 1; go_simp; refine hK _ _ ?_; clear hK K; rotate_left 1; (have hB' := Blk.kp (Blk.ext hPl8 _) hw' hnl8; have c' := Blk.cell hB'; go_simp))
  (repeat (first | (refine First.wpF_pure (fun K hK => ?_); go_simp; first | (refine hK _ _ ?_; clear hK K) | (apply Exists.intro; refine ⟨fun _ => ?_, hK _ _ ?_⟩; fail)) | (refine First.wpF_free (fun K hK => ?_); go_simp; first | (refine hK _ _ ?_; clear hK K))))
  (refine first_readG rfl (v := .pointer (some ⟨gr pt, 0, none⟩)) (fun w' hw' => ?_) (fun K hK => ?_); rotate_left 1; go_simp; refine hK _ _ ?_; clear hK K; rotate_left 1; (have hB' := Blk.kp (Blk.ext hrb _) hw' hnb; have c' := Blk.cell hB'; go_simp))
  (repeat (first | (refine First.wpF_pure (fun K hK => ?_); go_simp; first | (refine hK _ _ ?_; clear hK K) | (apply Exists.intro; refine ⟨fun _ => ?_, hK _ _ ?_⟩; fail)) | (refine First.wpF_free (fun K hK => ?_); go_simp; first | (refine hK _ _ ?_; clear hK K))))
  (refine first_readG rfl (v := .int .i64 pf) (fun w' hw' => ?_) (fun K hK => ?_); rotate_left 1; go_simp; refine hK _ _ ?_; clear hK K; rotate_left 1; (have hB' := Blk.kp (Blk.ext hPl8 _) hw' hnl8; have c' := Blk.cell hB'; go_simp))
  (repeat (first | (refine First.wpF_pure (fun K hK => ?_); go_simp; first | (refine hK _ _ ?_; clear hK K) | (apply Exists.intro; refine ⟨fun _ => ?_, hK _ _ ?_⟩; fail)) | (refine First.wpF_free (fun K hK => ?_); go_simp; first | (refine hK _ _ ?_; clear hK K))))
  (refine first_readG rfl (v := .agg #[.int .i64 mg.k, .int .i64 mg.e, .int .i64 mg.v.e, .int .i64 mg.v.p, (.slice A1 mg.v.l.length c1), .int .i64 mg.i, .int .i64 mg.s, (.slice B1 mg.log.length d1)]) (fun w' hw' => ?_) (fun K hK => ?_); rotate_left 1; go_simp; refine hK _ _ ?_; clear hK K; rotate_left 1; (have hB' := Blk.kp (Blk.ext hPl8 _) hw' hnl8; have c' := Blk.cell hB'; go_simp))
  (repeat (first | (refine First.wpF_pure (fun K hK => ?_); go_simp; first | (refine hK _ _ ?_; clear hK K) | (apply Exists.intro; refine ⟨fun _ => ?_, hK _ _ ?_⟩; fail)) | (refine First.wpF_free (fun K hK => ?_); go_simp; first | (refine hK _ _ ?_; clear hK K))))
  have hby : Below w8.heap.size w8 (w8.ext Y) := World.below_ext w8 Y
  have hX9 := hX8.below hby
  have hg9 := hg8.trans (Goes.below (o := o') hby)
  have hPl9 := hPl8.ext Y
  have hM9 := ((hLm8.kp (Kp.of_below hby)).mg).sub (T' := tg o' (11 + pt)) (fun k _ ht => tg_OT ht)
  simp only at hM9
  generalize w8.ext Y = W9 at *
  have hLd := take_any_r pf mg (.slice A1 mg.v.l.length c1) (.slice B1 mg.log.length d1) W9 (hX9.rel pt hpt) hM9 (by omega)
  refine First.wpF_must (fun K hK => ?_)
  go_wp2_with (go_at_call 18; (with_reducible refine hLd.mono ?_); rintro e w10 hA; obtain ⟨o10, hX10, hg10, hk10, hok10, T10, ⟨R1, n1, d2, R2, n2, d3, rfl, hR10, hO10⟩, hsub⟩ := hX9.took hpt hA)
  (refine hK _ _ (fun hnd => by first | exact Bool.noConfusion hnd | exact hk10) ?_; clear hK K)
  (repeat (first | (refine First.wpF_pure (fun K hK => ?_); go_simp; first | (refine hK _ _ ?_; clear hK K) | (apply Exists.intro; refine ⟨fun _ => ?_, hK _ _ ?_⟩; fail)) | (refine First.wpF_free (fun K hK => ?_); go_simp; first | (refine hK _ _ ?_; clear hK K))))
  refine First.wpF_must (fun K hK => ?_)
  go_wp2
  (refine hK _ _ (fun hnd => by first | exact Bool.noConfusion hnd | exact hk10) ?_; clear hK K)
  refine First.wpF_must (fun K hK => ?_)
  go_wp2
  (refine hK _ _ (fun hnd => by first | exact Bool.noConfusion hnd | exact hk10) ?_; clear hK K)
  refine First.wpF_nil ?_
  have hR10' := hR10.sub (fun k _ hk => hsub k hk)
  have hO10' := hO10.sub (fun k _ hk => hsub k hk)
  have hPl10 : Blk w10 pl 145 #[.int .i64 pf, .int .i64 (pt : Int), .int .i64 mg.k, .int .i64 mg.e, .int .i64 mg.v.e, .int .i64 mg.v.p, (.slice A1 mg.v.l.length c1), .int .i64 mg.i, .int .i64 mg.s, (.slice B1 mg.log.length d1), .int .i64 pv.e, .int .i64 pv.p, (.slice C1 pv.l.length f1)] := Blk.kp hPl9 hk10 hnl8
  have cP10 := hPl10.cell
  have lP10 := hPl10.lt
  have hn1l : n1 ≤ 2 := by
    rw [← hR10.len]
    exact take_recs_len _ _ _
  have hn2l : n2 ≤ 1 := by
    rw [← hO10.len]
    exact take_outs_len _ _ _
  have hout := nout_any w10 hX10 hpt (c := d2) (d := d3) hR10' hO10' (by show (s.post.eraseIdx k).length ≤ 10000; have := List.length_eraseIdx_le s.post k; omega) (by have := hkl pt hpt; show (s.kept pt).length ≤ 10000; omega) (by omega) (by omega)
  go_wp2_with (go_at_call 85; (with_reducible refine hout.mono ?_); rintro e w11 ⟨rfl, o11, vp11, vk11, hX11, hg11⟩)
  go_ret
  exact does_mk hX11 ((hg9.trans hg10).trans hg11)
end Go.Proofs.Ytjhcgnmibnjocaa

/-! Nodes: a step: a letter is there once more. -/
namespace Go.Proofs.Ytjhcgnmibnjocaa
open Go.RowKit Go.Maps
set_option linter.unusedVariables false
set_option linter.unusedSimpArgs false
attribute [local irreducible] First.wpF
set_option maxRecDepth 100000 in
set_option maxHeartbeats 4000000 in
theorem does_three_none {o : Nat → Option Nat} {g br bk gc bm bs cr : Nat} {gr : Nat → Nat} {vp : Value} {vk : Nat → Value} {s : Nd} (w : World) (h : NdX w o g s br bk gc bm bs cr gr vp vk) (a b : Int) (Am : Option Addr) (m cm : Nat) (hpl : s.post.length ≤ 1000) (hkl : ∀ n, n < 4 → (s.kept n).length ≤ 1000) (hn1 : s.n ≤ 1000) (hlen : s.post = []) :
    Calls Try.prog 34 #[.pointer (some ⟨g, 0, none⟩), .agg #[.int .i64 (3), .int .i64 a, .int .i64 b, .slice Am m cm]] w (Does o g s w) := by
  have hna := nOf_eq a
  have hnl := nOf_lt a
  generalize nOf a = n at *
  have hke : 0 < s.post.length → wrap64 ((IntKind.u64.wrap b).tmod (s.post.length : Int)) = (kOf b s.post.length : Int) := fun h0 => kOf_eq b h0 (by omega)
  have hk0 : s.post.length = 0 → kOf b s.post.length = 0 := fun h0 => by rw [h0]; rfl
  have hkl0 : 0 < s.post.length → kOf b s.post.length < s.post.length := fun h0 => kOf_lt b h0
  generalize kOf b s.post.length = k at *
  obtain ⟨Ap, cp, hvp, _⟩ := h.po.sl
  subst hvp
  have c0 := h.blk.cell
  have l0 := h.blk.lt
  have hbA : Below w.heap.size w (w.alloc (.cells #[.int .i64 (3), .int .i64 a, .int .i64 b, .slice Am m cm] 80)) := Below.alloc (Below.refl _ _) (Nat.le_refl _) _
  have hP := Blk.new w 80 #[.int .i64 (3), .int .i64 a, .int .i64 b, .slice Am m cm]
  have hX0 := h.below hbA
  have HL := hide hlen
  clear hlen
  go_enter Try.func34, Try.ntmps34
  go_upto_if 32 with fail
  rw [hna]
  go_cut [6] (fun v6 wx => v6 = .int .i64 (k : Int) ∧ Below w.heap.size w wx ∧ Blk wx w.heap.size 80 #[.int .i64 (3), .int .i64 a, .int .i64 b, .slice Am m cm])
  case first =>
    rcases Nat.eq_zero_or_pos s.post.length with h0 | h0
    · have d0 : decide ((0 : Int) < s.post.length) = false := decide_eq_false (by omega)
      have d0' : decide (0 < s.post.length) = false := decide_eq_false (by omega)
      have hk00 := hk0 h0
      subst hk00
      rw [d0']
      clear h0
      go_wp2
      go_meet
      case rel => exact ⟨rfl, hbA, hP⟩
    · have d0 : decide ((0 : Int) < s.post.length) = true := decide_eq_true (by omega)
      have d0' : decide (0 < s.post.length) = true := decide_eq_true h0
      have hwl : IntKind.u64.wrap (s.post.length : Int) = (s.post.length : Int) := by rw [IntKind.wrap_u64]; omega
      have hz2 : ¬s.post = [] := fun e => by rw [e] at h0; cases h0
      have hkb := hke h0
      have hkb' : IntKind.i64.wrap ((IntKind.u64.wrap b).tmod (s.post.length : Int)) = (k : Int) := (IntWalk.i64_left _).trans hkb
      rw [d0']
      clear h0
      go_wp2
      refine wp_region_ext_lit (by kernel_rfl) (by kernel_rfl) ?_
      (repeat (first | ((with_reducible refine wpQuiet_step (fun K hK => ?_)); go_simp; first | ((with_reducible refine hK _ ?_); clear hK K) | (apply Exists.intro; (with_reducible refine ⟨fun _ => ?_, hK _ ?_⟩); skip; clear hK K)) | ((with_reducible refine quiet_skipN ?_ (fun K hK => ?_)); (rfl); go_simp; (with_reducible refine hK _ ?_); clear hK K)))
      (with_reducible refine wpQuiet_nil ?_); intro _ hw'; obtain ⟨Y, hw''⟩ := hw'; subst hw''
      go_wp2
      go_meet
      case rel => exact ⟨rfl, by (repeat' (first | with_reducible exact Below.refl _ _ | with_reducible refine Below.ext ?_ ?_ _ | with_reducible refine Below.alloc ?_ ?_ _ | with_reducible refine Below.setCell ?_ ?_ _ | with_reducible refine Below.drew ?_ | with_reducible assumption | (simp [World.size_ext]; done) | (simp [World.size_ext]; omega))), hP.ext Y⟩
  case rest =>
  clear hX0 hbA hP c0 l0
  obtain ⟨rfl, hbW, hP⟩ := hcut
  have hX := h.below hbW
  have hgW := Goes.below (o := o) hbW
  have cP := hP.cell
  have lP := hP.lt
  have cX := hX.blk.cell
  have lX := hX.blk.lt
  have hlen := HL.out
  go_wp2
  go_ret
  exact does_mk hX hgW
set_option maxRecDepth 100000 in
set_option maxHeartbeats 4000000 in
theorem does_three_full {o : Nat → Option Nat} {g br bk gc bm bs cr : Nat} {gr : Nat → Nat} {vp : Value} {vk : Nat → Value} {s : Nd} (w : World) (h : NdX w o g s br bk gc bm bs cr gr vp vk) (a b : Int) (Am : Option Addr) (m cm : Nat) (hpl : s.post.length ≤ 1000) (hkl : ∀ n, n < 4 → (s.kept n).length ≤ 1000) (hn1 : s.n ≤ 1000) (hlen : 300 ≤ s.post.length) :
    Calls Try.prog 34 #[.pointer (some ⟨g, 0, none⟩), .agg #[.int .i64 (3), .int .i64 a, .int .i64 b, .slice Am m cm]] w (Does o g s w) := by
  have hna := nOf_eq a
  have hnl := nOf_lt a
  generalize nOf a = n at *
  have hke : 0 < s.post.length → wrap64 ((IntKind.u64.wrap b).tmod (s.post.length : Int)) = (kOf b s.post.length : Int) := fun h0 => kOf_eq b h0 (by omega)
  have hk0 : s.post.length = 0 → kOf b s.post.length = 0 := fun h0 => by rw [h0]; rfl
  have hkl0 : 0 < s.post.length → kOf b s.post.length < s.post.length := fun h0 => kOf_lt b h0
  generalize kOf b s.post.length = k at *
  obtain ⟨Ap, cp, hvp, _⟩ := h.po.sl
  subst hvp
  have c0 := h.blk.cell
  have l0 := h.blk.lt
  have hbA : Below w.heap.size w (w.alloc (.cells #[.int .i64 (3), .int .i64 a, .int .i64 b, .slice Am m cm] 80)) := Below.alloc (Below.refl _ _) (Nat.le_refl _) _
  have hP := Blk.new w 80 #[.int .i64 (3), .int .i64 a, .int .i64 b, .slice Am m cm]
  have hX0 := h.below hbA
  have HL := hide hlen
  clear hlen
  go_enter Try.func34, Try.ntmps34
  go_upto_if 32 with fail
  rw [hna]
  go_cut [6] (fun v6 wx => v6 = .int .i64 (k : Int) ∧ Below w.heap.size w wx ∧ Blk wx w.heap.size 80 #[.int .i64 (3), .int .i64 a, .int .i64 b, .slice Am m cm])
  case first =>
    rcases Nat.eq_zero_or_pos s.post.length with h0 | h0
    · have d0 : decide ((0 : Int) < s.post.length) = false := decide_eq_false (by omega)
      have d0' : decide (0 < s.post.length) = false := decide_eq_false (by omega)
      have hk00 := hk0 h0
      subst hk00
      rw [d0']
      clear h0
      go_wp2
      go_meet
      case rel => exact ⟨rfl, hbA, hP⟩
    · have d0 : decide ((0 : Int) < s.post.length) = true := decide_eq_true (by omega)
      have d0' : decide (0 < s.post.length) = true := decide_eq_true h0
      have hwl : IntKind.u64.wrap (s.post.length : Int) = (s.post.length : Int) := by rw [IntKind.wrap_u64]; omega
      have hz2 : ¬s.post = [] := fun e => by rw [e] at h0; cases h0
      have hkb := hke h0
      have hkb' : IntKind.i64.wrap ((IntKind.u64.wrap b).tmod (s.post.length : Int)) = (k : Int) := (IntWalk.i64_left _).trans hkb
      rw [d0']
      clear h0
      go_wp2
      refine wp_region_ext_lit (by kernel_rfl) (by kernel_rfl) ?_
      (repeat (first | ((with_reducible refine wpQuiet_step (fun K hK => ?_)); go_simp; first | ((with_reducible refine hK _ ?_); clear hK K) | (apply Exists.intro; (with_reducible refine ⟨fun _ => ?_, hK _ ?_⟩); skip; clear hK K)) | ((with_reducible refine quiet_skipN ?_ (fun K hK => ?_)); (rfl); go_simp; (with_reducible refine hK _ ?_); clear hK K)))
      (with_reducible refine wpQuiet_nil ?_); intro _ hw'; obtain ⟨Y, hw''⟩ := hw'; subst hw''
      go_wp2
      go_meet
      case rel => exact ⟨rfl, by (repeat' (first | with_reducible exact Below.refl _ _ | with_reducible refine Below.ext ?_ ?_ _ | with_reducible refine Below.alloc ?_ ?_ _ | with_reducible refine Below.setCell ?_ ?_ _ | with_reducible refine Below.drew ?_ | with_reducible assumption | (simp [World.size_ext]; done) | (simp [World.size_ext]; omega))), hP.ext Y⟩
  case rest =>
  clear hX0 hbA hP c0 l0
  obtain ⟨rfl, hbW, hP⟩ := hcut
  have hX := h.below hbW
  have hgW := Goes.below (o := o) hbW
  have cP := hP.cell
  have lP := hP.lt
  have cX := hX.blk.cell
  have lX := hX.blk.lt
  have d3 : decide ((s.post.length : Int) < 300) = false := decide_eq_false (by have := HL.out; omega)
  have d3' : decide (s.post.length < 300) = false := decide_eq_false (by have := HL.out; omega)
  have d4' : decide (0 < s.post.length) = true := decide_eq_true (by have := HL.out; omega)
  go_wp2
  go_ret
  exact does_mk hX hgW
set_option maxRecDepth 100000 in
set_option maxHeartbeats 4000000 in
theorem does_three {o : Nat → Option Nat} {g br bk gc bm bs cr : Nat} {gr : Nat → Nat} {vp : Value} {vk : Nat → Value} {s : Nd} (w : World) (h : NdX w o g s br bk gc bm bs cr gr vp vk) (a b : Int) (Am : Option Addr) (m cm : Nat) (hpl : s.post.length ≤ 1000) (hkl : ∀ n, n < 4 → (s.kept n).length ≤ 1000) (hn1 : s.n ≤ 1000) (p : Lt) (hp0 : s.post[kOf b s.post.length]? = some p) (hlen0 : s.post.length < 300) :
    Calls Try.prog 34 #[.pointer (some ⟨g, 0, none⟩), .agg #[.int .i64 (3), .int .i64 a, .int .i64 b, .slice Am m cm]] w (Does o g { s with post := s.post ++ [p] } w) := by
  have hna := nOf_eq a
  have hnl := nOf_lt a
  generalize nOf a = n at *
  have hke : 0 < s.post.length → wrap64 ((IntKind.u64.wrap b).tmod (s.post.length : Int)) = (kOf b s.post.length : Int) := fun h0 => kOf_eq b h0 (by omega)
  have hk0 : s.post.length = 0 → kOf b s.post.length = 0 := fun h0 => by rw [h0]; rfl
  have hkl0 : 0 < s.post.length → kOf b s.post.length < s.post.length := fun h0 => kOf_lt b h0
  generalize kOf b s.post.length = k at *
  obtain ⟨Ap, cp, hvp, _⟩ := h.po.sl
  subst hvp
  have c0 := h.blk.cell
  have l0 := h.blk.lt
  have hbA : Below w.heap.size w (w.alloc (.cells #[.int .i64 (3), .int .i64 a, .int .i64 b, .slice Am m cm] 80)) := Below.alloc (Below.refl _ _) (Nat.le_refl _) _
  have hP := Blk.new w 80 #[.int .i64 (3), .int .i64 a, .int .i64 b, .slice Am m cm]
  have hX0 := h.below hbA
  have HL : Hid (0 < s.post.length) := hide (by have := (List.getElem?_eq_some_iff.1 hp0).1; omega)
  have HP0 := hide hp0
  have HM := hide hlen0
  clear hp0 hlen0
  go_enter Try.func34, Try.ntmps34
  go_upto_if 32 with fail
  rw [hna]
  go_cut [6] (fun v6 wx => v6 = .int .i64 (k : Int) ∧ Below w.heap.size w wx ∧ Blk wx w.heap.size 80 #[.int .i64 (3), .int .i64 a, .int .i64 b, .slice Am m cm])
  case first =>
    rcases Nat.eq_zero_or_pos s.post.length with h0 | h0
    · have d0 : decide ((0 : Int) < s.post.length) = false := decide_eq_false (by omega)
      have d0' : decide (0 < s.post.length) = false := decide_eq_false (by omega)
      have hk00 := hk0 h0
      subst hk00
      rw [d0']
      clear h0
      go_wp2
      go_meet
      case rel => exact ⟨rfl, hbA, hP⟩
    · have d0 : decide ((0 : Int) < s.post.length) = true := decide_eq_true (by omega)
      have d0' : decide (0 < s.post.length) = true := decide_eq_true h0
      have hwl : IntKind.u64.wrap (s.post.length : Int) = (s.post.length : Int) := by rw [IntKind.wrap_u64]; omega
      have hz2 : ¬s.post = [] := fun e => by rw [e] at h0; cases h0
      have hkb := hke h0
      have hkb' : IntKind.i64.wrap ((IntKind.u64.wrap b).tmod (s.post.length : Int)) = (k : Int) := (IntWalk.i64_left _).trans hkb
      rw [d0']
      clear h0
      go_wp2
      refine wp_region_ext_lit (by kernel_rfl) (by kernel_rfl) ?_
      (repeat (first | ((with_reducible refine wpQuiet_step (fun K hK => ?_)); go_simp; first | ((with_reducible refine hK _ ?_); clear hK K) | (apply Exists.intro; (with_reducible refine ⟨fun _ => ?_, hK _ ?_⟩); skip; clear hK K)) | ((with_reducible refine quiet_skipN ?_ (fun K hK => ?_)); (rfl); go_simp; (with_reducible refine hK _ ?_); clear hK K)))
      (with_reducible refine wpQuiet_nil ?_); intro _ hw'; obtain ⟨Y, hw''⟩ := hw'; subst hw''
      go_wp2
      go_meet
      case rel => exact ⟨rfl, by (repeat' (first | with_reducible exact Below.refl _ _ | with_reducible refine Below.ext ?_ ?_ _ | with_reducible refine Below.alloc ?_ ?_ _ | with_reducible refine Below.setCell ?_ ?_ _ | with_reducible refine Below.drew ?_ | with_reducible assumption | (simp [World.size_ext]; done) | (simp [World.size_ext]; omega))), hP.ext Y⟩
  case rest =>
  clear hX0 hbA hP c0 l0
  obtain ⟨rfl, hbW, hP⟩ := hcut
  have hX := h.below hbW
  have hgW := Goes.below (o := o) hbW
  have cP := hP.cell
  have lP := hP.lt
  have cX := hX.blk.cell
  have lX := hX.blk.lt
  have d3 : decide ((s.post.length : Int) < 300) = true := decide_eq_true (by have := HM.out; omega)
  have d4 : decide ((0 : Int) < s.post.length) = true := decide_eq_true (by have := HL.out; omega)
  have d3' : decide (s.post.length < 300) = true := decide_eq_true HM.out
  have d4' : decide (0 < s.post.length) = true := decide_eq_true HL.out
  have hlen := HL.out
  have hk := hkl0 hlen
  have hp := HP0.out
  clear HP0
  obtain ⟨bp, cap, cur, lm, hvp, hBp, hlx, hLm, hlc, hcm, hcl⟩ := hX.po.at_ hp
  simp only [Value.slice.injEq] at hvp
  obtain ⟨rfl, -, rfl⟩ := hvp
  obtain ⟨⟨pf, pt, mg, pv⟩, vm, vl, vw⟩ := lm
  simp only at hlx
  subst hlx
  obtain ⟨⟨A1, c1, e1, _, _⟩, B1, d1, e2, _⟩ := hLm.mg
  obtain ⟨C1, f1, e3, _, _⟩ := hLm.vw
  simp only at e1 e2 e3
  subst e1 e2 e3
  have q0 := hcl 0 _ rfl
  have q1 := hcl 1 _ rfl
  have q2 := hcl 2 _ rfl
  have q3 := hcl 3 _ rfl
  have q4 := hcl 4 _ rfl
  have q5 := hcl 5 _ rfl
  have q6 := hcl 6 _ rfl
  have q7 := hcl 7 _ rfl
  have q8 := hcl 8 _ rfl
  have q9 := hcl 9 _ rfl
  have q10 := hcl 10 _ rfl
  have q11 := hcl 11 _ rfl
  have q12 := hcl 12 _ rfl
  rw [Nat.add_zero] at q0
  have cBp := hBp.cell
  have lBp := hBp.lt
  have hki : (k : Int) < s.post.length := by omega
  go_upto_region 25 with fail
  have hXb := hX.blk
  refine wp_region_same (fun a => a.block = g ∨ ∃ i, i < 13 ∧ a = ⟨bp, k * 13 + i, none⟩) [4, 8, 11] [0, 1, 2, 3, 5, 6, 7, 9, 10, 14, 15] [(true, false, 0), (true, false, 1), (true, false, 2), (true, false, 3), (true, true, 4), (true, false, 5), (true, false, 6), (true, false, 7), (true, true, 8), (true, false, 9), (true, false, 10), (true, true, 11), (false, true, 12), (false, true, 13), (true, false, 14), (true, false, 15), (false, false, 16)] (by kernel_rfl) (by kernel_rfl) (fun X => ?_); simp only [List.map_cons, List.map_nil, List.getD_cons_zero, List.getD_cons_succ]
  have hbx : Below wc.heap.size wc (wc.ext X) := World.below_ext wc X
  have hXV := hX.below hbx
  have hgV := hgW.trans (Goes.below (o := o) hbx)
  have hLmV := hLm.kp (Kp.of_below hbx)
  have hBV := hBp.ext X
  generalize wc.ext X = V at *
  have cV := hXV.blk.cell
  have lV := hXV.blk.lt
  have cB := hBV.cell
  have lB := hBV.lt
  (repeat (first | (refine First.wpF_pure (fun K hK => ?_); go_simp; first | (refine hK _ _ ?_; clear hK K) | (apply Exists.intro; refine ⟨fun _ => ?_, hK _ _ ?_⟩; fail)) | (refine First.wpF_free (fun K hK => ?_); go_simp; first | (refine hK _ _ ?_; clear hK K))))
  (refine first_readG rfl (v := .slice (some ⟨bp, 0, none⟩) s.post.length cp) (fun w' hw' => ?_) (fun K hK => ?_); rotate_left 1; go_simp; refine hK _ _ ?_; clear hK K; rotate_left 1; (have cg : ∀ i, w'.cell? ⟨g, i, none⟩ = #[.slice (some ⟨br, 0, none⟩) 4 cr, .slice (some ⟨bk, 0, none⟩) 4 4, (.slice (some ⟨bp, 0, none⟩) s.post.length cp), .pointer (some ⟨gc, 0, none⟩), .int .i64 (s.n : Int)][i]? := fun i => (hw' ⟨g, i, none⟩ (.inl rfl)).trans (cV i); go_simp))
  (repeat (first | (refine First.wpF_pure (fun K hK => ?_); go_simp; first | (refine hK _ _ ?_; clear hK K) | (apply Exists.intro; refine ⟨fun _ => ?_, hK _ _ ?_⟩; fail)) | (refine First.wpF_free (fun K hK => ?_); go_simp; first | (refine hK _ _ ?_; clear hK K))))
  (refine first_readG rfl (v := .slice (some ⟨bp, 0, none⟩) s.post.length cp) (fun w' hw' => ?_) (fun K hK => ?_); rotate_left 1; go_simp; refine hK _ _ ?_; clear hK K; rotate_left 1; (have cg : ∀ i, w'.cell? ⟨g, i, none⟩ = #[.slice (some ⟨br, 0, none⟩) 4 cr, .slice (some ⟨bk, 0, none⟩) 4 4, (.slice (some ⟨bp, 0, none⟩) s.post.length cp), .pointer (some ⟨gc, 0, none⟩), .int .i64 (s.n : Int)][i]? := fun i => (hw' ⟨g, i, none⟩ (.inl rfl)).trans (cV i); go_simp))
  (repeat (first | (refine First.wpF_pure (fun K hK => ?_); go_simp; first | (refine hK _ _ ?_; clear hK K) | (apply Exists.intro; refine ⟨fun _ => ?_, hK _ _ ?_⟩; fail)) | (refine First.wpF_free (fun K hK => ?_); go_simp; first | (refine hK _ _ ?_; clear hK K))))
  (refine first_readG rfl (v := .agg #[.int .i64 pf, .int .i64 (pt : Int), .int .i64 mg.k, .int .i64 mg.e, .int .i64 mg.v.e, .int .i64 mg.v.p, (.slice A1 mg.v.l.length c1), .int .i64 mg.i, .int .i64 mg.s, (.slice B1 mg.log.length d1), .int .i64 pv.e, .int .i64 pv.p, (.slice C1 pv.l.length f1)]) (fun w' hw' => ?_) (fun K hK => ?_); rotate_left 1; go_simp; refine hK _ _ ?_; clear hK K; rotate_left 1; (have z0 := (hw' ⟨bp, k * 13, none⟩ (.inr ⟨0, by omega, rfl⟩)).trans ((cB _).trans q0); have z1 := (hw' ⟨bp, k * 13 + 1, none⟩ (.inr ⟨1, by omega, rfl⟩)).trans ((cB _).trans q1); have z2 := (hw' ⟨bp, k * 13 + 2, none⟩ (.inr ⟨2, by omega, rfl⟩)).trans ((cB _).trans q2); have z3 := (hw' ⟨bp, k * 13 + 3, none⟩ (.inr ⟨3, by omega, rfl⟩)).trans ((cB _).trans q3); have z4 := (hw' ⟨bp, k * 13 + 4, none⟩ (.inr ⟨4, by omega, rfl⟩)).trans ((cB _).trans q4); have z5 := (hw' ⟨bp, k * 13 + 5, none⟩ (.inr ⟨5, by omega, rfl⟩)).trans ((cB _).trans q5); have z6 := (hw' ⟨bp, k * 13 + 6, none⟩ (.inr ⟨6, by omega, rfl⟩)).trans ((cB _).trans q6); have z7 := (hw' ⟨bp, k * 13 + 7, none⟩ (.inr ⟨7, by omega, rfl⟩)).trans ((cB _).trans q7); have z8 := (hw' ⟨bp, k * 13 + 8, none⟩ (.inr ⟨8, by omega, rfl⟩)).trans ((cB _).trans q8); have z9 := (hw' ⟨bp, k * 13 + 9, none⟩ (.inr ⟨9, by omega, rfl⟩)).trans ((cB _).trans q9); have z10 := (hw' ⟨bp, k * 13 + 10, none⟩ (.inr ⟨10, by omega, rfl⟩)).trans ((cB _).trans q10); have z11 := (hw' ⟨bp, k * 13 + 11, none⟩ (.inr ⟨11, by omega, rfl⟩)).trans ((cB _).trans q11); have z12 := (hw' ⟨bp, k * 13 + 12, none⟩ (.inr ⟨12, by omega, rfl⟩)).trans ((cB _).trans q12); go_simp))
  (repeat (first | (refine First.wpF_pure (fun K hK => ?_); go_simp; first | (refine hK _ _ ?_; clear hK K) | (apply Exists.intro; refine ⟨fun _ => ?_, hK _ _ ?_⟩; fail)) | (refine First.wpF_free (fun K hK => ?_); go_simp; first | (refine hK _ _ ?_; clear hK K))))
  obtain ⟨m2, hm2⟩ : ∃ m : Lm, m = ⟨⟨pf, pt, mg, pv⟩, .slice A1 mg.v.l.length c1, .slice B1 mg.log.length d1, .slice C1 pv.l.length f1⟩ := ⟨_, rfl⟩
  have hmW : LmW V (OT o) m2 := by rw [hm2]; exact hLmV
  obtain ⟨cs, hcs⟩ : ∃ cs, cs = m2.cells.toArray := ⟨_, rfl⟩
  have hb3 : Below V.heap.size V (V.alloc (.cells cs 145)) := Below.alloc (Below.refl _ _) (Nat.le_refl _) _
  have hmx : m2.x = ⟨pf, pt, mg, pv⟩ := by rw [hm2]
  have hX3 := hXV.below hb3
  have hms2 : ∀ x ∈ [m2], LmW (V.alloc (.cells cs 145)) (OT o) x := fun x hx => by rw [List.mem_singleton] at hx; rw [hx]; exact hmW.kp (Kp.of_below hb3)
  obtain ⟨v', w4, o4, A4, c4, hv4, hrun, hX4, hB4, hk4, hg4⟩ := hX3.app (ms := [m2]) hms2 (c := 1) (lm_reads m2 hcs rfl) (by omega) (by simp)
  subst hv4
  obtain ⟨i0, hi, hz0, hz1, hz2⟩ := info_parts infoLt
  obtain ⟨ns, hnse, hown3, _⟩ := hX3.po
  have hold := run_appS (t := 84) (ty := 84) (e := 145) Try.underlying84 hi hz0 hz1 hz2 rfl (by decide) hown3 (ad := ⟨V.heap.size, 0, none⟩) (m := 1) (c := 1) (news := lmV [m2]) (lmV_length [m2]) (fun j u hu => by rw [hcs]; exact cells_new V _ _ j u (by simpa [lmV, rowsV] using hu)) (lmV_one hms2) (by omega) (by unfold maxLen; omega) (by omega) hrun bp rfl
  have hsv : SameG (fun a => a.block = g ∨ ∃ i, i < 13 ∧ a = ⟨bp, k * 13 + i, none⟩) V (V.alloc (.cells cs 145)) := SameG.below hb3 (fun a ha => by
    rcases ha with ha | ⟨i, _, ha⟩
    · rw [ha]; exact lV
    · rw [ha]; exact lB)
  have hs4 : SameG (fun a => a.block = g ∨ ∃ i, i < 13 ∧ a = ⟨bp, k * 13 + i, none⟩) (V.alloc (.cells cs 145)) w4 := fun a ha => by
    rcases ha with ha | ⟨i, hi13, ha⟩
    · exact hk4.cell (p := a) (by rw [ha]; simp; omega) (fun e => by rw [ha] at e; unfold tg at e; rw [hXV.og] at e; cases e)
    · rw [ha]; exact hold _ (by omega)
  rw [hm2] at hcs
  simp only [List.map_cons, List.map_nil, hmx] at hX4
  rw [hcs] at hrun hg4 hsv hs4
  clear hold hown3 hms2 hX3 hmW hm2 hmx hb3 hcs hX
  have hg5 := hgV.trans ((Goes.below (Below.alloc (Below.refl _ _) (Nat.le_refl _) _)).trans hg4)
  have c4' := hB4.cell
  have f4 := hB4.frozen
  have l4 := hB4.lt
  refine First.wpF_must (fun K hK => ?_)
  go_wp2
  (refine hK _ _ (fun hnd => by first | exact Bool.noConfusion hnd | exact hsv) ?_; clear hK K)
  refine First.wpF_must (fun K hK => ?_)
  go_wp2_with (at_builtin; refine wpList_append_run rfl (.tmp 196) (.tmp 204) 84 rfl rfl rfl hrun ?_)
  (refine hK _ _ (fun hnd => by first | exact Bool.noConfusion hnd | exact hs4) ?_; clear hK K)
  (repeat (first | (refine First.wpF_pure (fun K hK => ?_); go_simp; first | (refine hK _ _ ?_; clear hK K) | (apply Exists.intro; refine ⟨fun _ => ?_, hK _ _ ?_⟩; fail)) | (refine First.wpF_free (fun K hK => ?_); go_simp; first | (refine hK _ _ ?_; clear hK K))))
  refine First.wpF_must (fun K hK => ?_)
  go_wp2
  (refine hK _ _ (fun hnd => by first | exact Bool.noConfusion hnd | exact hs4) ?_; clear hK K)
  refine First.wpF_nil ?_
  go_wp2
  go_ret
  exact does_mk hX4 hg5
end Go.Proofs.Ytjhcgnmibnjocaa
