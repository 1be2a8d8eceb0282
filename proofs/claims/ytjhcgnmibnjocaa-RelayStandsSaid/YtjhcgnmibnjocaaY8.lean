import Derived.Test.YtjhcgnmibnjocaaY7
/-! Records. -/
namespace Go.Proofs.Ytjhcgnmibnjocaa
open Go.RowKit Go.Maps
set_option linter.unusedVariables false
set_option linter.unusedSimpArgs false
theorem Ents.later {w w' : World} {T : Nat → Prop} {A : Option Addr} {n : Nat} {l : List Ent} (h : Ents w T A n l) (hb : Below w.heap.size w w') : Ents w' (fun k => w.heap.size ≤ k) A n l :=
  (h.sub (T' := fun k => w.heap.size ≤ k) (fun k hk h => by omega)).kp ⟨hb.os, hb.tape, hb.output, hb.size, fun k hk _ => hb.block k hk⟩
theorem Ents.wr {w w' : World} {T : Nat → Prop} {A : Option Addr} {n : Nat} {l : List Ent} (h : Ents w T A n l) (hb : Below w.heap.size w w') {base g : Nat} {t : TypeId} {v : Value} {xs : List Nat} (hw : Wrt w' base g t v xs) (hbase : w.heap.size ≤ base) :
    Ents w' (fun k => k = g ∨ v.ownBlock = some k) A n l :=
  (h.later hb).sub fun k hk h => by
    rcases h with rfl | h
    · exact Nat.le_trans hbase hw.ge
    · exact Nat.le_trans hbase (hw.row.ge h).1
theorem Bsl.later {w w' : World} {T : Nat → Prop} {v : Value} {t : List Nat} (h : Bsl w T v t) (hb : Below w.heap.size w w') : Bsl w' (fun k => w.heap.size ≤ k) v t :=
  (h.sub (T' := fun k => w.heap.size ≤ k) (fun k hk h => by omega)).kp ⟨hb.os, hb.tape, hb.output, hb.size, fun k hk _ => hb.block k hk⟩
theorem Ents.one {w : World} {T : Nat → Prop} {v : Value} {x : Ent} (h : Bsl w T v x.t) (hx : x.ok) (hT : ¬T w.heap.size) : Ents (w.alloc (.cells #[.int .i64 x.e, v] 103)) T (some ⟨w.heap.size, 0, none⟩) 1 [x] := by
  have hb : Below w.heap.size w (w.alloc (.cells #[.int .i64 x.e, v] 103)) := Below.alloc (Below.refl _ _) (Nat.le_refl _) _
  refine ⟨⟨[⟨x, v⟩], rfl, ⟨rfl, fun _ => ⟨_, rfl, by simp, fun j u hu => ?_⟩⟩, fun m hm => ?_⟩, rfl, fun _ a ha => by cases ha; exact hT⟩
  · rw [add_plain, (Blk.new w 103 #[.int .i64 x.e, v]).cell, Nat.zero_add]
    have : emV [⟨x, v⟩] = [.int .i64 x.e, v] := rfl
    rw [this] at hu
    simpa using hu
  · simp only [List.mem_singleton] at hm
    subst hm
    exact ⟨h.kp ⟨hb.os, hb.tape, hb.output, hb.size, fun k hk _ => hb.block k hk⟩, hx⟩
theorem Ents.oneW {w w' : World} {T : Nat → Prop} {v : Value} {x : Ent} (h : Bsl w T v x.t) (hx : x.ok) (hb : Below w.heap.size w w') {base g : Nat} {t : TypeId} {u : Value} {xs : List Nat} (hw : Wrt w' base g t u xs) (hbase : w.heap.size ≤ base) :
    Ents (w'.alloc (.cells #[.int .i64 x.e, v] 103)) (fun k => k = g ∨ u.ownBlock = some k) (some ⟨w'.heap.size, 0, none⟩) 1 [x] := by
  refine Ents.one ((h.later hb).sub fun k hk ht => ?_) hx fun ht => ?_
  · rcases ht with rfl | ht
    · exact Nat.le_trans hbase hw.ge
    · exact Nat.le_trans hbase (hw.row.ge ht).1
  · rcases ht with ht | ht
    · have := hw.blk.lt; omega
    · have := (hw.row.ge ht).2; omega
set_option maxRecDepth 100000 in
set_option maxHeartbeats 4000000 in
theorem recLog_any {T : Nat → Prop} (e : Int) (A : Option Addr) (n c : Nat) (l : List Ent) (w : World) (h : Ents w T A n l) (hn : n ≤ 4096) (he : I64 e) :
    Calls Try.prog 54 #[.int .i64 e, .slice A n c] w fun r w' => ∃ u, r = .returned u ∧ Row w' w.heap.size u (recLogP e l) ∧ Below w.heap.size w w' := by
  have hok := h.okAll
  have hln := h.len
  have h1 := entsB_le hok
  have h2 := numB_le n (by omega)
  have h3 := numB_le _ (zig_lt _ he)
  have h4 := numB_le 3 (by omega)
  have hN := fun v w' hw => num_any w.heap.size w.heap.size v [] 3 w' hw (by unfold U64; omega) (by simp)
  simp only [List.nil_append] at hN
  rw [show (3 : Int).toNat = 3 from rfl] at hN
  go_enter Try.func54, Try.ntmps54
  go_wp2_with (first | (go_at_call 64; (with_reducible refine (new_any _).mono ?_); rintro r w1 ⟨rfl, hw1, hb1⟩) | (go_at_call 90; (with_reducible refine (hN _ _ hw1).mono ?_); rintro r w2 ⟨rfl, v2, hw2, hc2⟩; have hb2 := hb1.trans (hc2.below hw1)) | (go_at_call 65; (with_reducible refine (int_any _ _ _ _ e _ hw2 he (by omega)).mono ?_); rintro r w3 ⟨rfl, v3, hw3, hc3⟩; have hb3 := hb2.trans (hc3.below hw2)) | (go_at_call 67; (with_reducible refine (putLog_any _ _ _ _ A n c l _ hw3 (h.wr hb3 hw3 (Nat.le_refl _)) hn (by simp only [List.length_append]; omega)).mono ?_); rintro r w4 ⟨rfl, v4, hw4, hc4⟩; have hb4 := hb3.trans (hc4.below hw3)) | (go_at_call 68; (with_reducible refine (bytes_any _ _ _ _ _ hw4 (by simp only [List.length_append, logB]; rw [hln]; omega)).mono ?_); rintro r w5 ⟨u, rfl, hu, hb5⟩; have hs4 := hb4.size))
  refine bodyPost_ret (v := u) (by simp [results, Try.results54, go_sem] <;> rfl) rfl ⟨u, rfl, ?_, hb4.trans (hb5.mono hs4)⟩
  have := hu.base hs4
  simpa [recLogP, List.append_assoc] using this
set_option maxRecDepth 100000 in
set_option maxHeartbeats 4000000 in
theorem recEntry_any {T : Nat → Prop} (at_ : Nat) (x : Ent) (v : Value) (w : World) (h : Bsl w T v x.t) (hx : x.ok) (hat : at_ ≤ 4096) :
    Calls Try.prog 49 #[.int .i64 (at_ : Int), .agg #[.int .i64 x.e, v]] w fun r w' => ∃ u, r = .returned u ∧ Row w' w.heap.size u (recEntryP at_ x) ∧ Below w.heap.size w w' := by
  obtain ⟨vA, vn, vc, rfl⟩ := h.sl
  have h1 := entB_le hx
  have ha : I64 (at_ : Int) := by unfold I64; omega
  have h3 := numB_le _ (zig_lt _ ha)
  have h4 := numB_le 2 (by omega)
  have h5 := numB_le 1 (by omega)
  have h6 : (logB [x]).length ≤ 262171 := by
    have := entsB_le (l := [x]) (fun y hy => by simp only [List.mem_singleton] at hy; rw [hy]; exact hx)
    have e : [x].length = 1 := rfl
    simp only [logB, List.length_append, e] at *
    omega
  have hP := Blk.new w 103 #[.int .i64 x.e, (.slice vA vn vc)]
  have hb0 : Below w.heap.size w (w.alloc (.cells #[.int .i64 x.e, (.slice vA vn vc)] 103)) := Below.alloc (Below.refl _ _) (Nat.le_refl _) _
  have hN := fun g u w' hw => num_any g g u [] 2 w' hw (by unfold U64; omega) (by simp)
  simp only [List.nil_append] at hN
  rw [show (2 : Int).toNat = 2 from rfl] at hN
  go_enter Try.func49, Try.ntmps49
  go_wp2_with (first | (go_at_call 64; (with_reducible refine (new_any _).mono ?_); rintro r w1 ⟨rfl, hw1, hb1⟩; (simp only [World.size_alloc] at hw1); have hb01 := hb0.trans (hb1.mono (by simp)); have hP1 := hP.below hb1 (by simp)) | (go_at_call 90; (with_reducible refine (hN _ _ _ hw1).mono ?_); rintro r w2 ⟨rfl, v2, hw2, hc2⟩; have hb2 := hc2.below hw1; have hb02 := hb01.trans (hb2.mono (by omega)); have hP2 := hP1.below hb2 (by omega)) | (go_at_call 65; (with_reducible refine (int_any _ _ _ _ _ _ hw2 ha (by omega)).mono ?_); rintro r w3 ⟨rfl, v3, hw3, hc3⟩; have hb3 := hc3.below hw2; have hb03 := hb02.trans (hb3.mono (by omega)); have hP3 := hP2.below hb3 (by omega); have cP3 := hP3.cell; have lP3 := hP3.lt; have hw3' := hw3.below (Below.alloc (Below.refl _ _) (Nat.le_refl _) (.cells #[.int .i64 x.e, (.slice vA vn vc)] 103)); have hB3 := (h.later hb03); have hs3 := hb03.size) | (go_at_call 67; (with_reducible refine (putLog_any _ _ _ _ _ 1 1 [x] _ hw3' (Ents.oneW h hx hb03 hw3 (by omega)) (by omega) (by simp only [List.length_append]; omega)).mono ?_); rintro r w4 ⟨rfl, v4, hw4, hc4⟩; have hb4 := ((Below.alloc hb03 hs3 (.cells #[.int .i64 x.e, (.slice vA vn vc)] 103))).trans ((hc4.below hw3').mono (by omega))) | (go_at_call 68; (with_reducible refine (bytes_any _ _ _ _ _ hw4 (by simp only [List.length_append]; omega)).mono ?_); rintro r w5 ⟨u, rfl, hu, hb5⟩; have hs4 := hb4.size))
  refine bodyPost_ret (v := u) (by simp [results, Try.results49, go_sem] <;> rfl) rfl ⟨u, rfl, ?_, hb4.trans (hb5.mono hs4)⟩
  have := hu.base hs4
  simpa [recEntryP, List.append_assoc] using this
set_option maxRecDepth 100000 in
set_option maxHeartbeats 4000000 in
theorem recPromise_any (A : Option Addr) (c : Nat) (v : Vi) (w : World) (hr : Reads w w.heap.size 1 A v.l.length (ints v.l)) (hv : v.right = true) :
    Calls Try.prog 43 #[.agg #[.int .i64 v.e, .int .i64 v.p, .slice A v.l.length c]] w fun r w' => ∃ u, r = .returned u ∧ Row w' w.heap.size u (recPromiseP v) ∧ Below w.heap.size w w' := by
  have hbd := right_bd hv
  have hm := rising_mem hbd.2.2.1
  have hl8 := rising_len hbd.2.2.1
  have he : I64 v.e := by unfold I64; omega
  have hp : I64 v.p := by have := hm _ hbd.2.2.2; unfold I64; omega
  have hl64 : ∀ x ∈ v.l, I64 x := fun x hx => by have := hm x hx; unfold I64; omega
  have h1 := numB_le _ (zig_lt _ he)
  have h2 := numB_le _ (zig_lt _ hp)
  have h3 := numB_le v.l.length (by omega)
  have h4 := numB_le 1 (by omega)
  have h5 := tailB_le hl64
  have hP := Blk.new w 39 #[.int .i64 v.e, .int .i64 v.p, .slice A v.l.length c]
  have hb0 : Below w.heap.size w (w.alloc (.cells #[.int .i64 v.e, .int .i64 v.p, .slice A v.l.length c] 39)) := Below.alloc (Below.refl _ _) (Nat.le_refl _) _
  have hN := fun g u w' hw => num_any g g u [] 1 w' hw (by unfold U64; omega) (by simp)
  simp only [List.nil_append] at hN
  rw [show (1 : Int).toNat = 1 from rfl] at hN
  have hA0 : 0 < v.l.length → ∀ b, A = some b → b.block < w.heap.size := fun h0 b hb => by
    obtain ⟨a, e', h, _⟩ := hr.2 h0
    rw [hb] at e'; cases e'; exact h
  go_enter Try.func43, Try.ntmps43
  go_wp2_with (first | (go_at_call 64; (with_reducible refine (new_any _).mono ?_); rintro r w1 ⟨rfl, hw1, hb1⟩; (simp only [World.size_alloc] at hw1); have hb01 := hb0.trans (hb1.mono (by simp)); have hP1 := hP.below hb1 (by simp)) | (go_at_call 90; (with_reducible refine (hN _ _ _ hw1).mono ?_); rintro r w2 ⟨rfl, v2, hw2, hc2⟩; have hb2 := hc2.below hw1; have hb02 := hb01.trans (hb2.mono (by omega)); have hP2 := hP1.below hb2 (by omega); have cP2 := hP2.cell; have lP2 := hP2.lt) | (go_at_call 66; (with_reducible refine (vput_any _ _ _ _ v.e v.p A _ c v.l _ hw2 ((hr.below hb02).more hb02.size) (fun h0 a ha hk => hk.elim (fun e => (by have := hA0 h0 a ha; omega)) (fun e => (by have := (hw2.row.ge e).1; have := hA0 h0 a ha; omega))) he hp hl64 (by omega) (by omega)).mono ?_); rintro r w4 ⟨rfl, v4, hw4, hc4⟩; have hb4 := hb02.trans ((hc4.below hw2).mono (by omega))) | (go_at_call 68; (with_reducible refine (bytes_any _ _ _ _ _ hw4 (by simp only [List.length_append, viewB]; omega)).mono ?_); rintro r w5 ⟨u, rfl, hu, hb5⟩; have hs4 := hb4.size))
  refine bodyPost_ret (v := u) (by simp [results, Try.results43, go_sem] <;> rfl) rfl ⟨u, rfl, ?_, hb4.trans (hb5.mono hs4)⟩
  have := hu.base hs4
  simpa [recPromiseP, List.append_assoc] using this
end Go.Proofs.Ytjhcgnmibnjocaa
