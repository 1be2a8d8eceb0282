import Derived.Test.YthajbeooemngpaaChg
/-! A view that is let hold. -/
namespace Go.Proofs.Ythajbeooemngpaa
open Go.RowKit
set_option linter.unusedVariables false
set_option linter.unusedSimpArgs false
theorem RowAt.only {w w' : World} {b g cap : Nat} {l : List Int} (h : RowAt w b l cap) (ho : Only w w' g) (hne : b ≠ g) : RowAt w' b l cap := h.keep (ho.block b h.lt hne)
theorem RowAt.below {w w' : World} {b cap : Nat} {l : List Int} (h : RowAt w b l cap) (hb : Below w.heap.size w w') : RowAt w' b l cap := h.keep (hb.block b h.lt)
theorem own_only {w w' : World} {base size n g : Nat} {e : TypeId} {v : Value} {xs : List Value} (h : w.ownsRow base e size v n xs) (ho : Only w w' g) (hg : g < base) : w'.ownsRow base e size v n xs :=
  own_keep h fun k hk hlt => ho.block k hlt (by omega)
theorem Both2.set_ {w W : World} {g s : Nat} (h : Both2 w W g s) {p : Addr} (hp : p.block = g ∨ p.block = s ∨ w.heap.size ≤ p.block) (u : Value) : Both2 w (W.setCell p u) g s :=
  ⟨h.os, h.tape, h.output, by simpa using h.size, fun k hk hg hs => (Below.heap_setCell W p u k (by omega)).trans (h.block k hk hg hs)⟩
theorem Both2.alloc {w W : World} {g s : Nat} (h : Both2 w W g s) (o : Obj) : Both2 w (W.alloc o) g s := h.trans (Both2.of_below (Below.alloc (Below.refl _ _) (Nat.le_refl _) o))
theorem Both2.ext {w W : World} {g s : Nat} (h : Both2 w W g s) (X : Ext) : Both2 w (W.ext X) g s := h.trans (Both2.of_below (World.below_ext W X))
theorem Both2.of_only' {w w' : World} {g s : Nat} (h : Only w w' s) : Both2 w w' g s := ⟨h.os, h.tape, h.output, h.size, fun k hk _ h2 => h.block k hk h2⟩
theorem RowAt.reads' {w : World} {b cap n : Nat} {l : List Int} (h : RowAt w b l cap) (hl : l.length = n) : Reads w w.heap.size 1 (some ⟨b, 0, none⟩) n (ints l) := by
  subst hl
  exact h.reads
theorem Reads.both {w w' : World} {g s size n : Nat} {A : Option Addr} {xs : List Value} (h : Reads w w.heap.size size A n xs) (ho : Both2 w w' g s) (hg : 0 < n → ∀ a, A = some a → a.block ≠ g) (hs : 0 < n → ∀ a, A = some a → a.block ≠ s) : Reads w' w'.heap.size size A n xs :=
  ⟨h.1, fun hn => by
    obtain ⟨ad, e, hb, hc⟩ := h.2 hn
    refine ⟨ad, e, Nat.lt_of_lt_of_le hb ho.size, fun j u hu => ?_⟩
    have : w'.cell? (ad.add j) = w.cell? (ad.add j) := by
      unfold World.cell?
      rw [ho.block (ad.add j).block (by rw [block_of_add]; exact hb) (by rw [block_of_add]; exact hg hn _ e) (by rw [block_of_add]; exact hs hn _ e)]
    exact this.trans (hc j u hu)⟩
set_option maxRecDepth 100000 in
set_option maxHeartbeats 4000000 in
theorem change_yes (g bm bs : Nat) (k : Vw) (n : Int) (A : Option Addr) (m c : Nat) (ms : List Int) (w : World) (h : Ctl w g bm bs k) (hr : Reads w w.heap.size 1 A m (ints ms)) (hm : m * 8 ≤ 140737488355328) (hs : k.ss.length * 8 ≤ 140737488355328) (he : changeE k n ms = 0) (he1 : 1 ≤ k.e)
    (hAg : 0 < m → ∀ a, A = some a → a.block ≠ g) (hAs : 0 < m → ∀ a, A = some a → a.block ≠ bs) :
    Calls Try.prog 27 #[.pointer (some ⟨g, 0, none⟩), .int .i64 n, .slice A m c] w fun r w' => (∃ v bm' B5, r = .returned (.tuple #[.agg #[.int .i64 (k.e + 1), .int .i64 n, v], .int .i64 0]) ∧ w'.ownsRow B5 3 1 v m (ints ms) ∧ Ctl w' g bm' bs ⟨k.e + 1, n, ms, k.ss.filter (hasB ms)⟩ ∧ w.heap.size ≤ bm' ∧ bm' < B5) ∧ Both2 w w' g bs := by
  obtain ⟨cm, cs, h1, h2, h3, h4, h5, h6⟩ := h
  have hml := reads_len hr
  have hr' : ∀ o1 o2 X, Reads (((w.alloc o1).alloc o2).ext X) (((w.alloc o1).alloc o2).ext X).heap.size 1 A m (ints ms) := fun o1 o2 X => (((hr.alloc (Nat.le_refl _) o1).alloc (by simp) o2).ext (by simp; omega) X).more (by simp [World.size_ext]; omega)
  have hr2 : ∀ o1 o2, Reads ((w.alloc o1).alloc o2) ((w.alloc o1).alloc o2).heap.size 1 A m (ints ms) := fun o1 o2 => ((hr.alloc (Nat.le_refl _) o1).alloc (by simp) o2).more (by simp; omega)
  have hR : ∀ o1 o2, _ := fun o1 o2 => rising_any A m c ms ((w.alloc o1).alloc o2) (hr2 o1 o2) (by omega)
  have hH : ∀ o1 o2, _ := fun o1 o2 => has_any A m c ms n ((w.alloc o1).alloc o2) (hr2 o1 o2) (by omega)
  have hS : ∀ o1 o2, _ := fun o1 o2 => has_any _ _ cs k.ss n ((w.alloc o1).alloc o2) (((h3.alloc o1).alloc o2).reads) (by omega)
  have hC : ∀ o1 o2 X, _ := fun o1 o2 X => clone_any A m c ms (((w.alloc o1).alloc o2).ext X) (hr' o1 o2 X) hm
  have hms : hasB ms n = true := by
    unfold changeE at he
    split at he
    · simp at he
    · rename_i h; simp at h; exact h.2
  have hu : risingB ms = true := by
    unfold changeE at he
    split at he
    · simp at he
    · rename_i h; simp at h; exact h.1
  have hss : hasB k.ss n = true := by
    unfold changeE at he
    split at he
    · simp at he
    · split at he
      · simp at he
      · rename_i h; simpa using h
  have hb' : ¬4611686018427387904 ≤ k.e := by
    unfold changeE at he
    split at he
    · simp at he
    · split at he
      · simp at he
      · split at he
        · simp at he
        · assumption
  have hb : decide (4611686018427387904 ≤ k.e) = false := decide_eq_false hb'
  rw [hms] at hH
  rw [hu] at hR
  rw [hss] at hS
  have hm0 : 0 < m := by
    rw [← hml]
    exact List.length_pos_of_mem (hasB_mem.1 hms)
  have c1 := h1.cell
  have l1 := h1.lt
  have f1 := h1.frozen
  have H := hide (⟨h1, h2, h3⟩ : _ ∧ _ ∧ _)
  have hrH := hide hr
  clear hr hr' hr2 h1 h2 h3 he hms hss hu
  go_enter Try.func27, Try.ntmps27
  go_wp2_with (first | (go_at_call 74; (with_reducible refine (hR _ _).mono ?_); rintro e w1 ⟨rfl, rfl⟩) | (go_at_call 75; (with_reducible refine (hH _ _).mono ?_); rintro e w1 ⟨rfl, rfl⟩) | (go_at_call 75; (with_reducible refine (hS _ _).mono ?_); rintro e w1 ⟨rfl, rfl⟩))
  refine First.wp_region_first_ext [5, 8] [0, 1, 2, 3, 4, 6, 7, 10, 11, 12] [(true, false, 0), (true, false, 1), (true, false, 2), (true, false, 3), (true, false, 4), (true, true, 5), (true, false, 6), (true, false, 7), (true, true, 8), (false, true, 9), (true, false, 10), (true, false, 11), (true, false, 12), (false, false, 13)] (by kernel_rfl) (by kernel_rfl) (fun X => ?_); simp only [List.map_cons, List.map_nil, List.getD_cons_zero, List.getD_cons_succ]
  (repeat (first | (refine First.wpF_pure (fun K hK => ?_); go_simp; first | (refine hK _ _ ?_; clear hK K) | (apply Exists.intro; refine ⟨fun _ => ?_, hK _ _ ?_⟩; fail)) | (refine First.wpF_free (fun K hK => ?_); go_simp; first | (refine hK _ _ ?_; clear hK K))))
  refine First.wpF_must (fun K hK => ?_)
  go_wp2_with (go_at_call 76; (with_reducible refine (hC _ _ _).mono ?_); rintro e w2 ⟨⟨v, rfl, ho1⟩, hb1⟩; obtain ⟨b1, k1, rfl, hg1, hR1⟩ := RowAt.of_own' ho1 hm0 hml; obtain ⟨Y, rfl⟩ := World.ext_of_below hb1; clear hb1 ho1)
  (refine hK _ _ (fun hnd => by first | exact Bool.noConfusion hnd | assumption | with_reducible exact grown_alloc _ _ | with_reducible exact First.Grown.refl _ | with_reducible exact First.Grown.cat _ _ _ | with_reducible exact First.Grown.ext _ _) ?_; clear hK K)
  (repeat (first | (refine First.wpF_pure (fun K hK => ?_); go_simp; first | (refine hK _ _ ?_; clear hK K) | (apply Exists.intro; refine ⟨fun _ => ?_, hK _ _ ?_⟩; fail)) | (refine First.wpF_free (fun K hK => ?_); go_simp; first | (refine hK _ _ ?_; clear hK K))))
  refine First.wpF_must (fun K hK => ?_)
  go_wp2
  (refine hK _ _ (fun hnd => by first | exact Bool.noConfusion hnd | assumption | with_reducible exact grown_alloc _ _ | with_reducible exact First.Grown.refl _ | with_reducible exact First.Grown.cat _ _ _ | with_reducible exact First.Grown.ext _ _) ?_; clear hK K)
  refine First.wpF_nil ?_
  obtain ⟨h1, h2, h3⟩ := H.out
  have hr := hrH.out
  have q1 := h1.lt
  have q2 := h2.lt
  have q3 := h3.lt
  have p1 := hR1.lt
  simp only [World.size_ext, World.size_alloc, Ext.size_cat] at p1 hg1
  have hgq : g ≠ w.heap.size := by omega
  have hgr : g ≠ w.heap.size + 1 := by omega
  have hsq : bs ≠ w.heap.size := by omega
  have hsr : bs ≠ w.heap.size + 1 := by omega
  have h1g : b1 ≠ g := by omega
  have h1s : b1 ≠ bs := by omega
  have h1q : b1 ≠ w.heap.size := by omega
  have h1r : b1 ≠ w.heap.size + 1 := by omega
  have hqr : w.heap.size ≠ w.heap.size + 1 := by omega
  have h1w : w.heap.size ≤ b1 := by omega
  have HB : Both2 w ((((((w.alloc (.cells #[.slice A m c] 54)).alloc (.cells #[.int .i64 0, .int .i64 0, .slice none 0 0] 56)).ext (X.cat Y)).setCell ⟨g, 0, none⟩ (.int .i64 (k.e + 1))).setCell ⟨g, 1, none⟩ (.int .i64 n)).setCell ⟨g, 2, none⟩ (.slice (some ⟨b1, 0, none⟩) m k1)) g bs :=
    (((((((Both2.refl w g bs).alloc _).alloc _).ext _).set_ (.inl rfl) _).set_ (.inl rfl) _).set_ (.inl rfl) _)
  refine abstr (fun W => Blk W g 127 #[.int .i64 (k.e + 1), .int .i64 n, .slice (some ⟨b1, 0, none⟩) m k1, .slice (some ⟨bs, 0, none⟩) k.ss.length cs] ∧ RowAt W b1 ms k1 ∧ RowAt W bs k.ss cs ∧ Blk W w.heap.size 54 #[.slice A m c] ∧ Blk W (w.heap.size + 1) 56 #[.int .i64 0, .int .i64 0, .slice none 0 0] ∧ Reads W W.heap.size 1 A m (ints ms) ∧ Both2 w W g bs)
    ⟨((((((Blk.ext ((h1.alloc _).alloc _) _).set_ 0 _).set_ 1 _).set_ 2 _))), ?_, ?_, ?_, ?_, Reads.both hr HB hAg hAs, HB⟩ (fun W hW => ?_)
  · rw [World.ext_ext] at hR1
    exact ((hR1.set_ (by exact h1g) _).set_ (by exact h1g) _).set_ (by exact h1g) _
  · exact (((((h3.alloc _).alloc _).ext _).set_ (by exact fun e => h5 e.symm) _).set_ (by exact fun e => h5 e.symm) _).set_ (by exact fun e => h5 e.symm) _
  · exact (((((Blk.new w _ _).alloc _).ext _).far (by exact hgq.symm) _).far (by exact hgq.symm) _).far (by exact hgq.symm) _
  · exact ((((Blk.made w _ _ _).ext _).far (by exact hgr.symm) _).far (by exact hgr.symm) _).far (by exact hgr.symm) _
  clear hr hrH H h1 h2 h3 HB hR1 hC hR hH hS c1 f1 l1 hg1 p1
  obtain ⟨hG, hR1, hRs, hQ, hZ, hr, hB⟩ := hW
  have cG := hG.cell
  have fG := hG.frozen
  have lG := hG.lt
  have cQ := hQ.cell 0
  have lQ := hQ.lt
  have hB0 := hB.size
  have hD := delete_any w.heap.size bs cs k.ss.length k.ss A m c ms W hRs rfl hs cQ hsq.symm lQ hr hAs (by omega)
  rw [show keptL ms k.ss k.ss.length = k.ss.filter (hasB ms) from by unfold keptL; rw [List.take_length]] at hD
  have H := hide (⟨hG, hR1, hZ, hB⟩ : _ ∧ _ ∧ _ ∧ _)
  have hqr' := hqr.symm
  have hgq' := hgq.symm
  have hgr' := hgr.symm
  have h5' := h5.symm
  have hzr : w.heap.size + 1 < W.heap.size := hZ.lt
  clear hr hQ hRs cQ
  go_wp2_with (first | (go_at_call 77; (with_reducible refine hD.mono ?_); rintro e w3 ⟨rfl, hRd, ho3⟩; have hS3 := ho3.size; have hG3 := Blk.only H.out.1 ho3 h5; have cG3 := hG3.cell; have fG3 := hG3.frozen; have lG3 := hG3.lt; have hR3 := RowAt.only H.out.2.1 ho3 h1s) | (go_at_call 79; (with_reducible refine (twin_any _ _ _ _ _ ms _ (RowAt.reads' (RowAt.set_ hR3 (by exact h1g) _) hml) hm).mono ?_); rintro e w4 ⟨⟨v, rfl, ho⟩, hb4⟩; obtain ⟨A1, cap, rfl, hcap⟩ := own_sl ho; have hZ3 := Blk.below (Blk.far (Blk.only H.out.2.2.1 ho3 hsr.symm) (p := ⟨g, 3, none⟩) (by exact hgr.symm) _) hb4 (by simp; omega); have cZ := hZ3.cell; have fZ := hZ3.frozen; have lZ := hZ3.lt))
  obtain ⟨-, -, -, hB⟩ := H.out
  have hs4 := hb4.size
  simp only [World.size_setCell] at hs4
  have hG4 := Blk.below (hG3.set_ 3 (.slice (some ⟨bs, 0, none⟩) (k.ss.filter (hasB ms)).length cs)) hb4 (by simpa using hG3.lt)
  have hR4 := RowAt.below (RowAt.set_ hR3 (p := ⟨g, 3, none⟩) (by exact h1g) (.slice (some ⟨bs, 0, none⟩) (k.ss.filter (hasB ms)).length cs)) hb4
  have hS4 := RowAt.below (RowAt.set_ hRd (p := ⟨g, 3, none⟩) (by exact h5.symm) (.slice (some ⟨bs, 0, none⟩) (k.ss.filter (hasB ms)).length cs)) hb4
  refine bodyPost_cell_tmp Try.results27 rfl (Blk.three hZ3) Try.underlying56 rfl (by kernel_rfl) rfl ⟨⟨_, b1, _, rfl, own_set (own_set (own_set ho (by simp; omega) _) (by simp; omega) _) (by simp; omega) _, ⟨k1, cs, ?_, ?_, ?_, h1g.symm, h5, h1s⟩, h1w, by have := hR3.lt; simpa using this⟩, ?_⟩
  · have := ((hG4.far (p := ⟨w.heap.size + 1, 0, none⟩) (by exact hgr) (.int .i64 (k.e + 1))).far (p := ⟨w.heap.size + 1, 1, none⟩) (by exact hgr) (.int .i64 n)).far (p := ⟨w.heap.size + 1, 2, none⟩) (by exact hgr) (.slice A1 m cap)
    simp only [hml]
    exact this
  · exact ((hR4.set_ (by exact h1r) _).set_ (by exact h1r) _).set_ (by exact h1r) _
  · exact ((hS4.set_ (by exact hsr) _).set_ (by exact hsr) _).set_ (by exact hsr) _
  · exact (((((hB.trans (Both2.of_only' ho3)).set_ (.inl rfl) _).trans (Both2.of_below hb4)).set_ (.inr (.inr (by simp))) _).set_ (.inr (.inr (by simp))) _).set_ (.inr (.inr (by simp))) _
end Go.Proofs.Ythajbeooemngpaa
