import Derived.Test.YtghinjnhcepaeaaCh5
import Derived.Test.YtghinjnhcepaeaaTree
/-! The program's chain: Put. -/
namespace Go.Proofs.Ytghinjnhcepaeaa
open Go.RowKit
set_option linter.unusedVariables false
set_option linter.unusedSimpArgs false
theorem own_keep {w w' : World} {base size n : Nat} {e : TypeId} {v : Value} {xs : List Value} (h : w.ownsRow base e size v n xs) (hk : ∀ k, base ≤ k → k < w.heap.size → w'.heap[k]? = w.heap[k]?) : w'.ownsRow base e size v n xs := by
  refine ⟨h.1, ?_⟩
  rcases h.2 with h' | ⟨g, cap, cur, hv, hb, hh, r⟩
  · exact .inl h'
  · exact .inr ⟨g, cap, cur, hv, hb, (hk g hb (Blk.lt hh)).trans hh, r⟩
theorem own_ext {w : World} {base size n : Nat} {e : TypeId} {v : Value} {xs : List Value} (h : w.ownsRow base e size v n xs) (X : Ext) : (w.ext X).ownsRow base e size v n xs :=
  own_keep h fun k _ hk => World.heap_ext hk
theorem own_alloc {w : World} {base size n : Nat} {e : TypeId} {v : Value} {xs : List Value} (h : w.ownsRow base e size v n xs) (o : Obj) : (w.alloc o).ownsRow base e size v n xs :=
  own_keep h fun k _ hk => Below.heap_alloc w o k hk
set_option maxRecDepth 100000 in
set_option maxHeartbeats 4000000 in
theorem place_any (A : Option Addr) (n c : Nat) (l : List Ver) (t : Ver) (w : World) (hr : Reads w w.heap.size 6 A n (vsV l)) (hn : n ≤ 4611686018427387904) (hs : Srt l) (hok : ∀ x ∈ l, x.ok) (ht : t.ok) :
    Calls Try.prog 27 #[.slice A n c, .agg #[.int .i64 t.a, .int .u32 t.b, .int .u32 t.c]] w fun e w' => e = .returned (.tuple #[.int .i64 (cntK l t.k : Nat), .bool (hasK l t.k)]) ∧ Below w.heap.size w w' := by
  have hr1 := (hr.alloc (Nat.le_refl _) (.cells #[.int .i64 t.a, .int .u32 t.b, .int .u32 t.c] 29)).more (B' := (w.alloc (.cells #[.int .i64 t.a, .int .u32 t.b, .int .u32 t.c] 29)).heap.size) (by simp)
  have hP := bsearch_any A n c l t _ hr1 hn hs hok ht
  go_enter Try.func27, Try.ntmps27
  go_wp2_with (go_at_call 33; (with_reducible refine (hP).mono ?_); rintro e w' ⟨rfl, hb⟩; obtain ⟨X, rfl⟩ := World.ext_of_below hb; clear hb)
  go_ret2
  exact ⟨rfl, by (repeat' (first | with_reducible exact Below.refl _ _ | with_reducible refine Below.ext ?_ ?_ _ | with_reducible refine Below.alloc ?_ ?_ _ | with_reducible refine Below.setCell ?_ ?_ _ | with_reducible refine Below.drew ?_ | with_reducible assumption | (simp [World.size_ext]; done) | (simp [World.size_ext]; omega)))⟩
def putL (l : List Ver) (x : Ver) : List Ver := l.take (cntK l x.k) ++ x :: l.drop (cntK l x.k)
theorem vput_bad (v : Value) (x : Ver) (w : World) (h : vright x = false) :
    Calls Try.prog 21 #[v, .agg #[.int .i64 x.a, .int .u32 x.b, .int .u32 x.c, .int .i64 x.kd, .int .i64 x.num, .string x.text]] w fun e w' => e = .returned (.tuple #[.slice none 0 0, .int .i64 1]) ∧ Below w.heap.size w w' := by
  have hP := vright_any x
  rw [h] at hP
  go_enter Try.func21, Try.ntmps21
  go_wp2_with (go_at_call 9; (with_reducible refine (hP _).mono ?_); rintro e w' ⟨rfl, hb⟩; obtain ⟨X, rfl⟩ := World.ext_of_below hb; clear hb)
  go_ret2
  exact ⟨rfl, by (repeat' (first | with_reducible exact Below.refl _ _ | with_reducible refine Below.ext ?_ ?_ _ | with_reducible refine Below.alloc ?_ ?_ _ | with_reducible refine Below.setCell ?_ ?_ _ | with_reducible refine Below.drew ?_ | with_reducible assumption | (simp [World.size_ext]; done) | (simp [World.size_ext]; omega)))⟩
set_option maxRecDepth 100000 in
set_option maxHeartbeats 4000000 in
theorem vput_twice (A : Option Addr) (n c : Nat) (l : List Ver) (x : Ver) (w : World) (hr : Reads w w.heap.size 6 A n (vsV l)) (hn : n ≤ 4611686018427387904) (hs : Srt l) (hok : ∀ x ∈ l, x.ok) (ht : x.ok) (h : vright x = true) (h2 : hasK l x.k = true) :
    Calls Try.prog 21 #[.slice A n c, .agg #[.int .i64 x.a, .int .u32 x.b, .int .u32 x.c, .int .i64 x.kd, .int .i64 x.num, .string x.text]] w fun e w' => e = .returned (.tuple #[.slice none 0 0, .int .i64 7]) ∧ Below w.heap.size w w' := by
  have hP := vright_any x
  rw [h] at hP
  have hQ := fun w hr => place_any A n c l x w hr hn hs hok ht
  rw [h2] at hQ
  have hr1 := (hr.alloc (Nat.le_refl _) (.cells (#[.int .i64 x.a, .int .u32 x.b, .int .u32 x.c, .int .i64 x.kd, .int .i64 x.num, .string x.text]) 31)).more (B' := (w.alloc (.cells (#[.int .i64 x.a, .int .u32 x.b, .int .u32 x.c, .int .i64 x.kd, .int .i64 x.num, .string x.text]) 31)).heap.size) (by simp)
  go_enter Try.func21, Try.ntmps21
  go_wp2_with (first | (go_at_call 9; (with_reducible refine (hP _).mono ?_); rintro e w' ⟨rfl, hb⟩; obtain ⟨X, rfl⟩ := World.ext_of_below hb; clear hb) | (go_at_call 27; (with_reducible refine (hQ _ (Reads.grown hr1 X)).mono ?_); rintro e w' ⟨rfl, hb⟩; obtain ⟨X, rfl⟩ := World.ext_of_below hb; clear hb))
  go_ret2
  exact ⟨rfl, by (repeat' (first | with_reducible exact Below.refl _ _ | with_reducible refine Below.ext ?_ ?_ _ | with_reducible refine Below.alloc ?_ ?_ _ | with_reducible refine Below.setCell ?_ ?_ _ | with_reducible refine Below.drew ?_ | with_reducible assumption | (simp [World.size_ext]; done) | (simp [World.size_ext]; omega)))⟩
set_option maxRecDepth 100000 in
set_option maxHeartbeats 4000000 in
theorem vput_yes (A : Option Addr) (n c : Nat) (l : List Ver) (x : Ver) (w : World) (hr : Reads w w.heap.size 6 A n (vsV l)) (hn : (n + 1) * 48 ≤ 140737488355328) (hs : Srt l) (hok : ∀ x ∈ l, x.ok) (ht : x.ok) (h : vright x = true) (h2 : hasK l x.k = false) :
    Calls Try.prog 21 #[.slice A n c, .agg #[.int .i64 x.a, .int .u32 x.b, .int .u32 x.c, .int .i64 x.kd, .int .i64 x.num, .string x.text]] w fun e w' => (∃ u, e = .returned (.tuple #[u, .int .i64 0]) ∧ w'.ownsRow w.heap.size 31 6 u (n + 1) (vsV (putL l x))) ∧ Below w.heap.size w w' := by
  have hP := vright_any x
  rw [h] at hP
  have hQ := fun w hr => place_any A n c l x w hr (by omega) hs hok ht
  rw [h2] at hQ
  have hr1 := (hr.alloc (Nat.le_refl _) (.cells (#[.int .i64 x.a, .int .u32 x.b, .int .u32 x.c, .int .i64 x.kd, .int .i64 x.num, .string x.text]) 31)).more (B' := (w.alloc (.cells (#[.int .i64 x.a, .int .u32 x.b, .int .u32 x.c, .int .i64 x.kd, .int .i64 x.num, .string x.text]) 31)).heap.size) (by simp)
  go_enter Try.func21, Try.ntmps21
  go_wp2_with (first | (go_at_call 9; (with_reducible refine (hP _).mono ?_); rintro e w' ⟨rfl, hb⟩; obtain ⟨X, rfl⟩ := World.ext_of_below hb; clear hb) | (go_at_call 27; (with_reducible refine (hQ _ (Reads.grown hr1 X)).mono ?_); rintro e w' ⟨rfl, hb⟩; obtain ⟨X, rfl⟩ := World.ext_of_below hb; clear hb))
  have hBx := Blk.new w 31 (#[.int .i64 x.a, .int .u32 x.b, .int .u32 x.c, .int .i64 x.kd, .int .i64 x.num, .string x.text])
  refine abstr (fun W => Below w.heap.size w W ∧ Blk W w.heap.size 31 (#[.int .i64 x.a, .int .u32 x.b, .int .u32 x.c, .int .i64 x.kd, .int .i64 x.num, .string x.text]) ∧ Reads W W.heap.size 6 A n (vsV l)) ⟨by (repeat' (first | with_reducible exact Below.refl _ _ | with_reducible refine Below.ext ?_ ?_ _ | with_reducible refine Below.alloc ?_ ?_ _ | with_reducible refine Below.setCell ?_ ?_ _ | with_reducible refine Below.drew ?_ | with_reducible assumption | (simp [World.size_ext]; done) | (simp [World.size_ext]; omega))), hBx.ext _, Reads.grown hr1 _⟩ (fun W hW => ?_)
  obtain ⟨hbW, hBW, hrW⟩ := hW
  clear hBx hr hr1 hP hQ
  have cB := hBW.cell
  have lB := hBW.lt
  have hi : cntK l x.k ≤ n := by have := vreads_len hrW; rw [← this]; exact List.countP_le_length
  refine First.wp_region_tree_ext [3] [0, 2] (.fork [(true, false, 0), (true, false, 2), (true, true, 3)] true 1 (.leaf [(false, false, 4), (false, false, 5), (false, false, 6), (false, false, 7)]) false 4 (.leaf [(false, false, 1), (false, false, 5), (false, false, 6), (false, false, 7)])) (by kernel_rfl) (by kernel_rfl) (fun Y0 => ?_); simp only [First.wpT, List.map_cons, List.map_nil, List.getD_cons_zero, List.getD_cons_succ]
  (repeat (first | (refine First.wpF_pure (fun K hK => ?_); go_simp; first | (refine hK _ _ ?_; clear hK K) | (apply Exists.intro; refine ⟨fun _ => ?_, hK _ _ ?_⟩; fail)) | (refine First.wpF_free (fun K hK => ?_); go_simp; first | (refine hK _ _ ?_; clear hK K))))
  refine First.wpF_nil ?_
  refine First.Both.mk ?_ ?_
  · refine First.wpF_must (fun K hK => ?_)
    go_wp2_with (go_at_call 30; (with_reducible refine (vclone_any A n c l _ (Reads.grown hrW Y0) (by omega)).mono ?_); rintro e w1 ⟨⟨v, rfl, ho1⟩, hb1⟩)
    have hgr : First.Grown _ w1 := World.ext_of_below hb1
    (refine hK _ _ (fun hnd => by first | exact Bool.noConfusion hnd | assumption | with_reducible exact grown_alloc _ _ | with_reducible exact First.Grown.refl _ | with_reducible exact First.Grown.cat _ _ _ | with_reducible exact First.Grown.ext _ _) ?_; clear hK K)
    refine First.wpF_nil ?_
    have hs1 := hb1.size
    have lW := (World.below_ext W Y0).size
    have ho2 := own_base (own_alloc ho1 (.cells (#[.int .i64 x.a, .int .u32 x.b, .int .u32 x.c, .int .i64 x.kd, .int .i64 x.num, .string x.text]) 31)) (by omega : w.heap.size ≤ _)
    refine First.wpF_must (fun K hK => ?_)
    go_wp2
    (refine hK _ _ (fun hnd => by first | exact Bool.noConfusion hnd | assumption | with_reducible exact grown_alloc _ _ | with_reducible exact First.Grown.refl _ | with_reducible exact First.Grown.cat _ _ _ | with_reducible exact First.Grown.ext _ _) ?_; clear hK K)
    have hqv : v.ownBlock ≠ some w1.heap.size := by
      rcases ho1.2 with ⟨rfl, _⟩ | ⟨g, cap, cur, rfl, _, hg, _⟩
      · simp [Value.ownBlock]
      · have := Blk.lt hg
        simp [Value.ownBlock]; omega
    have hI := insert_any w.heap.size v n (cntK l x.k) l x w1.heap.size _ ho2 hi (by simp; omega) (Blk.new w1 _ _) hqv hn
    have hbF := hbW.trans (((World.below_ext W Y0).trans (hb1.mono lW)).mono (Nat.le_of_lt lB))
    refine First.wpF_must (fun K hK => ?_)
    go_wp2_with (go_at_call 31; (with_reducible refine hI.mono ?_); rintro e w2 ⟨⟨u, rfl, ho2⟩, hb2⟩)
    (refine hK _ _ (fun hnd => by first | exact Bool.noConfusion hnd | assumption | with_reducible exact grown_alloc _ _ | with_reducible exact First.Grown.refl _ | with_reducible exact First.Grown.cat _ _ _ | with_reducible exact First.Grown.ext _ _) ?_; clear hK K)
    (repeat (refine First.wpF_must (fun K hK => ?_); go_wp2; (refine hK _ _ (fun hnd => by first | exact Bool.noConfusion hnd | assumption | with_reducible exact grown_alloc _ _ | with_reducible exact First.Grown.refl _ | with_reducible exact First.Grown.cat _ _ _ | with_reducible exact First.Grown.ext _ _) ?_; clear hK K)))
    refine First.wpF_nil ?_
    go_wp2
    go_ret2
    exact ⟨⟨_, rfl, ho2⟩, (hbF.alloc (by omega) _).trans hb2⟩
  · refine First.wpF_must (fun K hK => ?_)
    go_wp2
    (refine hK _ _ (fun hnd => by first | exact Bool.noConfusion hnd | assumption | with_reducible exact grown_alloc _ _ | with_reducible exact First.Grown.refl _ | with_reducible exact First.Grown.cat _ _ _ | with_reducible exact First.Grown.ext _ _) ?_; clear hK K)
    refine First.wpF_nil ?_
    refine First.wpF_must (fun K hK => ?_)
    have hY := Reads.grown hrW Y0
    have hY2 := (hY.alloc (Nat.le_refl _) (.cells (#[.int .i64 x.a, .int .u32 x.b, .int .u32 x.c, .int .i64 x.kd, .int .i64 x.num, .string x.text]) 31)).more (B' := ((W.ext Y0).alloc (.cells (#[.int .i64 x.a, .int .u32 x.b, .int .u32 x.c, .int .i64 x.kd, .int .i64 x.num, .string x.text]) 31)).heap.size) (by simp)
    go_wp2_with (go_at_call 30; (with_reducible refine (vclone_any A n c l _ hY2 (by omega)).mono ?_); rintro e w1 ⟨⟨v, rfl, ho1⟩, hb1⟩)
    (refine hK _ _ (fun hnd => by first | exact Bool.noConfusion hnd | assumption | with_reducible exact grown_alloc _ _ | with_reducible exact First.Grown.refl _ | with_reducible exact First.Grown.cat _ _ _ | with_reducible exact First.Grown.ext _ _) ?_; clear hK K)
    have hs1 := hb1.size
    have lW := (World.below_ext W Y0).size
    have hBn := (Blk.new (W.ext Y0) 31 (#[.int .i64 x.a, .int .u32 x.b, .int .u32 x.c, .int .i64 x.kd, .int .i64 x.num, .string x.text])).below hb1 (by simp)
    have ho2 := own_base ho1 (by simp only [World.size_alloc]; omega : w.heap.size ≤ _)
    have hqv : v.ownBlock ≠ some (W.ext Y0).heap.size := by
      rcases ho1.2 with ⟨rfl, _⟩ | ⟨g, cap, cur, rfl, hge, hg, _⟩
      · simp [Value.ownBlock]
      · simp only [World.size_alloc] at hge
        simp only [Value.ownBlock, ne_eq, Option.some.injEq]; omega
    have hI := insert_any w.heap.size v n (cntK l x.k) l x _ _ ho2 hi (by simp only [World.size_alloc] at hs1; omega) hBn hqv hn
    simp only [World.size_ext] at hI
    refine First.wpF_must (fun K hK => ?_)
    go_wp2_with (go_at_call 31; (with_reducible refine hI.mono ?_); rintro e w2 ⟨⟨u, rfl, ho2⟩, hb2⟩)
    (refine hK _ _ (fun hnd => by first | exact Bool.noConfusion hnd | assumption | with_reducible exact grown_alloc _ _ | with_reducible exact First.Grown.refl _ | with_reducible exact First.Grown.cat _ _ _ | with_reducible exact First.Grown.ext _ _) ?_; clear hK K)
    (repeat (refine First.wpF_must (fun K hK => ?_); go_wp2; (refine hK _ _ (fun hnd => by first | exact Bool.noConfusion hnd | assumption | with_reducible exact grown_alloc _ _ | with_reducible exact First.Grown.refl _ | with_reducible exact First.Grown.cat _ _ _ | with_reducible exact First.Grown.ext _ _) ?_; clear hK K)))
    refine First.wpF_nil ?_
    go_wp2
    go_ret2
    have hbF := hbW.trans (((World.below_ext W Y0).alloc lW (.cells (#[.int .i64 x.a, .int .u32 x.b, .int .u32 x.c, .int .i64 x.kd, .int .i64 x.num, .string x.text]) 31)).mono (Nat.le_of_lt lB))
    exact ⟨⟨_, rfl, ho2⟩, (hbF.trans (hb1.mono (by simp only [World.size_alloc]; omega))).trans hb2⟩
end Go.Proofs.Ytghinjnhcepaeaa
