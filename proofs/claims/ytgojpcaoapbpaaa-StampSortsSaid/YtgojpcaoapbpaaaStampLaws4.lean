import Derived.Test.YtgojpcaoapbpaaaStampLaws3
import Derived.Sort.Walk0
/-! The law on the order of stamps' bytes. -/
namespace Go.Proofs.Ytgojpcaoapbpaaa
open Go.RowKit
set_option linter.unusedVariables false
set_option linter.unusedSimpArgs false
theorem less_num : ∀ l m : List Nat, l.length = m.length → (∀ x ∈ l, x < 256) → (∀ x ∈ m, x < 256) → Op.bytesLess (l.map UInt8.ofNat) (m.map UInt8.ofNat) = decide (num l < num m)
  | [], [], _, _, _ => by simp [Op.bytesLess]
  | x :: l, y :: m, h, hl, hm => by
    have ih := less_num l m (by simpa using h) (fun z hz => hl z (by simp [hz])) (fun z hz => hm z (by simp [hz]))
    have h1 := num_lt l (fun z hz => hl z (by simp [hz]))
    have h2 := num_lt m (fun z hz => hm z (by simp [hz]))
    have hlen : l.length = m.length := by simpa using h
    rw [← hlen] at h2
    have hx := hl x (by simp)
    have hy := hm y (by simp)
    simp only [List.map_cons, Op.bytesLess, ih, num_cons, ← hlen]
    generalize 256 ^ l.length = K at *
    have e1 : (UInt8.ofNat x < UInt8.ofNat y) ↔ x < y := by
      rw [UInt8.lt_iff_toNat_lt]; simp [Nat.mod_eq_of_lt hx, Nat.mod_eq_of_lt hy]
    have e2 : (UInt8.ofNat x = UInt8.ofNat y) ↔ x = y := by
      rw [← UInt8.toNat_inj]; simp [Nat.mod_eq_of_lt hx, Nat.mod_eq_of_lt hy]
    rcases Nat.lt_trichotomy x y with hxy | hxy | hxy
    · have : x * K + num l < y * K + num m := by
        have := Nat.mul_le_mul_right K (show x + 1 ≤ y by omega)
        rw [Nat.add_mul] at this
        omega
      simp [e1, hxy, this]
    · subst hxy; simp
    · have : ¬ x * K + num l < y * K + num m := by
        have := Nat.mul_le_mul_right K (show y + 1 ≤ x by omega)
        rw [Nat.add_mul] at this
        omega
      simp [e1, e2, this, show ¬ x < y by omega, show ¬ x = y by omega]
theorem be_bytes : ∀ k n, ∀ x ∈ be k n, x < 256 := fun k n x hx => by
  obtain ⟨j, hj, rfl⟩ := List.getElem_of_mem hx
  have := be_get k n j (by rwa [be_length] at hj)
  rw [List.getElem?_eq_getElem hj] at this
  injection this with this
  omega
theorem stampBytes_bytes (a b c : Int) : ∀ x ∈ stampBytes a b c, x < 256 := fun x hx => by
  unfold stampBytes at hx
  simp only [List.mem_append] at hx
  rcases hx with h | h | h <;> exact be_bytes _ _ x h
theorem num_stamp (a b c : Int) (hb : U32 b) (hc : U32 c) : num (stampBytes a b c) = (u64 a * 4294967296 + b.toNat) * 4294967296 + c.toNat := by
  unfold U32 at hb hc
  have h0 := u64_lt a
  simp only [stampBytes, num_append, num_be, be_length, List.length_append]
  omega
theorem less_stamp (a b c a' b' c' : Int) (ha : I64 a) (hb : U32 b) (hc : U32 c) (ha' : I64 a') (hb' : U32 b') (hc' : U32 c') (r : rightB a = true) (r' : rightB a' = true) :
    Op.bytesLess (strOf (stampBytes a b c)).toList (strOf (stampBytes a' b' c')).toList = decide (cmpI a b c a' b' c' < 0) := by
  rw [strOf_toList, strOf_toList, less_num _ _ (by simp [stampBytes_length]) (stampBytes_bytes _ _ _) (stampBytes_bytes _ _ _), num_stamp a b c hb hc, num_stamp a' b' c' hb' hc']
  simp [rightB] at r r'
  unfold U32 at *
  unfold u64 cmpI
  congr 1
  apply propext
  (repeat' split) <;> omega
theorem eq_stamp (a b c a' b' c' : Int) (ha : I64 a) (hb : U32 b) (hc : U32 c) (ha' : I64 a') (hb' : U32 b') (hc' : U32 c') (r : rightB a = true) (r' : rightB a' = true) :
    ((strOf (stampBytes a b c)).toList == (strOf (stampBytes a' b' c')).toList) = stEq a b c a' b' c' := by
  simp [rightB] at r r'
  unfold U32 at *
  by_cases h : stEq a b c a' b' c' = true
  · rw [h]
    simp [stEq] at h
    obtain ⟨rfl, rfl, rfl⟩ := h
    simp
  · have h' : stEq a b c a' b' c' = false := by simpa using h
    rw [h']
    rw [beq_eq_false_iff_ne]
    intro e
    have e' := strOf_inj (stampBytes_bytes _ _ _) (stampBytes_bytes _ _ _) e
    have e2 := congrArg num e'
    rw [num_stamp a b c hb hc, num_stamp a' b' c' hb' hc'] at e2
    apply h
    unfold u64 at e2
    simp [stEq]
    omega
theorem get_stamp (a b c : Int) (hb : U32 b) (hc : U32 c) (r : rightB a = true) : getE (stampBytes a b c) = 0 ∧ getW (stampBytes a b c) = a ∧ getT (stampBytes a b c) = b ∧ getM (stampBytes a b c) = c := by
  simp [rightB] at r
  unfold U32 at hb hc
  have h8 : (stampBytes a b c).take 8 = be 8 (u64 a) := by
    unfold stampBytes; rw [List.take_append_of_le_length (by rw [be_length]; omega), List.take_of_length_le (by rw [be_length]; omega)]
  have hd : (stampBytes a b c).drop 8 = be 4 b.toNat ++ be 4 c.toNat := by
    unfold stampBytes; rw [List.drop_left' (be_length _ _)]
  have hd2 : (stampBytes a b c).drop 12 = be 4 c.toNat := by
    have : (stampBytes a b c).drop 12 = ((stampBytes a b c).drop 8).drop 4 := by rw [List.drop_drop]
    rw [this, hd, List.drop_left' (be_length _ _)]
  have hu : u64 a = a.toNat := by unfold u64; omega
  have e : getE (stampBytes a b c) = 0 := by
    unfold getE; rw [h8, num_be, stampBytes_length, hu]; rw [if_pos rfl, if_pos (by omega)]
  refine ⟨e, ?_, ?_, ?_⟩
  · unfold getW; rw [if_pos e, h8, num_be, hu]; omega
  · unfold getT; rw [if_pos e, hd, take4 _ _ (be_length _ _), num_be]; omega
  · unfold getM; rw [if_pos e, hd2, num_be]; omega

set_option maxHeartbeats 1600000 in
theorem law_sorts (a b c a' b' c' : Int) (w : World) (ha : I64 a) (hb : U32 b) (hc : U32 c) (ha' : I64 a') (hb' : U32 b') (hc' : U32 c') :
    Calls Try.prog 8 #[.agg #[.int .i64 a, .int .u32 b, .int .u32 c], .agg #[.int .i64 a', .int .u32 b', .int .u32 c']] w fun e w' => e = .returned (.bool true) ∧ Below w.heap.size w w' := by
  have h5 : rightB 0 = true := by decide
  by_cases r : rightB a = true
  · by_cases r' : rightB a' = true
    · have q1 := less_stamp a b c a' b' c' ha hb hc ha' hb' hc' r r'
      have q2 := eq_stamp a b c a' b' c' ha hb hc ha' hb' hc' r r'
      obtain ⟨g1, g2, g3, g4⟩ := get_stamp a b c hb hc r
      have q3 : (strOf (stampBytes a b c)).size = 16 := by rw [strOf_size, stampBytes_length]
      have q4 := numsOf_strOf (stampBytes_bytes a b c)
      have q5 := stampBytes_bytes a b c
      have q6 := stEq_self a b c
      go_enter Try.func8, Try.ntmps8
      go_wp2_with (first | (go_at_call 10; refine (to_any _ _ _ _).mono ?_; rintro e w' ⟨rfl, hb⟩; obtain ⟨X, rfl⟩ := World.ext_of_below hb; clear hb) | (go_at_call 15; refine (right_any _ _ _ _).mono ?_; rintro e w' ⟨rfl, hb⟩; obtain ⟨X, rfl⟩ := World.ext_of_below hb; clear hb) | (go_at_call 17; refine (compare_any _ _ _ _ _ _ _).mono ?_; rintro e w' ⟨rfl, hb⟩; obtain ⟨X, rfl⟩ := World.ext_of_below hb; clear hb))
      refine Grow.wp_region_grow 6 [0, 1, 2, 3] [4, 5] (fun _ => #[.int .i64 0, .int .u32 0, .int .u32 0]) (fun _ => 25) (by kernel_rfl) (by kernel_rfl) (by intro i hi ρ w; simp only [List.mem_cons, List.not_mem_nil, or_false] at hi; rcases hi with rfl | rfl <;> kernel_rfl) ?_; simp only [List.map_cons, List.map_nil, List.getD_cons_zero, List.getD_cons_succ]
      (repeat (refine Grow.wpG_step (fun K hK => ?_); go_simp; first | (refine hK _ ?_; clear hK K) | (apply Exists.intro; refine ⟨fun _ => ?_, hK _ ?_⟩; (first | (go_at_call 10; exact Calls.cat_of (to_any _ _ _ _)) | (go_at_call 12; exact Calls.cat_of (from_any _ _ _ _)) | (go_at_call 15; exact Calls.cat_of (right_any _ _ _ _)) | (go_at_call 16; exact Calls.cat_of (rright_any _ _ _ _)) | (go_at_call 17; exact Calls.cat_of (compare_any _ _ _ _ _ _ _)) | (go_at_call 18; exact Calls.cat_of (order_any _ _ _ _ _ _ _)) | (go_at_call 13; exact Calls.cat_of (last_any _ _ _ _)) | (go_at_call 14; exact Calls.cat_of (rlast_any _ _ _ _))); clear hK K)))
      refine Grow.wpG_nil ?_; intro p X hz hne; simp only [List.drop_succ_cons, List.drop_zero, Grow.putL, if_true, List.getD_cons_zero, List.getD_cons_succ]; have z1 := hz 4 (by simp); obtain ⟨z1, b1⟩ := z1; have c1 := blk_cell z1; have f1 := blk_frozen z1; have l1 := blk_lt z1; have z2 := hz 5 (by simp); obtain ⟨z2, b2⟩ := z2; have c2 := blk_cell z2; have f2 := blk_frozen z2; have l2 := blk_lt z2; have n12 := hne 4 (by simp) 5 (by simp) (by decide); have n21 := n12.symm; clear hz hne; generalize p 4 = a1 at *; generalize p 5 = a2 at *; clear z1; clear z2; (try simp only [World.size_ext, World.size_alloc, World.size_setCell] at *)
      go_wp2_with (first | (go_at_call 10; refine (to_any _ _ _ _).mono ?_; rintro e w' ⟨rfl, hb⟩; obtain ⟨X, rfl⟩ := World.ext_of_below hb; clear hb) | (go_at_call 15; refine (right_any _ _ _ _).mono ?_; rintro e w' ⟨rfl, hb⟩; obtain ⟨X, rfl⟩ := World.ext_of_below hb; clear hb) | (go_at_call 17; refine (compare_any _ _ _ _ _ _ _).mono ?_; rintro e w' ⟨rfl, hb⟩; obtain ⟨X, rfl⟩ := World.ext_of_below hb; clear hb))
      refine First.wp_region_first_ext [0, 2, 3, 5] [(true, true, 0), (true, true, 3), (false, true, 1), (true, true, 2), (false, true, 4), (true, true, 5), (false, true, 6), (false, false, 7)] (by kernel_rfl) (by kernel_rfl) (fun Y => ?_); simp only [List.map_cons, List.map_nil, List.getD_cons_zero, List.getD_cons_succ]
      (repeat (first | (refine First.wpF_free (fun K hK => ?_); go_simp; first | (refine hK _ _ ?_; clear hK K) | (apply Exists.intro; refine ⟨fun _ => ?_, hK _ _ ?_⟩; first | (rw [k1]; (exact ⟨rfl, rfl⟩); (repeat' (first | with_reducible exact ho1 | with_reducible refine Reads.cat_ ?_ ?_ _ | with_reducible refine Reads.ext ?_ ?_ _ | with_reducible refine Reads.alloc ?_ ?_ _ | with_reducible refine Reads.setCell ?_ ?_ _ | (simp [World.size_ext]; done) | (simp [World.size_ext]; omega)))) | (rw [k2]; (exact ⟨rfl, rfl⟩); (repeat' (first | with_reducible exact ho2 | with_reducible refine Reads.cat_ ?_ ?_ _ | with_reducible refine Reads.ext ?_ ?_ _ | with_reducible refine Reads.alloc ?_ ?_ _ | with_reducible refine Reads.setCell ?_ ?_ _ | (simp [World.size_ext]; done) | (simp [World.size_ext]; omega)))) | go_wp2_with (first | (go_at_call 19; with_reducible refine (put_any _ _ _ _ ha hb hc).mono ?_; rintro e w' ⟨v, rfl, ho, hbw⟩; obtain ⟨X1, rfl⟩ := World.ext_of_below hbw; clear hbw; obtain ⟨A1, cap1, rfl, ho1⟩ := Reads.of_ownsRow ho; clear ho; simp only [World.ext_ext] at ho1; have k1 := conv_of ho1 Try.underlying41 Try.underlying5 Try.underlying9) | (go_at_call 19; with_reducible refine (put_any _ _ _ _ ha' hb' hc').mono ?_; rintro e w' ⟨v, rfl, ho, hbw⟩; obtain ⟨X2, rfl⟩ := World.ext_of_below hbw; clear hbw; obtain ⟨A2, cap2, rfl, ho2⟩ := Reads.of_ownsRow ho; clear ho; simp only [World.ext_ext] at ho2; have k2 := conv_of ho2 Try.underlying41 Try.underlying5 Try.underlying9)); clear hK K)) | (refine First.wpF_must (fun K hK => ?_); go_simp; first | (rw [k1]; (exact ⟨rfl, rfl⟩); (repeat' (first | with_reducible exact ho1 | with_reducible refine Reads.cat_ ?_ ?_ _ | with_reducible refine Reads.ext ?_ ?_ _ | with_reducible refine Reads.alloc ?_ ?_ _ | with_reducible refine Reads.setCell ?_ ?_ _ | (simp [World.size_ext]; done) | (simp [World.size_ext]; omega)))) | (rw [k2]; (exact ⟨rfl, rfl⟩); (repeat' (first | with_reducible exact ho2 | with_reducible refine Reads.cat_ ?_ ?_ _ | with_reducible refine Reads.ext ?_ ?_ _ | with_reducible refine Reads.alloc ?_ ?_ _ | with_reducible refine Reads.setCell ?_ ?_ _ | (simp [World.size_ext]; done) | (simp [World.size_ext]; omega)))) | go_wp2_with (first | (go_at_call 19; with_reducible refine (put_any _ _ _ _ ha hb hc).mono ?_; rintro e w' ⟨v, rfl, ho, hbw⟩; obtain ⟨X1, rfl⟩ := World.ext_of_below hbw; clear hbw; obtain ⟨A1, cap1, rfl, ho1⟩ := Reads.of_ownsRow ho; clear ho; simp only [World.ext_ext] at ho1; have k1 := conv_of ho1 Try.underlying41 Try.underlying5 Try.underlying9) | (go_at_call 19; with_reducible refine (put_any _ _ _ _ ha' hb' hc').mono ?_; rintro e w' ⟨v, rfl, ho, hbw⟩; obtain ⟨X2, rfl⟩ := World.ext_of_below hbw; clear hbw; obtain ⟨A2, cap2, rfl, ho2⟩ := Reads.of_ownsRow ho; clear ho; simp only [World.ext_ext] at ho2; have k2 := conv_of ho2 Try.underlying41 Try.underlying5 Try.underlying9)); go_simp; refine hK _ _ (fun _ => by first | with_reducible exact First.Grown.refl _ | with_reducible exact First.Grown.cat _ _ _ | with_reducible exact First.Grown.ext _ _) ?_; clear hK K)))
      refine First.wpF_nil ?_
      clear ho1 ho2 k1 k2
      refine abstr (fun W => Below w.heap.size w W ∧ (a1 < W.heap.size ∧ a2 < W.heap.size) ∧ (W.cell? ⟨a1, 0, none⟩ = some (.int .i64 a) ∧ W.cell? ⟨a1, 1, none⟩ = some (.int .u32 b) ∧ W.cell? ⟨a1, 2, none⟩ = some (.int .u32 c)) ∧
        W.cell? ⟨a2, 0, none⟩ = some (.int .i64 a') ∧ W.cell? ⟨a2, 1, none⟩ = some (.int .u32 b') ∧ W.cell? ⟨a2, 2, none⟩ = some (.int .u32 c')) ⟨?_, ?_, ⟨?_, ?_, ?_⟩, ?_, ?_, ?_⟩ (fun W' hW => ?_)
      · (repeat' (first | with_reducible exact Below.refl _ _ | with_reducible refine Below.ext ?_ ?_ _ | with_reducible refine Below.alloc ?_ ?_ _ | with_reducible refine Below.setCell ?_ ?_ _ | with_reducible refine Below.drew ?_ | with_reducible assumption | (simp [World.size_ext]; done) | (simp [World.size_ext]; omega)))
      · constructor <;> go_simp <;> omega
      · go_simp
      · go_simp
      · go_simp
      · go_simp
      · go_simp
      · go_simp
      clear c1 c2 f1 f2 l1 l2 b1 b2
      obtain ⟨hbel, ⟨e1, e2⟩, ⟨m10, m11, m12⟩, m20, m21, m22⟩ := hW
      have hsz : w.heap.size ≤ W'.heap.size := hbel.size
      have kb := conv_string (P := Try.prog) Try.underlying9 Try.underlying41 Try.underlying5 (strOf (stampBytes a b c))
      rw [q3] at kb
      have kg : ∀ (W : World) (g cap : Nat), g = W.heap.size → Calls Try.prog 21 #[.slice (some ⟨g, 0, none⟩) 16 cap] (W.ext (bytesExt W 5 (strOf (stampBytes a b c)))) fun e w' => e = .returned (.tuple #[.agg #[.int .i64 a, .int .u32 b, .int .u32 c], .int .i64 0]) ∧ Below (W.ext (bytesExt W 5 (strOf (stampBytes a b c)))).heap.size (W.ext (bytesExt W 5 (strOf (stampBytes a b c)))) w' := fun W g cap hg => by
        subst hg
        have kr := bytesExt_reads W 5 (strOf (stampBytes a b c))
        rw [q3, q4] at kr
        have := get_any (some ⟨W.heap.size, 0, none⟩) 16 cap (stampBytes a b c) _ kr q5
        rwa [g1, g2, g3, g4] at this
      clear q4 q5 g1 g2 g3 g4
      generalize strOf (stampBytes a b c) = s at *
      generalize strOf (stampBytes a' b' c') = s' at *
      go_wp2_with (first | (go_at_call 10; refine (to_any _ _ _ _).mono ?_; rintro e w' ⟨rfl, hb⟩; obtain ⟨X, rfl⟩ := World.ext_of_below hb; clear hb) | (go_at_call 15; refine (right_any _ _ _ _).mono ?_; rintro e w' ⟨rfl, hb⟩; obtain ⟨X, rfl⟩ := World.ext_of_below hb; clear hb) | (go_at_call 17; refine (compare_any _ _ _ _ _ _ _).mono ?_; rintro e w' ⟨rfl, hb⟩; obtain ⟨X, rfl⟩ := World.ext_of_below hb; clear hb) | (go_at_call 21; refine (kg _ _ _ (by simp [World.size_ext])).mono ?_; rintro e w' ⟨rfl, hb⟩; obtain ⟨X3, rfl⟩ := World.ext_of_below hb; clear hb))
      go_ret
      refine ⟨rfl, ?_⟩
      (repeat' (first | with_reducible exact Below.refl _ _ | with_reducible refine Below.ext ?_ ?_ _ | with_reducible refine Below.alloc ?_ ?_ _ | with_reducible refine Below.setCell ?_ ?_ _ | with_reducible refine Below.drew ?_ | with_reducible assumption | (simp [World.size_ext]; done) | (simp [World.size_ext]; omega)))
    · have r' : rightB a' = false := by simpa using r'
      go_enter Try.func8, Try.ntmps8
      go_wp2_with (first | (go_at_call 10; refine (to_any _ _ _ _).mono ?_; rintro e w' ⟨rfl, hb⟩; obtain ⟨X, rfl⟩ := World.ext_of_below hb; clear hb) | (go_at_call 15; refine (right_any _ _ _ _).mono ?_; rintro e w' ⟨rfl, hb⟩; obtain ⟨X, rfl⟩ := World.ext_of_below hb; clear hb) | (go_at_call 17; refine (compare_any _ _ _ _ _ _ _).mono ?_; rintro e w' ⟨rfl, hb⟩; obtain ⟨X, rfl⟩ := World.ext_of_below hb; clear hb))
      refine Grow.wp_region_grow 6 [0, 1, 2, 3] [4, 5] (fun _ => #[.int .i64 0, .int .u32 0, .int .u32 0]) (fun _ => 25) (by kernel_rfl) (by kernel_rfl) (by intro i hi ρ w; simp only [List.mem_cons, List.not_mem_nil, or_false] at hi; rcases hi with rfl | rfl <;> kernel_rfl) ?_; simp only [List.map_cons, List.map_nil, List.getD_cons_zero, List.getD_cons_succ]
      (repeat (refine Grow.wpG_step (fun K hK => ?_); go_simp; first | (refine hK _ ?_; clear hK K) | (apply Exists.intro; refine ⟨fun _ => ?_, hK _ ?_⟩; (first | (go_at_call 10; exact Calls.cat_of (to_any _ _ _ _)) | (go_at_call 12; exact Calls.cat_of (from_any _ _ _ _)) | (go_at_call 15; exact Calls.cat_of (right_any _ _ _ _)) | (go_at_call 16; exact Calls.cat_of (rright_any _ _ _ _)) | (go_at_call 17; exact Calls.cat_of (compare_any _ _ _ _ _ _ _)) | (go_at_call 18; exact Calls.cat_of (order_any _ _ _ _ _ _ _)) | (go_at_call 13; exact Calls.cat_of (last_any _ _ _ _)) | (go_at_call 14; exact Calls.cat_of (rlast_any _ _ _ _))); clear hK K)))
      refine Grow.wpG_nil ?_; intro p X hz hne; simp only [List.drop_succ_cons, List.drop_zero, Grow.putL, if_true, List.getD_cons_zero, List.getD_cons_succ]; have z1 := hz 4 (by simp); obtain ⟨z1, b1⟩ := z1; have c1 := blk_cell z1; have f1 := blk_frozen z1; have l1 := blk_lt z1; have z2 := hz 5 (by simp); obtain ⟨z2, b2⟩ := z2; have c2 := blk_cell z2; have f2 := blk_frozen z2; have l2 := blk_lt z2; have n12 := hne 4 (by simp) 5 (by simp) (by decide); have n21 := n12.symm; clear hz hne; generalize p 4 = a1 at *; generalize p 5 = a2 at *; clear z1; clear z2; (try simp only [World.size_ext, World.size_alloc, World.size_setCell] at *)
      go_wp2_with (first | (go_at_call 10; refine (to_any _ _ _ _).mono ?_; rintro e w' ⟨rfl, hb⟩; obtain ⟨X, rfl⟩ := World.ext_of_below hb; clear hb) | (go_at_call 15; refine (right_any _ _ _ _).mono ?_; rintro e w' ⟨rfl, hb⟩; obtain ⟨X, rfl⟩ := World.ext_of_below hb; clear hb) | (go_at_call 17; refine (compare_any _ _ _ _ _ _ _).mono ?_; rintro e w' ⟨rfl, hb⟩; obtain ⟨X, rfl⟩ := World.ext_of_below hb; clear hb))
      go_ret
      refine ⟨rfl, ?_⟩
      (repeat' (first | with_reducible exact Below.refl _ _ | with_reducible refine Below.ext ?_ ?_ _ | with_reducible refine Below.alloc ?_ ?_ _ | with_reducible refine Below.setCell ?_ ?_ _ | with_reducible refine Below.drew ?_ | with_reducible assumption | (simp [World.size_ext]; done) | (simp [World.size_ext]; omega)))
  · have r : rightB a = false := by simpa using r
    go_enter Try.func8, Try.ntmps8
    go_wp2_with (first | (go_at_call 10; refine (to_any _ _ _ _).mono ?_; rintro e w' ⟨rfl, hb⟩; obtain ⟨X, rfl⟩ := World.ext_of_below hb; clear hb) | (go_at_call 15; refine (right_any _ _ _ _).mono ?_; rintro e w' ⟨rfl, hb⟩; obtain ⟨X, rfl⟩ := World.ext_of_below hb; clear hb) | (go_at_call 17; refine (compare_any _ _ _ _ _ _ _).mono ?_; rintro e w' ⟨rfl, hb⟩; obtain ⟨X, rfl⟩ := World.ext_of_below hb; clear hb))
    refine Grow.wp_region_grow 6 [0, 1, 2, 3] [4, 5] (fun _ => #[.int .i64 0, .int .u32 0, .int .u32 0]) (fun _ => 25) (by kernel_rfl) (by kernel_rfl) (by intro i hi ρ w; simp only [List.mem_cons, List.not_mem_nil, or_false] at hi; rcases hi with rfl | rfl <;> kernel_rfl) ?_; simp only [List.map_cons, List.map_nil, List.getD_cons_zero, List.getD_cons_succ]
    (repeat (refine Grow.wpG_step (fun K hK => ?_); go_simp; first | (refine hK _ ?_; clear hK K) | (apply Exists.intro; refine ⟨fun _ => ?_, hK _ ?_⟩; (first | (go_at_call 10; exact Calls.cat_of (to_any _ _ _ _)) | (go_at_call 12; exact Calls.cat_of (from_any _ _ _ _)) | (go_at_call 15; exact Calls.cat_of (right_any _ _ _ _)) | (go_at_call 16; exact Calls.cat_of (rright_any _ _ _ _)) | (go_at_call 17; exact Calls.cat_of (compare_any _ _ _ _ _ _ _)) | (go_at_call 18; exact Calls.cat_of (order_any _ _ _ _ _ _ _)) | (go_at_call 13; exact Calls.cat_of (last_any _ _ _ _)) | (go_at_call 14; exact Calls.cat_of (rlast_any _ _ _ _))); clear hK K)))
    refine Grow.wpG_nil ?_; intro p X hz hne; simp only [List.drop_succ_cons, List.drop_zero, Grow.putL, if_true, List.getD_cons_zero, List.getD_cons_succ]; have z1 := hz 4 (by simp); obtain ⟨z1, b1⟩ := z1; have c1 := blk_cell z1; have f1 := blk_frozen z1; have l1 := blk_lt z1; have z2 := hz 5 (by simp); obtain ⟨z2, b2⟩ := z2; have c2 := blk_cell z2; have f2 := blk_frozen z2; have l2 := blk_lt z2; have n12 := hne 4 (by simp) 5 (by simp) (by decide); have n21 := n12.symm; clear hz hne; generalize p 4 = a1 at *; generalize p 5 = a2 at *; clear z1; clear z2; (try simp only [World.size_ext, World.size_alloc, World.size_setCell] at *)
    go_wp2_with (first | (go_at_call 10; refine (to_any _ _ _ _).mono ?_; rintro e w' ⟨rfl, hb⟩; obtain ⟨X, rfl⟩ := World.ext_of_below hb; clear hb) | (go_at_call 15; refine (right_any _ _ _ _).mono ?_; rintro e w' ⟨rfl, hb⟩; obtain ⟨X, rfl⟩ := World.ext_of_below hb; clear hb) | (go_at_call 17; refine (compare_any _ _ _ _ _ _ _).mono ?_; rintro e w' ⟨rfl, hb⟩; obtain ⟨X, rfl⟩ := World.ext_of_below hb; clear hb))
    go_ret
    refine ⟨rfl, ?_⟩
    (repeat' (first | with_reducible exact Below.refl _ _ | with_reducible refine Below.ext ?_ ?_ _ | with_reducible refine Below.alloc ?_ ?_ _ | with_reducible refine Below.setCell ?_ ?_ _ | with_reducible refine Below.drew ?_ | with_reducible assumption | (simp [World.size_ext]; done) | (simp [World.size_ext]; omega)))
section
open Go.ChangeShapes Go.WideShapes Go.ChangeAt
variable {H : Type} {enc : TypeId × Value → H}
theorem stampSorts_walk : LawWalk enc Try.prog 8 Try.f8 := by
  intro W base args ds ps hval hA hlt _
  rw [Try.params8] at hA hval
  obtain ⟨v0, v1, d0, d1, p0, p1, rfl, rfl, rfl, h0, h1⟩ := trodAll_two hA
  obtain ⟨a, b, c, rfl, ha, hb, hc⟩ := stamp_open (hval 0 _ v0 rfl rfl) h0
  obtain ⟨a', b', c', rfl, ha', hb', hc'⟩ := stamp_open (hval 1 _ v1 rfl rfl) h1
  exact law_sorts _ _ _ _ _ _ W ha hb hc ha' hb' hc'
set_option maxRecDepth 100000 in
theorem stampSorts_lifted (os : Os) (started : os.Started) (H : Type) (enc : TypeId × Value → H) :
    ReturnsInHanded {} Try.checked os 8 .any (Rows.stampSortsSpec.pre6 enc Try.prog Try.f8 Rows.stampSortsRow.domain false) (Rows.stampSortsSpec.post enc Try.prog Try.f8 false true false false) :=
  law_lifted (C := Try.checked) own started (by kernel_rfl) Try.func8 laidOut (by kernel_rfl) rfl Try.underlying4 rfl
    (fun ds h => by obtain ⟨d0, d1, rfl⟩ := list2 h; rfl)
    (ChangeSpec.witness6 (enc := enc) (C := Try.checked) false ⟨#[], #[.agg #[.int .i64 0, .int .u32 0, .int .u32 0], .agg #[.int .i64 0, .int .u32 0, .int .u32 0]], []⟩ 8 (by kernel_rfl) (by kernel_rfl) (by kernel_rfl) (by kernel_rfl))
    stampSorts_walk
theorem stampSorts_holds : Rows.StampSortsSaid :=
  OpenClaim.holds_of_wide 8 Try.f8 rfl rfl rfl rfl rfl rfl rfl ⟨rfl, rfl, rfl, rfl, rfl⟩ rfl rfl rfl rfl rfl (by kernel_rfl) Try.func8 (by kernel_rfl)
    (of_decide_eq_true (by kernel_rfl)) (by unfold Func.isWrapper; rw [if_neg (of_decide_eq_false (by kernel_rfl))]; exact ⟨rfl, rfl⟩)
    (fun os started H enc _ => stampSorts_lifted os started H enc)
#print axioms stampSorts_holds
end
end Go.Proofs.Ytgojpcaoapbpaaa
