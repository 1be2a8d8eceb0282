import Derived.Test.YthajbeooemngpaaVRef2
import Derived.Test.YthajbeooemngpaaVSafe
/-! The document's Active, Change. -/
namespace Go.Proofs.Ythajbeooemngpaa
open Go.RowKit
set_option linter.unusedVariables false
set_option linter.unusedSimpArgs false
set_option maxRecDepth 100000 in
set_option maxHeartbeats 1000000 in
theorem ractive_same (k : Vw) (A B : Option Addr) (n c m d : Nat) (ep : Int) (w : World) (h : ep < 1 ∨ k.e < ep ∨ ep ≠ k.e) :
    Calls Try.prog 37 #[.agg #[.int .i64 k.e, .int .i64 k.p, .slice A n c, .slice B m d], .int .i64 ep] w fun r w' => r = .returned (.tuple #[.int .i64 (activeE k ep), .agg #[.int .i64 k.e, .int .i64 k.p, .slice A n c, .slice B m d]]) ∧ Below w.heap.size w w' := by
  have hC := Blk.alloc (Blk.new w 68 #[.int .i64 k.e, .int .i64 k.p, .slice A n c, .slice B m d]) (.cells #[.int .i64 0, .int .i64 0, .slice none 0 0, .slice none 0 0] 68)
  have n1 : w.heap.size ≠ w.heap.size + 1 := by omega
  by_cases q1 : ep < 1
  · have e1 : activeE k ep = 1 := by unfold activeE; rw [if_pos (.inl q1)]
    rw [e1]
    go_enter Try.func37, Try.ntmps37
    go_wp2
    (refine wp_region_only (w.heap.size + 1) [0] [] [(true, true, 0), (false, true, 1), (false, false, 2)] (by kernel_rfl) (by kernel_rfl) (fun Y => ?_); simp only [List.map_cons, List.map_nil, List.getD_cons_zero, List.getD_cons_succ]; (have hCY := Blk.ext hC Y); (refine first_read rfl (v := .agg #[.int .i64 k.e, .int .i64 k.p, .slice A n c, .slice B m d]) (fun w' hw' => ?_) (fun K hK => ?_); rotate_left 1; go_simp; refine hK _ _ ?_; clear hK K; rotate_left 1; (have hB' := Blk.only hCY hw' n1; have c' := Blk.cell hB'; go_simp)); refine First.wpF_must (fun K hK => ?_); go_wp2; (refine hK _ _ (fun hnd => by first | exact Bool.noConfusion hnd | exact Only.refl _ _ | ((repeat (refine Only.set_ ?_ (.inl rfl) _)); exact Only.refl _ _)) ?_; clear hK K); refine First.wpF_must (fun K hK => ?_); go_wp2; (refine hK _ _ (fun hnd => by first | exact Bool.noConfusion hnd | exact Only.refl _ _ | ((repeat (refine Only.set_ ?_ (.inl rfl) _)); exact Only.refl _ _)) ?_; clear hK K); refine First.wpF_nil ?_; go_wp2; refine bodyPost_tc Try.results37 rfl (Blk.four (Blk.ext (Blk.made w _ _ _) Y)) Try.underlying68 rfl (by kernel_rfl) rfl ⟨rfl, ?_⟩; (repeat' (first | with_reducible exact Below.refl _ _ | with_reducible refine Below.ext ?_ ?_ _ | with_reducible refine Below.alloc ?_ ?_ _ | with_reducible refine Below.setCell ?_ ?_ _ | with_reducible refine Below.drew ?_ | with_reducible assumption | (simp [World.size_ext]; done) | (simp [World.size_ext]; omega))))
  · by_cases q2 : k.e < ep
    · have e1 : activeE k ep = 1 := by unfold activeE; rw [if_pos (.inr q2)]
      rw [e1]
      have d1 : decide (ep < 1) = false := decide_eq_false q1
      go_enter Try.func37, Try.ntmps37
      go_wp2
      (refine wp_region_only (w.heap.size + 1) [0] [] [(true, true, 0), (false, true, 1), (false, false, 2)] (by kernel_rfl) (by kernel_rfl) (fun Y => ?_); simp only [List.map_cons, List.map_nil, List.getD_cons_zero, List.getD_cons_succ]; (have hCY := Blk.ext hC Y); (refine first_read rfl (v := .agg #[.int .i64 k.e, .int .i64 k.p, .slice A n c, .slice B m d]) (fun w' hw' => ?_) (fun K hK => ?_); rotate_left 1; go_simp; refine hK _ _ ?_; clear hK K; rotate_left 1; (have hB' := Blk.only hCY hw' n1; have c' := Blk.cell hB'; go_simp)); refine First.wpF_must (fun K hK => ?_); go_wp2; (refine hK _ _ (fun hnd => by first | exact Bool.noConfusion hnd | exact Only.refl _ _ | ((repeat (refine Only.set_ ?_ (.inl rfl) _)); exact Only.refl _ _)) ?_; clear hK K); refine First.wpF_must (fun K hK => ?_); go_wp2; (refine hK _ _ (fun hnd => by first | exact Bool.noConfusion hnd | exact Only.refl _ _ | ((repeat (refine Only.set_ ?_ (.inl rfl) _)); exact Only.refl _ _)) ?_; clear hK K); refine First.wpF_nil ?_; go_wp2; refine bodyPost_tc Try.results37 rfl (Blk.four (Blk.ext (Blk.made w _ _ _) Y)) Try.underlying68 rfl (by kernel_rfl) rfl ⟨rfl, ?_⟩; (repeat' (first | with_reducible exact Below.refl _ _ | with_reducible refine Below.ext ?_ ?_ _ | with_reducible refine Below.alloc ?_ ?_ _ | with_reducible refine Below.setCell ?_ ?_ _ | with_reducible refine Below.drew ?_ | with_reducible assumption | (simp [World.size_ext]; done) | (simp [World.size_ext]; omega))))
    · have e1 : activeE k ep = 0 := by unfold activeE; rw [if_neg (by omega)]
      rw [e1]
      have d1 : decide (ep < 1) = false := decide_eq_false q1
      have d2 : decide (k.e < ep) = false := decide_eq_false q2
      have d3 : (ep == k.e) = false := by simp; omega
      go_enter Try.func37, Try.ntmps37
      go_wp2
      (refine wp_region_only (w.heap.size + 1) [0] [] [(true, true, 0), (false, true, 1), (false, false, 2)] (by kernel_rfl) (by kernel_rfl) (fun Y => ?_); simp only [List.map_cons, List.map_nil, List.getD_cons_zero, List.getD_cons_succ]; (have hCY := Blk.ext hC Y); (refine first_read rfl (v := .agg #[.int .i64 k.e, .int .i64 k.p, .slice A n c, .slice B m d]) (fun w' hw' => ?_) (fun K hK => ?_); rotate_left 1; go_simp; refine hK _ _ ?_; clear hK K; rotate_left 1; (have hB' := Blk.only hCY hw' n1; have c' := Blk.cell hB'; go_simp)); refine First.wpF_must (fun K hK => ?_); go_wp2; (refine hK _ _ (fun hnd => by first | exact Bool.noConfusion hnd | exact Only.refl _ _ | ((repeat (refine Only.set_ ?_ (.inl rfl) _)); exact Only.refl _ _)) ?_; clear hK K); refine First.wpF_must (fun K hK => ?_); go_wp2; (refine hK _ _ (fun hnd => by first | exact Bool.noConfusion hnd | exact Only.refl _ _ | ((repeat (refine Only.set_ ?_ (.inl rfl) _)); exact Only.refl _ _)) ?_; clear hK K); refine First.wpF_nil ?_; go_wp2; refine bodyPost_tc Try.results37 rfl (Blk.four (Blk.ext (Blk.made w _ _ _) Y)) Try.underlying68 rfl (by kernel_rfl) rfl ⟨rfl, ?_⟩; (repeat' (first | with_reducible exact Below.refl _ _ | with_reducible refine Below.ext ?_ ?_ _ | with_reducible refine Below.alloc ?_ ?_ _ | with_reducible refine Below.setCell ?_ ?_ _ | with_reducible refine Below.drew ?_ | with_reducible assumption | (simp [World.size_ext]; done) | (simp [World.size_ext]; omega))))
set_option maxRecDepth 100000 in
set_option maxHeartbeats 1000000 in
theorem ractive_new (k : Vw) (A B : Option Addr) (n c m d : Nat) (w : World) (h : 1 ≤ k.e) :
    Calls Try.prog 37 #[.agg #[.int .i64 k.e, .int .i64 k.p, .slice A n c, .slice B m d], .int .i64 k.e] w fun r w' => r = .returned (.tuple #[.int .i64 0, .agg #[.int .i64 k.e, .int .i64 k.p, .slice A n c, .slice A n c]]) ∧ Below w.heap.size w w' := by
  have hC := Blk.alloc (Blk.new w 68 #[.int .i64 k.e, .int .i64 k.p, .slice A n c, .slice A n c]) (.cells #[.int .i64 0, .int .i64 0, .slice none 0 0, .slice none 0 0] 68)
  have n1 : w.heap.size ≠ w.heap.size + 1 := by omega
  have d1 : decide (k.e < 1) = false := decide_eq_false (by omega)
  go_enter Try.func37, Try.ntmps37
  go_wp2
  refine wp_region_only (w.heap.size + 1) [0] [] [(true, true, 0), (false, true, 1), (false, false, 2)] (by kernel_rfl) (by kernel_rfl) (fun Y => ?_); simp only [List.map_cons, List.map_nil, List.getD_cons_zero, List.getD_cons_succ]
  have hCY := Blk.ext hC Y
  (refine first_read rfl (v := .agg #[.int .i64 k.e, .int .i64 k.p, .slice A n c, .slice A n c]) (fun w' hw' => ?_) (fun K hK => ?_); rotate_left 1; go_simp; refine hK _ _ ?_; clear hK K; rotate_left 1; (have hB' := Blk.only hCY hw' n1; have c' := Blk.cell hB'; go_simp))
  refine First.wpF_must (fun K hK => ?_)
  go_wp2
  (refine hK _ _ (fun hnd => by first | exact Bool.noConfusion hnd | exact Only.refl _ _ | ((repeat (refine Only.set_ ?_ (.inl rfl) _)); exact Only.refl _ _)) ?_; clear hK K)
  refine First.wpF_must (fun K hK => ?_)
  go_wp2
  (refine hK _ _ (fun hnd => by first | exact Bool.noConfusion hnd | exact Only.refl _ _ | ((repeat (refine Only.set_ ?_ (.inl rfl) _)); exact Only.refl _ _)) ?_; clear hK K)
  refine First.wpF_nil ?_
  go_wp2
  refine bodyPost_tc Try.results37 rfl (Blk.four (Blk.ext (Blk.made w _ _ _) Y)) Try.underlying68 rfl (by kernel_rfl) rfl ⟨rfl, ?_⟩
  (repeat' (first | with_reducible exact Below.refl _ _ | with_reducible refine Below.ext ?_ ?_ _ | with_reducible refine Below.alloc ?_ ?_ _ | with_reducible refine Below.setCell ?_ ?_ _ | with_reducible refine Below.drew ?_ | with_reducible assumption | (simp [World.size_ext]; done) | (simp [World.size_ext]; omega)))
set_option maxRecDepth 100000 in
set_option maxHeartbeats 1000000 in
theorem rchange_no (k : Vw) (A B : Option Addr) (n c m d : Nat) (x : Int) (A1 : Option Addr) (n1' c1 : Nat) (ms : List Int) (w : World) (hm : Reads w w.heap.size 1 A1 n1' (ints ms)) (hn : n1' ≤ 9223372036854775807) (hs : Reads w w.heap.size 1 B m (ints k.ss)) (hsn : m ≤ 9223372036854775807) (he : changeE k x ms ≠ 0) :
    Calls Try.prog 34 #[.agg #[.int .i64 k.e, .int .i64 k.p, .slice A n c, .slice B m d], .int .i64 x, .slice A1 n1' c1] w fun r w' => r = .returned (.tuple #[.int .i64 (changeE k x ms), .agg #[.int .i64 k.e, .int .i64 k.p, .slice A n c, .slice B m d]]) ∧ Below w.heap.size w w' := by
  have hC := Blk.alloc (Blk.new w 68 #[.int .i64 k.e, .int .i64 k.p, .slice A n c, .slice B m d]) (.cells #[.int .i64 0, .int .i64 0, .slice none 0 0, .slice none 0 0] 68)
  have n1 : w.heap.size ≠ w.heap.size + 1 := by omega
  have hR : ∀ o1 o2, _ := fun o1 o2 => rvright_any 1 x A1 n1' c1 ms ((w.alloc o1).alloc o2) (((hm.alloc (Nat.le_refl _) o1).alloc (by simp) o2).more (by simp; omega)) hn
  have hH : ∀ o1 o2 X, _ := fun o1 o2 X => rhas_any B m d k.ss x (((w.alloc o1).alloc o2).ext X) ((((hs.alloc (Nat.le_refl _) o1).alloc (by simp) o2).ext (by simp; omega) X).more (by simp [World.size_ext]; omega)) hsn
  clear hm hs
  unfold changeE at *
  cases hu : (risingB ms && hasB ms x) with
  | false =>
    rw [rightV_one, hu] at hR
    simp only [hu, if_true] at he ⊢
    go_enter Try.func34, Try.ntmps34
    go_wp2_with (first | (go_at_call 40; (with_reducible refine (hR _ _).mono ?_); rintro e w1 ⟨rfl, hb1⟩; obtain ⟨X, rfl⟩ := World.ext_of_below hb1; clear hb1))
    (refine abstr (fun W => Blk W w.heap.size 68 #[.int .i64 k.e, .int .i64 k.p, .slice A n c, .slice B m d] ∧ Blk W (w.heap.size + 1) 68 #[.int .i64 0, .int .i64 0, .slice none 0 0, .slice none 0 0] ∧ Below w.heap.size w W) ⟨Blk.ext hC X, Blk.ext (Blk.made w _ _ _) X, by (repeat' (first | with_reducible exact Below.refl _ _ | with_reducible refine Below.ext ?_ ?_ _ | with_reducible refine Below.alloc ?_ ?_ _ | with_reducible refine Below.setCell ?_ ?_ _ | with_reducible refine Below.drew ?_ | with_reducible assumption | (simp [World.size_ext]; done) | (simp [World.size_ext]; omega)))⟩ (fun W hW => ?_)); (obtain ⟨hC1, hZ1, hB1⟩ := hW); (have cZ := hZ1.cell); (have fZ := hZ1.frozen); (have lZ := hZ1.lt); (have hle := hB1.size); (refine wp_region_only (w.heap.size + 1) [0] [] [(true, true, 0), (false, true, 1), (false, false, 2)] (by kernel_rfl) (by kernel_rfl) (fun Y => ?_); simp only [List.map_cons, List.map_nil, List.getD_cons_zero, List.getD_cons_succ]; (have hCY := Blk.ext hC1 Y); (refine first_read rfl (v := .agg #[.int .i64 k.e, .int .i64 k.p, .slice A n c, .slice B m d]) (fun w' hw' => ?_) (fun K hK => ?_); rotate_left 1; go_simp; refine hK _ _ ?_; clear hK K; rotate_left 1; (have hB' := Blk.only hCY hw' n1; have c' := Blk.cell hB'; go_simp)); refine First.wpF_must (fun K hK => ?_); go_wp2; (refine hK _ _ (fun hnd => by first | exact Bool.noConfusion hnd | exact Only.refl _ _ | ((repeat (refine Only.set_ ?_ (.inl rfl) _)); exact Only.refl _ _)) ?_; clear hK K); refine First.wpF_must (fun K hK => ?_); go_wp2; (refine hK _ _ (fun hnd => by first | exact Bool.noConfusion hnd | exact Only.refl _ _ | ((repeat (refine Only.set_ ?_ (.inl rfl) _)); exact Only.refl _ _)) ?_; clear hK K); refine First.wpF_nil ?_; go_wp2; refine bodyPost_tc Try.results34 rfl (Blk.four (Blk.ext hZ1 Y)) Try.underlying68 rfl (by kernel_rfl) rfl ⟨rfl, ?_⟩; (repeat' (first | with_reducible exact Below.refl _ _ | with_reducible refine Below.ext ?_ ?_ _ | with_reducible refine Below.alloc ?_ ?_ _ | with_reducible refine Below.setCell ?_ ?_ _ | with_reducible refine Below.drew ?_ | with_reducible assumption | (simp [World.size_ext]; done) | (simp [World.size_ext]; omega))))
  | true =>
    rw [rightV_one, hu] at hR
    cases hs : hasB k.ss x with
    | false =>
      rw [hs] at hH
      simp only [hu, hs, if_true, Bool.true_eq_false, if_false] at he ⊢
      go_enter Try.func34, Try.ntmps34
      go_wp2_with (first | (go_at_call 40; (with_reducible refine (hR _ _).mono ?_); rintro e w1 ⟨rfl, hb1⟩; obtain ⟨X, rfl⟩ := World.ext_of_below hb1; clear hb1) | (go_at_call 41; (with_reducible refine (hH _ _ _).mono ?_); rintro e w1 ⟨rfl, rfl⟩))
      (refine abstr (fun W => Blk W w.heap.size 68 #[.int .i64 k.e, .int .i64 k.p, .slice A n c, .slice B m d] ∧ Blk W (w.heap.size + 1) 68 #[.int .i64 0, .int .i64 0, .slice none 0 0, .slice none 0 0] ∧ Below w.heap.size w W) ⟨Blk.ext hC X, Blk.ext (Blk.made w _ _ _) X, by (repeat' (first | with_reducible exact Below.refl _ _ | with_reducible refine Below.ext ?_ ?_ _ | with_reducible refine Below.alloc ?_ ?_ _ | with_reducible refine Below.setCell ?_ ?_ _ | with_reducible refine Below.drew ?_ | with_reducible assumption | (simp [World.size_ext]; done) | (simp [World.size_ext]; omega)))⟩ (fun W hW => ?_)); (obtain ⟨hC1, hZ1, hB1⟩ := hW); (have cZ := hZ1.cell); (have fZ := hZ1.frozen); (have lZ := hZ1.lt); (have hle := hB1.size); (refine wp_region_only (w.heap.size + 1) [0] [] [(true, true, 0), (false, true, 1), (false, false, 2)] (by kernel_rfl) (by kernel_rfl) (fun Y => ?_); simp only [List.map_cons, List.map_nil, List.getD_cons_zero, List.getD_cons_succ]; (have hCY := Blk.ext hC1 Y); (refine first_read rfl (v := .agg #[.int .i64 k.e, .int .i64 k.p, .slice A n c, .slice B m d]) (fun w' hw' => ?_) (fun K hK => ?_); rotate_left 1; go_simp; refine hK _ _ ?_; clear hK K; rotate_left 1; (have hB' := Blk.only hCY hw' n1; have c' := Blk.cell hB'; go_simp)); refine First.wpF_must (fun K hK => ?_); go_wp2; (refine hK _ _ (fun hnd => by first | exact Bool.noConfusion hnd | exact Only.refl _ _ | ((repeat (refine Only.set_ ?_ (.inl rfl) _)); exact Only.refl _ _)) ?_; clear hK K); refine First.wpF_must (fun K hK => ?_); go_wp2; (refine hK _ _ (fun hnd => by first | exact Bool.noConfusion hnd | exact Only.refl _ _ | ((repeat (refine Only.set_ ?_ (.inl rfl) _)); exact Only.refl _ _)) ?_; clear hK K); refine First.wpF_nil ?_; go_wp2; refine bodyPost_tc Try.results34 rfl (Blk.four (Blk.ext hZ1 Y)) Try.underlying68 rfl (by kernel_rfl) rfl ⟨rfl, ?_⟩; (repeat' (first | with_reducible exact Below.refl _ _ | with_reducible refine Below.ext ?_ ?_ _ | with_reducible refine Below.alloc ?_ ?_ _ | with_reducible refine Below.setCell ?_ ?_ _ | with_reducible refine Below.drew ?_ | with_reducible assumption | (simp [World.size_ext]; done) | (simp [World.size_ext]; omega))))
    | true =>
      rw [hs] at hH
      simp only [hu, hs, if_true, Bool.true_eq_false, if_false] at he ⊢
      by_cases hb : 4611686018427387904 ≤ k.e
      · rw [if_pos hb]
        go_enter Try.func34, Try.ntmps34
        go_wp2_with (first | (go_at_call 40; (with_reducible refine (hR _ _).mono ?_); rintro e w1 ⟨rfl, hb1⟩; obtain ⟨X, rfl⟩ := World.ext_of_below hb1; clear hb1) | (go_at_call 41; (with_reducible refine (hH _ _ _).mono ?_); rintro e w1 ⟨rfl, rfl⟩))
        (refine abstr (fun W => Blk W w.heap.size 68 #[.int .i64 k.e, .int .i64 k.p, .slice A n c, .slice B m d] ∧ Blk W (w.heap.size + 1) 68 #[.int .i64 0, .int .i64 0, .slice none 0 0, .slice none 0 0] ∧ Below w.heap.size w W) ⟨Blk.ext hC X, Blk.ext (Blk.made w _ _ _) X, by (repeat' (first | with_reducible exact Below.refl _ _ | with_reducible refine Below.ext ?_ ?_ _ | with_reducible refine Below.alloc ?_ ?_ _ | with_reducible refine Below.setCell ?_ ?_ _ | with_reducible refine Below.drew ?_ | with_reducible assumption | (simp [World.size_ext]; done) | (simp [World.size_ext]; omega)))⟩ (fun W hW => ?_)); (obtain ⟨hC1, hZ1, hB1⟩ := hW); (have cZ := hZ1.cell); (have fZ := hZ1.frozen); (have lZ := hZ1.lt); (have hle := hB1.size); (refine wp_region_only (w.heap.size + 1) [0] [] [(true, true, 0), (false, true, 1), (false, false, 2)] (by kernel_rfl) (by kernel_rfl) (fun Y => ?_); simp only [List.map_cons, List.map_nil, List.getD_cons_zero, List.getD_cons_succ]; (have hCY := Blk.ext hC1 Y); (refine first_read rfl (v := .agg #[.int .i64 k.e, .int .i64 k.p, .slice A n c, .slice B m d]) (fun w' hw' => ?_) (fun K hK => ?_); rotate_left 1; go_simp; refine hK _ _ ?_; clear hK K; rotate_left 1; (have hB' := Blk.only hCY hw' n1; have c' := Blk.cell hB'; go_simp)); refine First.wpF_must (fun K hK => ?_); go_wp2; (refine hK _ _ (fun hnd => by first | exact Bool.noConfusion hnd | exact Only.refl _ _ | ((repeat (refine Only.set_ ?_ (.inl rfl) _)); exact Only.refl _ _)) ?_; clear hK K); refine First.wpF_must (fun K hK => ?_); go_wp2; (refine hK _ _ (fun hnd => by first | exact Bool.noConfusion hnd | exact Only.refl _ _ | ((repeat (refine Only.set_ ?_ (.inl rfl) _)); exact Only.refl _ _)) ?_; clear hK K); refine First.wpF_nil ?_; go_wp2; refine bodyPost_tc Try.results34 rfl (Blk.four (Blk.ext hZ1 Y)) Try.underlying68 rfl (by kernel_rfl) rfl ⟨rfl, ?_⟩; (repeat' (first | with_reducible exact Below.refl _ _ | with_reducible refine Below.ext ?_ ?_ _ | with_reducible refine Below.alloc ?_ ?_ _ | with_reducible refine Below.setCell ?_ ?_ _ | with_reducible refine Below.drew ?_ | with_reducible assumption | (simp [World.size_ext]; done) | (simp [World.size_ext]; omega))))
      · rw [if_neg hb] at he
        exact absurd rfl he
set_option maxRecDepth 100000 in
set_option maxHeartbeats 2000000 in
theorem rchange_yes (k : Vw) (A B : Option Addr) (n c m d : Nat) (x : Int) (A1 : Option Addr) (n1' c1 : Nat) (ms : List Int) (w : World) (hm : Reads w w.heap.size 1 A1 n1' (ints ms)) (hn : n1' ≤ 9223372036854775807) (hs : Reads w w.heap.size 1 B m (ints k.ss)) (hsn : m * 8 ≤ 140737488355328) (he : changeE k x ms = 0) (he1 : 1 ≤ k.e) :
    Calls Try.prog 34 #[.agg #[.int .i64 k.e, .int .i64 k.p, .slice A n c, .slice B m d], .int .i64 x, .slice A1 n1' c1] w fun r w' => (∃ B' c', r = .returned (.tuple #[.int .i64 0, .agg #[.int .i64 (k.e + 1), .int .i64 x, .slice A1 n1' c1, .slice B' (k.ss.filter (hasB ms)).length c']]) ∧ w'.ownsRow w.heap.size 3 1 (.slice B' (k.ss.filter (hasB ms)).length c') (k.ss.filter (hasB ms)).length (ints (k.ss.filter (hasB ms)))) ∧ Below w.heap.size w w' := by
  obtain ⟨e1, e2, e3, e4⟩ := changeE_zero he
  obtain ⟨i0, hi, hz0, hz1, hz2⟩ := info_parts infoI64
  have hml := reads_len hs
  have hR : ∀ o1 o2, _ := fun o1 o2 => rvright_any 1 x A1 n1' c1 ms ((w.alloc o1).alloc o2) (((hm.alloc (Nat.le_refl _) o1).alloc (by simp) o2).more (by simp; omega)) hn
  have hH : ∀ o1 o2 X, _ := fun o1 o2 X => rhas_any B m d k.ss x (((w.alloc o1).alloc o2).ext X) ((((hs.alloc (Nat.le_refl _) o1).alloc (by simp) o2).ext (by simp; omega) X).more (by simp [World.size_ext]; omega)) (by omega)
  have hC := Blk.alloc (Blk.new w 68 #[.int .i64 k.e, .int .i64 k.p, .slice A n c, .slice B m d]) (.cells #[.int .i64 0, .int .i64 0, .slice none 0 0, .slice none 0 0] 68)
  rw [rightV_one, e1, e2] at hR
  rw [e3] at hH
  have hb : decide (4611686018427387904 ≤ k.e) = false := decide_eq_false (by omega)
  go_enter Try.func34, Try.ntmps34
  go_wp2_with (first | (go_at_call 40; (with_reducible refine (hR _ _).mono ?_); rintro e w1 ⟨rfl, hb1⟩; obtain ⟨X, rfl⟩ := World.ext_of_below hb1; clear hb1) | (go_at_call 41; (with_reducible refine (hH _ _ _).mono ?_); rintro e w1 ⟨rfl, rfl⟩))
  have hb0 : Below w.heap.size w (((w.alloc (.cells #[.int .i64 k.e, .int .i64 k.p, .slice A n c, .slice B m d] 68)).alloc (.cells #[.int .i64 0, .int .i64 0, .slice none 0 0, .slice none 0 0] 68)).ext X) := by (repeat' (first | with_reducible exact Below.refl _ _ | with_reducible refine Below.ext ?_ ?_ _ | with_reducible refine Below.alloc ?_ ?_ _ | with_reducible refine Below.setCell ?_ ?_ _ | with_reducible refine Below.drew ?_ | with_reducible assumption | (simp [World.size_ext]; done) | (simp [World.size_ext]; omega)))
  have hC0 := Blk.ext hC X
  have hZ0 := Blk.ext (Blk.made w (.cells #[.int .i64 k.e, .int .i64 k.p, .slice A n c, .slice B m d] 68) 68 #[.int .i64 0, .int .i64 0, .slice none 0 0, .slice none 0 0]) X
  clear hR hH hC
  go_loopw [8, 9] (fun vs vi wr => ∃ j : Nat, j ≤ m ∧ vi = .int .i64 (j : Int) ∧ wr.ownsRow (w.heap.size + 2) 3 1 vs (keptL ms k.ss j).length (ints (keptL ms k.ss j)) ∧ Blk wr w.heap.size 68 #[.int .i64 k.e, .int .i64 k.p, .slice A n c, .slice B m d] ∧ Blk wr (w.heap.size + 1) 68 #[.int .i64 0, .int .i64 0, .slice none 0 0, .slice none 0 0] ∧ Below w.heap.size w wr) (fun _ vi _ => ((m : Int) - intOf vi).toNat)
  case atStart => exact ⟨0, by omega, rfl, by simpa [keptL, ints] using World.ownsRow_nil _ _ _ _, hC0, hZ0, hb0⟩
  case round =>
    clear hb0 hC0 hZ0
    obtain ⟨j, hj, rfl, hown, hC, hZ, hb⟩ := hrel
    obtain ⟨wo, rfl⟩ : ∃ wo : World, wo = wr := ⟨_, rfl⟩
    have hs0 := hb.size
    have cC := hC.cell
    have lC := hC.lt
    have lZ := hZ.lt
    by_cases hlt : j < m
    · obtain ⟨b, o, rfl, hbb, hc⟩ := hs.plain (by omega) (by omega)
      have hg : k.ss[j]? = some k.ss[j] := List.getElem?_eq_getElem (by omega)
      have m1 : wo.cell? ⟨b, o + j, none⟩ = some (.int .i64 k.ss[j]) := by rw [hb.cell (p := ⟨b, _, none⟩) hbb]; exact hc _ _ (ints_get hg)
      have hbw : b < wo.heap.size := by omega
      have hlj : (j : Int) < m := by omega
      generalize k.ss[j] = y at *
      have hH := rhas_any A1 n1' c1 ms y wo ((hm.below hb).more hs0) hn
      cases hy : hasB ms y with
      | false =>
        rw [hy] at hH
        have hN := hide (keptL_no hg hy)
        clear hc hg hs hm
        go_wp2_with (go_at_call 41; (with_reducible refine hH.mono ?_); rintro e w1 ⟨rfl, rfl⟩)
        go_roundw
        case rel => exact ⟨j + 1, by omega, by go_num, by rw [hN.out]; exact hown, hC, hZ, hb⟩
        case measure => simp [intOf]; omega
      | true =>
        rw [hy] at hH
        have hN := hide (keptL_yes hg hy)
        have hkl := keptL_le ms k.ss j
        clear hc hg hs hm
        go_wp2_with (first | (go_at_call 41; (with_reducible refine hH.mono ?_); rintro e w1 ⟨rfl, rfl⟩) | (at_builtin; refine wpList_append_own _ rfl _ _ 54 rfl (w.heap.size + 2) 3 i0 (.int .i64 0) 1 8 Try.underlying54 hi hz0 hz1 hz2 rfl (by decide) _ _ _ rfl (hown.alloc _) _ 1 1 [.int .i64 y] rfl rfl ?c1 ?c2 ?c3 ?c4 ?c5 ?_))
        case c1 => exact cells_new _ #[.int .i64 y] _
        case c2 => intro u hu; simp at hu; subst hu; rfl
        case c3 => unfold maxLen; omega
        case c4 => omega
        case c5 => simp; omega
        intro v' w2 hown' hgrow hnil
        have hb2 : Below (w.heap.size + 2) (w1.alloc (.cells #[.int .i64 y] 3)) w2 := own_below (Below.refl _ _) (hown.alloc _) hgrow (Nat.le_refl _) (by simp; omega)
        go_wp2
        go_roundw
        case rel =>
          refine ⟨j + 1, by omega, by go_num, ?_, (hC.alloc _).below hb2 (by omega), (hZ.alloc _).below hb2 (by omega), (hb.alloc hs0 _).trans (hb2.mono (by omega))⟩
          rw [hN.out, List.length_append, ints_append]
          exact hown'
        case measure => simp [intOf]; omega
    · obtain rfl : j = m := by omega
      have hkf : keptL ms k.ss j = k.ss.filter (hasB ms) := by rw [← hml]; unfold keptL; rw [List.take_length]
      rw [hkf] at hown
      obtain ⟨B', c', rfl, hBc⟩ := own_sl hown
      have cZ := hZ.cell
      have fZ := hZ.frozen
      have n1 : w.heap.size ≠ w.heap.size + 1 := by omega
      have n2 : (w.heap.size + 1 : Nat) ≠ w.heap.size := by omega
      clear hm hs
      generalize hK : k.ss.filter (hasB ms) = kf at *
      go_wp2
      refine wp_region_only (w.heap.size + 1) [2] [0, 1, 3, 4, 5, 6, 7, 8] [(true, false, 0), (true, false, 1), (true, true, 2), (true, false, 3), (true, false, 4), (true, false, 5), (true, false, 6), (true, false, 7), (true, false, 8), (false, true, 9), (false, false, 10)] (by kernel_rfl) (by kernel_rfl) (fun Y => ?_); simp only [List.map_cons, List.map_nil, List.getD_cons_zero, List.getD_cons_succ]
      have hCY := Blk.ext hC Y
      (repeat (first | (refine First.wpF_pure (fun K hK => ?_); go_simp; first | (refine hK _ _ ?_; clear hK K) | (apply Exists.intro; refine ⟨fun _ => ?_, hK _ _ ?_⟩; fail)) | (refine First.wpF_free (fun K hK => ?_); go_simp; first | (refine hK _ _ ?_; clear hK K))))
      (refine first_read rfl (v := .int .i64 k.e) (fun w' hw' => ?_) (fun K hK => ?_); rotate_left 1; go_simp; refine hK _ _ ?_; clear hK K; rotate_left 1; (have hB' := Blk.only hCY hw' n1; have c' := Blk.cell hB'; go_simp))
      (repeat (first | (refine First.wpF_pure (fun K hK => ?_); go_simp; first | (refine hK _ _ ?_; clear hK K) | (apply Exists.intro; refine ⟨fun _ => ?_, hK _ _ ?_⟩; fail)) | (refine First.wpF_free (fun K hK => ?_); go_simp; first | (refine hK _ _ ?_; clear hK K))))
      refine First.wpF_must (fun K hK => ?_)
      go_wp2
      (refine hK _ _ (fun hnd => by first | exact Bool.noConfusion hnd | exact Only.refl _ _ | ((repeat (refine Only.set_ ?_ (.inl rfl) _)); exact Only.refl _ _)) ?_; clear hK K)
      refine First.wpF_must (fun K hK => ?_)
      go_wp2
      (refine hK _ _ (fun hnd => by first | exact Bool.noConfusion hnd | exact Only.refl _ _ | ((repeat (refine Only.set_ ?_ (.inl rfl) _)); exact Only.refl _ _)) ?_; clear hK K)
      refine First.wpF_nil ?_
      go_wp2
      refine bodyPost_tc Try.results34 rfl (Blk.four (Blk.ext hZ Y)) Try.underlying68 rfl (by kernel_rfl) rfl ⟨⟨B', c', by rw [hK] <;> rfl, ?_⟩, ?_⟩
      · rw [hK]
        exact own_low (own_set (own_set (own_set (own_set (own_ext hown Y) (by simp) _) (by simp) _) (by simp) _) (by simp) _) (by omega)
      · (repeat' (first | with_reducible exact Below.refl _ _ | with_reducible refine Below.ext ?_ ?_ _ | with_reducible refine Below.alloc ?_ ?_ _ | with_reducible refine Below.setCell ?_ ?_ _ | with_reducible refine Below.drew ?_ | with_reducible assumption | (simp [World.size_ext]; done) | (simp [World.size_ext]; omega)))
end Go.Proofs.Ythajbeooemngpaa
