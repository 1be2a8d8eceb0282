import Derived.Test.YtgojpcaoapbpaaaBytes2
import Derived.Test.YtgojpcaoapbpaaaFirst
import Derived.Test.YtgojpcaoapbpaaaGrow
/-! The laws on stamps' bytes. -/
namespace Go.Proofs.Ytgojpcaoapbpaaa
open Go.RowKit
set_option linter.unusedVariables false
set_option linter.unusedSimpArgs false
theorem Reads.of_ownsRow {w : World} {base n : Nat} {e : TypeId} {v : Value} {xs : List Value} (h : w.ownsRow base e 1 v n xs) : ∃ A c, v = .slice A n c ∧ Reads w w.heap.size 1 A n xs := by
  rcases h.2 with ⟨hv, h0⟩ | ⟨g, cap, cur, hv, hr⟩
  · subst hv h0; exact ⟨_, _, rfl, Reads.of_own h⟩
  · subst hv; exact ⟨_, _, rfl, Reads.of_own h⟩
set_option maxHeartbeats 800000 in
theorem law_bytes (a b c : Int) (A : Option Addr) (n cap : Nat) (l : List Nat) (w : World) (ha : I64 a) (hb : U32 b) (hc : U32 c) (hr : Reads w w.heap.size 1 A n (u8s l)) (hby : ∀ x ∈ l, x < 256) :
    Calls Try.prog 6 #[.agg #[.int .i64 a, .int .u32 b, .int .u32 c], .slice A n cap] w fun e w' => e = .returned (.bool true) ∧ Below w.heap.size w w' := by
  go_enter Try.func6, Try.ntmps6
  go_wp2
  refine First.wp_region_first_ext [0, 3] [(true, true, 0), (true, true, 3), (false, true, 1), (false, true, 2), (false, false, 4), (false, false, 5), (false, false, 6)] (by kernel_rfl) (by kernel_rfl) (fun X => ?_); simp only [List.map_cons, List.map_nil, List.getD_cons_zero, List.getD_cons_succ]
  (repeat (first | (refine First.wpF_free (fun K hK => ?_); go_simp; first | (refine hK _ _ ?_; clear hK K) | (apply Exists.intro; refine ⟨fun _ => ?_, hK _ _ ?_⟩; go_wp2_with (first | (go_at_call 10; refine (to_any _ _ _ _).mono ?_; rintro e w' ⟨rfl, hb⟩; obtain ⟨X, rfl⟩ := World.ext_of_below hb; clear hb) | (go_at_call 12; refine (from_any _ _ _ _).mono ?_; rintro e w' ⟨rfl, hb⟩; obtain ⟨X, rfl⟩ := World.ext_of_below hb; clear hb) | (go_at_call 15; refine (right_any _ _ _ _).mono ?_; rintro e w' ⟨rfl, hb⟩; obtain ⟨X, rfl⟩ := World.ext_of_below hb; clear hb) | (go_at_call 17; refine (compare_any _ _ _ _ _ _ _).mono ?_; rintro e w' ⟨rfl, hb⟩; obtain ⟨X, rfl⟩ := World.ext_of_below hb; clear hb) | (go_at_call 19; refine (put_any _ _ _ _ ha hb hc).mono ?_; rintro e w' ⟨v, rfl, ho, hbw⟩; obtain ⟨X1, rfl⟩ := World.ext_of_below hbw; clear hbw; obtain ⟨A1, cap1, rfl, ho1⟩ := Reads.of_ownsRow ho; clear ho) | (go_at_call 20; refine (rput_any _ _ _ _ ha hb hc).mono ?_; rintro e w' ⟨v, rfl, ho, hbw⟩; obtain ⟨X0, rfl⟩ := World.ext_of_below hbw; clear hbw; obtain ⟨A0, cap0, rfl, ho0⟩ := Reads.of_ownsRow ho; clear ho)); clear hK K)) | (refine First.wpF_must (fun K hK => ?_); go_simp; go_wp2_with (first | (go_at_call 10; refine (to_any _ _ _ _).mono ?_; rintro e w' ⟨rfl, hb⟩; obtain ⟨X, rfl⟩ := World.ext_of_below hb; clear hb) | (go_at_call 12; refine (from_any _ _ _ _).mono ?_; rintro e w' ⟨rfl, hb⟩; obtain ⟨X, rfl⟩ := World.ext_of_below hb; clear hb) | (go_at_call 15; refine (right_any _ _ _ _).mono ?_; rintro e w' ⟨rfl, hb⟩; obtain ⟨X, rfl⟩ := World.ext_of_below hb; clear hb) | (go_at_call 17; refine (compare_any _ _ _ _ _ _ _).mono ?_; rintro e w' ⟨rfl, hb⟩; obtain ⟨X, rfl⟩ := World.ext_of_below hb; clear hb) | (go_at_call 19; refine (put_any _ _ _ _ ha hb hc).mono ?_; rintro e w' ⟨v, rfl, ho, hbw⟩; obtain ⟨X1, rfl⟩ := World.ext_of_below hbw; clear hbw; obtain ⟨A1, cap1, rfl, ho1⟩ := Reads.of_ownsRow ho; clear ho) | (go_at_call 20; refine (rput_any _ _ _ _ ha hb hc).mono ?_; rintro e w' ⟨v, rfl, ho, hbw⟩; obtain ⟨X0, rfl⟩ := World.ext_of_below hbw; clear hbw; obtain ⟨A0, cap0, rfl, ho0⟩ := Reads.of_ownsRow ho; clear ho)); go_simp; refine hK _ _ (fun _ => by first | with_reducible exact First.Grown.refl _ | with_reducible exact First.Grown.cat _ _ _ | with_reducible exact First.Grown.ext _ _) ?_; clear hK K)))
  refine First.wpF_nil ?_
  have r1 := ho1.grown X0
  have r0 := ho0
  clear ho1 ho0
  simp only [World.ext_ext] at r1 r0
  generalize Ext.cat (Ext.cat _ X1) X0 = X at *
  simp only [World.size_ext, World.size_alloc] at r1 r0
  go_wp2_with (first | (go_at_call 21; go_must (refine (get_any A n cap l _ (Reads.more (B := w.heap.size) (by (repeat' (first | with_reducible exact hr | with_reducible refine Reads.cat_ ?_ ?_ _ | with_reducible refine Reads.ext ?_ ?_ _ | with_reducible refine Reads.alloc ?_ ?_ _ | with_reducible refine Reads.setCell ?_ ?_ _ | (simp [World.size_ext]; done) | (simp [World.size_ext]; omega)))) (by first | omega | (simp [World.size_ext]; done) | (simp [World.size_ext]; omega))) hby).mono ?_); rintro e w' ⟨rfl, hb⟩; obtain ⟨X2, rfl⟩ := World.ext_of_below hb; clear hb) | (go_at_call 22; refine (rget_any A n cap l _ (Reads.more (B := w.heap.size) (by (repeat' (first | with_reducible exact hr | with_reducible refine Reads.cat_ ?_ ?_ _ | with_reducible refine Reads.ext ?_ ?_ _ | with_reducible refine Reads.alloc ?_ ?_ _ | with_reducible refine Reads.setCell ?_ ?_ _ | (simp [World.size_ext]; done) | (simp [World.size_ext]; omega)))) (by first | omega | (simp [World.size_ext]; done) | (simp [World.size_ext]; omega))) hby).mono ?_; rintro e w' ⟨rfl, hb⟩; obtain ⟨X3, rfl⟩ := World.ext_of_below hb; clear hb))
  have k1 : ∀ (c' : Nat) W, Reads W (w.heap.size + 1 + X.blocks.size) 1 A1 16 (u8s (stampBytes a b c)) → (convert 41 9 (.slice A1 16 c')).run Try.prog W = .ok (.string (strOf (stampBytes a b c))) W := fun c' W h => conv_bytes h Try.underlying41 Try.underlying5 Try.underlying9 c'
  have k0 : ∀ (c' : Nat) W, Reads W (w.heap.size + 1 + X.blocks.size) 1 A0 16 (u8s (stampBytes a b c)) → (convert 41 9 (.slice A0 16 c')).run Try.prog W = .ok (.string (strOf (stampBytes a b c))) W := fun c' W h => conv_bytes h Try.underlying41 Try.underlying5 Try.underlying9 c'
  refine wp_region_ext_lit (by kernel_rfl) (by kernel_rfl) ?_
  (repeat (quiet_step (first | (go_at_call 12; exact Calls.ext_of (from_any _ _ _ _)) | (rw [k1]; (exact ⟨rfl, rfl⟩); (repeat' (first | with_reducible exact r1 | with_reducible refine Reads.cat_ ?_ ?_ _ | with_reducible refine Reads.ext ?_ ?_ _ | with_reducible refine Reads.alloc ?_ ?_ _ | with_reducible refine Reads.setCell ?_ ?_ _ | (simp [World.size_ext]; done) | (simp [World.size_ext]; omega)))) | (rw [k0]; (exact ⟨rfl, rfl⟩); (repeat' (first | with_reducible exact r0 | with_reducible refine Reads.cat_ ?_ ?_ _ | with_reducible refine Reads.ext ?_ ?_ _ | with_reducible refine Reads.alloc ?_ ?_ _ | with_reducible refine Reads.setCell ?_ ?_ _ | (simp [World.size_ext]; done) | (simp [World.size_ext]; omega)))))))
  refine wpQuiet_nil ?_; intro _ hw'; obtain ⟨Y, hw''⟩ := hw'; subst hw''
  go_wp2
  go_ret
  refine ⟨rfl, ?_⟩
  (repeat' (first | with_reducible exact Below.refl _ _ | with_reducible refine Below.ext ?_ ?_ _ | with_reducible refine Below.alloc ?_ ?_ _ | with_reducible refine Below.setCell ?_ ?_ _ | with_reducible refine Below.drew ?_ | with_reducible assumption | (simp [World.size_ext]; done) | (simp [World.size_ext]; omega)))
section
open Go.ChangeShapes Go.WideShapes Go.ChangeAt
variable {H : Type} {enc : TypeId × Value → H}
theorem stampBytes_walk : LawWalk enc Try.prog 6 Try.f6 := by
  intro W base args ds ps hval hA hlt _
  rw [Try.params6] at hA hval
  obtain ⟨v0, v1, d0, d1, p0, p1, rfl, rfl, rfl, h0, h1⟩ := trodAll_two hA
  obtain ⟨a, b, c, rfl, ha, hb, hc⟩ := stamp_open (hval 0 _ v0 rfl rfl) h0
  obtain ⟨A, n, cap, l, rfl, _, hr, hby⟩ := bytes_open Try.underlying41 Try.underlying5 (by kernel_rfl) (hval 1 _ v1 rfl rfl) h1 (fun x hx => hlt x (by simp [hx]))
  exact law_bytes a b c A n cap l W ha hb hc hr hby
set_option maxRecDepth 100000 in
theorem stampBytes_lifted (os : Os) (started : os.Started) (H : Type) (enc : TypeId × Value → H) :
    ReturnsInHanded {} Try.checked os 6 .any (Rows.stampBytesSpec.pre6 enc Try.prog Try.f6 Rows.stampBytesRow.domain false) (Rows.stampBytesSpec.post enc Try.prog Try.f6 false true false false) :=
  law_lifted (C := Try.checked) own started (by kernel_rfl) Try.func6 laidOut (by kernel_rfl) rfl Try.underlying4 rfl
    (fun ds h => by obtain ⟨d0, d1, rfl⟩ := list2 h; rfl)
    (ChangeSpec.witness6 (enc := enc) (C := Try.checked) false ⟨#[], #[.agg #[.int .i64 0, .int .u32 0, .int .u32 0], .slice none 0 0], []⟩ 8 (by kernel_rfl) (by kernel_rfl) (by kernel_rfl) (by kernel_rfl))
    stampBytes_walk
theorem stampBytes_holds : Rows.StampBytesSaid :=
  OpenClaim.holds_of_wide 6 Try.f6 rfl rfl rfl rfl rfl rfl rfl ⟨rfl, rfl, rfl, rfl, rfl⟩ rfl rfl rfl rfl rfl (by kernel_rfl) Try.func6 (by kernel_rfl)
    (of_decide_eq_true (by kernel_rfl)) (by unfold Func.isWrapper; rw [if_neg (of_decide_eq_false (by kernel_rfl))]; exact ⟨rfl, rfl⟩)
    (fun os started H enc _ => stampBytes_lifted os started H enc)
#print axioms stampBytes_holds
end
end Go.Proofs.Ytgojpcaoapbpaaa
