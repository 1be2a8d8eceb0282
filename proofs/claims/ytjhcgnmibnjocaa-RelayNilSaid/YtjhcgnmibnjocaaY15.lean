import Derived.Test.YtjhcgnmibnjocaaY14
import Derived.Test.YtjhcgnmibnjocaaGA
import Derived.OwnWalk
/-! The law: a nil relay, a command that is too long, a log that is full. -/
namespace Go.Proofs.Ytjhcgnmibnjocaa
open Go.RowKit Go.Maps Go.Joins
set_option linter.unusedVariables false
set_option linter.unusedSimpArgs false
/-- A relay that is alone. -/
structure Solo (r : Rl) (n : Nat) : Prop where
  ok : r.ok
  leads : r.leads = true
  act : r.act = true
  l : r.v.l = [r.id]
  len : r.log.length = n
  s : r.sure = n
theorem Solo.next {r : Rl} {n : Nat} (h : Solo r n) (hn : n < 4096) : Solo (proposed r []) (n + 1) := by
  have hp := proposed_v r []
  have hok := settle_ok (proposed_ok h.ok (t := []) (by rw [h.len]; exact hn) (by simp) (fun x hx => by cases hx))
  have hl := (leads_of hp.1 hp.2.1).trans h.leads
  have hs : proposed r [] = { ({ r with log := r.log ++ [⟨r.v.e, []⟩], acks := ackedL r.id (r.log.length + 1) r.acks } : Rl) with act := true, sure := max r.sure (r.log.length + 1) } := by
    unfold proposed settleP
    rw [if_pos (show ({ r with log := r.log ++ [⟨r.v.e, []⟩], acks := ackedL r.id (r.log.length + 1) r.acks } : Rl).leads = true from h.leads)]
    have hlp : leastP (ackedL r.id (r.log.length + 1) r.acks) r.v.l (r.log ++ [(⟨r.v.e, []⟩ : Ent)]).length = some (r.log.length + 1) := by
      rw [h.l]
      unfold leastP
      rw [lookup_acked, if_pos rfl]
      simp [leastP]
    rw [hlp]
  refine ⟨hok, hl, by rw [hs], by rw [hp.1, hp.2.1]; exact h.l, by rw [hp.2.2, List.length_append, h.len]; rfl, ?_⟩
  rw [hs]
  show max r.sure (r.log.length + 1) = n + 1
  have := h.len
  have := h.s
  omega
theorem led3 : leadP (newP 3) ⟨1, 3, [3]⟩ = ⟨[recPromiseP ⟨1, 3, [3]⟩], 0, ⟨3, ⟨1, 3, [3]⟩, [], 1, 0, [(3, 0)], true⟩⟩ := by
  have h : promiseP (newP 3) ⟨1, 3, [3]⟩ = ⟨3, ⟨1, 3, [3]⟩, [], 1, 0, [(3, 0)], true⟩ := by decide
  unfold leadP
  rw [if_pos (by decide), if_neg (by decide), h]
theorem solo3 : Solo ⟨3, ⟨1, 3, [3]⟩, [], 1, 0, [(3, 0)], true⟩ 0 := by
  have hok := promise_ok (newP_ok (id := 3) (by omega)) (v := ⟨1, 3, [3]⟩) (by decide)
  have h : promiseP (newP 3) ⟨1, 3, [3]⟩ = ⟨3, ⟨1, 3, [3]⟩, [], 1, 0, [(3, 0)], true⟩ := by decide
  rw [h] at hok
  exact ⟨hok, by decide, rfl, rfl, rfl, rfl⟩
theorem prop_err {S T T0 : Nat → Prop} {g : Nat} {r : Rl} (u : Value) (t : List Nat) (e : Int) (w : World) (h : RelW w S T g r) (hu : Bsl w T0 u t) (hn0 : t.length ≤ 1000000) (he : proposeP r t = ⟨0, [], [], e, r⟩) :
    Calls Try.prog 16 #[.pointer (some ⟨g, 0, none⟩), u] w fun o w' => Aft w w' S T g r fun _ => ∃ A1 n1 c1 A2 n2 c2, o = .returned (.tuple #[.int .i64 0, .slice A1 n1 c1, .slice A2 n2 c2, .int .i64 e]) := by
  refine (propose_any u t w h hu hn0).mono fun o w' hA => ?_
  rw [he] at hA
  obtain ⟨S', h1, h2, h3, A1, n1, c1, A2, n2, c2, rfl, _⟩ := hA
  exact ⟨S', h1, h2, h3, A1, n1, c1, A2, n2, c2, rfl⟩
theorem prop_ok {S T : Nat → Prop} {g n : Nat} {r : Rl} (w : World) (h : RelW w S T g r) (hS : Solo r n) (hn : n < 4096) :
    Calls Try.prog 16 #[.pointer (some ⟨g, 0, none⟩), .slice none 0 0] w fun o w' => Aft w w' S T g (proposed r []) fun _ => ∃ a A1 n1 c1 A2 n2 c2, o = .returned (.tuple #[.int .i64 a, .slice A1 n1 c1, .slice A2 n2 c2, .int .i64 0]) := by
  refine (propose_any _ [] w h (Bsl.nil w (fun _ => False)) (by simp)).mono fun o w' hA => ?_
  have hP : proposeP r [] = ⟨r.log.length + 1, [recEntryP (r.log.length + 1) ⟨r.v.e, []⟩], (othersP r).map fun n => ⟨n, ⟨2, r.v.e, Vi.none, (r.log.length + 1 : Nat), (proposed r []).sure, [⟨r.v.e, []⟩]⟩⟩, 0, proposed r []⟩ := by
    unfold proposeP
    rw [if_neg (by simp), if_neg (by rw [hS.leads, hS.act]; simp), if_neg (by rw [hS.len]; omega)]
  rw [hP] at hA
  obtain ⟨S', h1, h2, h3, A1, n1, c1, A2, n2, c2, rfl, _⟩ := hA
  exact ⟨S', h1, h2, h3, _, A1, n1, c1, A2, n2, c2, rfl⟩
theorem lead3 {S T : Nat → Prop} {g : Nat} (B : Nat) (w : World) (h : RelW w S T g (newP 3)) (hB : Blk w B 3 #[.int .i64 3]) (hS : ¬S B) :
    Calls Try.prog 14 #[.pointer (some ⟨g, 0, none⟩), .agg #[.int .i64 1, .int .i64 3, .slice (some ⟨B, 0, none⟩) 1 1]] w fun o w' => Aft w w' S T g ⟨3, ⟨1, 3, [3]⟩, [], 1, 0, [(3, 0)], true⟩ fun _ => ∃ A1 n1 c1, o = .returned (.tuple #[.slice A1 n1 c1, .int .i64 0]) := by
  refine (lead1 3 1 B w h hB hS).mono fun o w' hA => ?_
  rw [led3] at hA
  obtain ⟨S', h1, h2, h3, A1, n1, c1, rfl, _⟩ := hA
  exact ⟨S', h1, h2, h3, A1, n1, c1, rfl⟩
theorem bsl_zeros {w : World} {base n : Nat} {v : Value} (h : w.ownsRow base 5 1 v n (madeCells (#[Value.int .u8 0]) (n * 1)).toList) : Bsl w (fun _ => False) v (List.replicate n 0) := by
  have hu : (madeCells (#[Value.int .u8 0]) (n * 1)).toList = u8s (List.replicate n 0) := by
    rw [toList_madeCells_one, Nat.mul_one]
    simp [u8s]
  rw [hu] at h
  have h' : Row w base v (List.replicate n 0) := by unfold Row; rw [List.length_replicate]; exact h
  exact Bsl.row h' (fun k hk => hk.elim) (fun x hx => by rw [List.eq_of_mem_replicate hx]; omega)
set_option maxRecDepth 100000 in
set_option maxHeartbeats 8000000 in
theorem law_relayNil (w : World) : Calls Try.prog 4 #[] w fun e w' => e = .returned (.bool true) ∧ Below w.heap.size w w' := by
  obtain ⟨i0, hi, hz0, hz1, hz2⟩ := info_parts infoU8
  have hfd : ∀ w, (Instr.field 39 (.agg #[.int .i64 0, .int .i64 0, .slice none 0 0]) 0).run Try.prog w = .ok (.int .i64 0) w := fun _ => by kernel_rfl
  go_enter Try.func4, Try.ntmps4
  go_upto_region 9 with (first | (go_at_call 14; (with_reducible refine (rlead_nil _ 0 0 _ rfl).mono ?_); rintro e w1 ⟨rfl, hb1⟩; have hs1 := hb1.size) | (go_at_call 16; (with_reducible refine (rpropose_nil _).mono ?_); rintro e w2 ⟨rfl, hw2⟩; subst hw2) | (go_at_call 18; (with_reducible refine (rtake_nil 1 _).mono ?_); rintro e w3 ⟨rfl, hb3⟩; have hs3 := hb3.size) | (go_at_call 9; (with_reducible refine (rnew_yes 3 w3 (by omega)).mono ?_); rintro e w4 ⟨rfl, hX4, hb4⟩; have hW4 : RelW w4 _ _ _ (newP 3) := ⟨newP_ok (by omega), _, _, _, _, hX4⟩; have hs4 := hb4.size; clear hX4) | (go_at_call 16; (with_reducible refine (prop_err _ [] 3 w4 hW4 (Bsl.nil w4 (fun _ => False)) (by simp) (by unfold proposeP; rw [if_neg (by simp), if_pos (by decide)])).mono ?_); rintro e w5 hA5; obtain ⟨hR5, hb5, _, A5, n5, c5, B5, m5, d5, rfl⟩ := hA5.rly (base := w3.heap.size) hW4 (fun k hk => by omega) (by omega)))
  obtain ⟨S5, T5, hW5, hT5⟩ := hR5
  have hs5 := hb5.size
  have hb05 : Below w.heap.size w w5 := ((hb1.trans (hb3.mono hs1)).trans (hb4.mono (by omega))).trans (hb5.mono (by omega))
  have hs05 := hb05.size
  have hgw : w.heap.size ≤ w3.heap.size := by omega
  generalize w3.heap.size = q at *
  have hQ5 := hide (show ∀ k, T5 k → w.heap.size ≤ k from fun k hk => by have := hT5 k hk; omega)
  clear hb1 hb3 hb4 hb5 hW4 hs3 hs4 hs5 hs1 hT5
  go_upto_region 10 with (go_at_call 14; (with_reducible refine (lead3 w5.heap.size _ (hW5.below (Below.alloc (Below.refl _ _) (Nat.le_refl _) (.cells #[.int .i64 3] 3))) (Blk.new w5 _ _) (fun hk => by have := hW5.lt _ hk; omega)).mono ?_); rintro e w6 hA6; obtain ⟨hR6, hb6, _, A6, n6, c6, rfl⟩ := hA6.rly (base := w.heap.size) (hW5.below (Below.alloc (Below.refl _ _) (Nat.le_refl _) _)) hQ5.out (by simp; omega))
  obtain ⟨S6, T6, hW6, hT6⟩ := hR6
  have hb06 : Below w.heap.size w w6 := (hb05.alloc hs05 _).trans hb6
  have hs06 := hb06.size
  clear hb6 hb05 hW5 hQ5
  go_upto_region 11 with (first | (at_make; refine wpList_make_full _ rfl _ _ 32 rfl w6.heap.size 5 i0 (.int .u8 0) 1 Try.underlying32 hi hz0 hz1 .i64 .i64 _ _ 262145 rfl rfl rfl rfl (by rw [hz2]; omega) (by unfold maxLen; omega) (Nat.le_refl _) ?_; intro w7 hown7 hgrow7; have hz7 := bsl_zeros hown7; have hb7 : Below w6.heap.size w6 w7 := (Below.refl _ _).grown hgrow7 (Nat.le_refl _) (by intro k hk; cases hk)) | (go_at_call 16; (with_reducible refine (prop_err _ (List.replicate 262145 0) 8 w7 (hW6.below hb7) hz7 (by rw [List.length_replicate]; omega) (by unfold proposeP; rw [if_pos (by rw [List.length_replicate]; omega)])).mono ?_); rintro e w8 hA8; obtain ⟨hR8, hb8, _, A8, n8, c8, B8, m8, d8, rfl⟩ := hA8.rly (base := w.heap.size) (hW6.below hb7) hT6 (by have := hb7.size; omega)))
  have hb08 : Below w.heap.size w w8 := (hb06.trans (hb7.mono hs06)).trans hb8
  clear hb06 hb7 hb8 hown7 hgrow7 hz7 hW6 hT6
  go_wp2
  go_loopw [72] (fun vi wr => ∃ (j : Nat) (r : Rl), j ≤ 4096 ∧ vi = .int .i64 (j : Int) ∧ Rly wr w.heap.size (q + 1) r ∧ Solo r j ∧ Below w.heap.size w wr) (fun vi _ => ((4096 : Int) - intOf vi).toNat)
  case atStart => exact ⟨0, _, by omega, rfl, hR8, solo3, hb08⟩
  case round =>
    clear hR8 hb08
    obtain ⟨j, r, hj, rfl, ⟨S, T, hW, hT⟩, hSo, hb⟩ := hrel
    obtain ⟨wo, rfl⟩ : ∃ wo : World, wo = wr := ⟨_, rfl⟩
    have hso := hb.size
    by_cases hlt : j < 4096
    · have hlj : (j : Int) < 4096 := by omega
      go_wp2_with (go_at_call 16; (with_reducible refine (prop_ok wo hW hSo hlt).mono ?_); rintro e w9 hA9; obtain ⟨hR9, hb9, _, a9, A9, n9, c9, B9, m9, d9, rfl⟩ := hA9.rly (base := w.heap.size) hW hT hso)
      go_roundw
      case rel => exact ⟨j + 1, _, by omega, by go_num, hR9, hSo.next hlt, hb.trans hb9⟩
      case measure => simp [intOf]; omega
    · obtain rfl : j = 4096 := by omega
      have hP := prop_err (.slice none 0 0) [] 4 wo hW (Bsl.nil wo (fun _ => False)) (by simp) (by unfold proposeP; rw [if_neg (by simp), if_neg (by rw [hSo.leads, hSo.act]; simp), if_pos (by rw [hSo.len]; omega)])
      have hsu := hide hSo.s
      clear hSo
      go_wp2_with (first | (go_at_call 16; (with_reducible refine hP.mono ?_); rintro e w9 hA9; obtain ⟨hR9, hb9, _, A9, n9, c9, B9, m9, d9, rfl⟩ := hA9.rly (base := w.heap.size) hW hT hso) | (go_at_call 10; (with_reducible refine (rawake_any _).mono ?_); rintro e w10 ⟨rfl, hb10⟩) | (go_at_call 17; (with_reducible refine (rtick_nil _).mono ?_); rintro e w11 ⟨rfl, hw11⟩; subst hw11) | (go_at_call 22; (with_reducible refine (rsave_nil _).mono ?_); rintro e w12 ⟨rfl, hw12⟩; subst hw12) | (go_at_call 23; (with_reducible refine (rlog_nil _).mono ?_); rintro e w13 ⟨rfl, hw13⟩; subst hw13) | (go_at_call 13; (with_reducible refine (rsure_nil _).mono ?_); rintro e w14 ⟨rfl, hw14⟩; subst hw14) | (go_at_call 21; (with_reducible refine (ractive_nil _).mono ?_); rintro e w15 ⟨rfl, hw15⟩; subst hw15) | (go_at_call 12; (with_reducible refine (rview_nil _).mono ?_); rintro e w16 ⟨rfl, hb16⟩; have hR16 := (hR9.below hb10).below hb16; obtain ⟨S16, T16, hW16, _⟩ := hR16) | (go_at_call 13; (with_reducible refine (rsure_any _ hW16).mono ?_); rintro e w17 ⟨rfl, hw17⟩; subst hw17; rw [hsu.out]))
      go_ret
      have s9 := hb9.size
      have s10 := hb10.size
      exact ⟨rfl, ((hb.trans hb9).trans (hb10.mono (by omega))).trans (hb16.mono (by omega))⟩
section
open Go.ChangeShapes Go.WideShapes Go.ChangeAt
variable {H : Type} {enc : TypeId × Value → H}
set_option maxRecDepth 100000 in
theorem relayNil_walk : LawWalk enc Try.prog 4 Try.f4 := by
  intro W base args ds ps hval hA hlt _
  rw [Try.params4] at hA hval
  have hl := (trodAll_length hA).1
  have : args = #[] := by simpa using hl
  subst this
  exact law_relayNil W
set_option maxRecDepth 100000 in
theorem relayNil_lifted (os : Os) (started : os.Started) (H : Type) (enc : TypeId × Value → H) :
    ReturnsInHanded {} Try.checked os 4 .any (Rows.relayNilSpec.pre6 enc Try.prog Try.f4 Rows.relayNilRow.domain false) (Rows.relayNilSpec.post enc Try.prog Try.f4 false true false false) :=
  law_lifted (C := Try.checked) own started (by kernel_rfl) Try.func4 laidOut (by kernel_rfl) rfl Try.underlying4 rfl
    (fun ds h => by obtain rfl := List.eq_nil_of_length_eq_zero h; rfl)
    (ChangeSpec.witness6 (enc := enc) (C := Try.checked) false ⟨#[], #[], []⟩ 8 (by kernel_rfl) (by kernel_rfl) (by kernel_rfl) (by kernel_rfl))
    relayNil_walk
theorem relayNil_holds : Rows.RelayNilSaid :=
  OpenClaim.holds_of_wide 4 Try.f4 rfl rfl rfl rfl rfl rfl rfl ⟨rfl, rfl, rfl, rfl, rfl⟩ rfl rfl rfl rfl rfl (by kernel_rfl) Try.func4 (by kernel_rfl)
    (of_decide_eq_true (by kernel_rfl)) (by unfold Func.isWrapper; rw [if_neg (of_decide_eq_false (by kernel_rfl))]; exact ⟨rfl, rfl⟩)
    (fun os started H enc _ => relayNil_lifted os started H enc)
#print axioms relayNil_holds
end
end Go.Proofs.Ytjhcgnmibnjocaa
