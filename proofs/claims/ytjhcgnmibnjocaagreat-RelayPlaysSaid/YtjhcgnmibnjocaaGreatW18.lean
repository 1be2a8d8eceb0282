import Derived.Test.YtjhcgnmibnjocaaGreatWC
/-! The law: step by step a relay's answers and its state are the document's. -/
namespace Go.Proofs.YtjhcgnmibnjocaaGreat
open Go.RowKit Go.Maps
set_option linter.unusedVariables false
set_option linter.unusedSimpArgs false
set_option maxRecDepth 100000 in
set_option maxHeartbeats 40000000 in
theorem law_relayPlays (id : Int) (A : Option Addr) (n c : Nat) (l : List ROp) (w : World) (hid : I64 id) (hr : Reads w w.heap.size 14 A n (rowsV ROp.cells l)) (hok : ∀ x ∈ l, x.ok w ∧ x.m.m.log.length ≤ x.m.d) (hl : l.length = n) (hn : n ≤ 9223372036854775807) :
  Calls Tryz.prog 3 #[.int .i64 id, .slice A n c] w fun e w' => e = .returned (.bool true) ∧ Below w.heap.size w w' := by
 by_cases hk0 : 0 ≤ id ∧ id < 8
 ·obtain ⟨h0, h1⟩ := (show 0 ≤ id ∧ id < 8 from hk0)
  have hN := fun W => rnew_yes id W hk0
  have d0 : decide (id < 0) = false := by simp; omega
  have d1 : decide (8 ≤ id) = false := by simp; omega
  obtain ⟨k, hk⟩ : ∃ k : Nat, (k : Int) = id := ⟨id.toNat, by omega⟩
  have hbd : ∀ x ∈ l, x.ok w ∧ x.m.m.log.length ≤ x.m.d := hok
  go_enter Tryz.func3, Tryz.ntmps3
  go_upto_region 8 with (first | (go_at_call 4; (with_reducible refine (hN _).mono ?_); rintro e w1 ⟨rfl, hX1, hb1⟩) | (go_at_call 5; (with_reducible refine (rawake_any _).mono ?_); rintro e w2 ⟨rfl, hb2⟩))
  have hb02 : Below w.heap.size w w2 := hb1.trans (hb2.mono hb1.size)
  have hPl := Pl.new hk0 hb02 (hX1.below hb2) (fun k hk => by rcases hk with hk | hk <;> omega)
  refine abstr (fun W => Pl w W (w.heap.size + 1) w2.heap.size (newP id) (.slice none 0 0) []) hPl (fun w3 hW3 => ?_)
  have hPin0 : Pin k 0 (newP id) [] := by rw [← hk]; exact Pin.new k
  clear hPl hX1 hb1 hb2 hb02 hN
  generalize w2.heap.size = pm at *
  go_wp2
  go_loopw [5, 8, 73] (fun v5 v8 vi wr => ∃ (j g : Nat) (r : Rl) (A8 : Option Addr) (n8 c8 : Nat) (L : List (List Nat)), j ≤ n ∧ vi = .int .i64 (j : Int) ∧ v5 = .pointer (some ⟨g, 0, none⟩) ∧ v8 = .slice A8 n8 c8 ∧ Pin k j r L ∧ Pl w wr g pm r (.slice A8 n8 c8) L) (fun _ _ vi _ => ((n : Int) - intOf vi).toNat)
  case atStart => exact ⟨0, w.heap.size + 1, newP id, none, 0, 0, [], by omega, rfl, rfl, rfl, hPin0, hW3⟩
  case round =>
   clear hW3 hPin0
   obtain ⟨j, g, r, A8, n8, c8, L, hj, rfl, rfl, rfl, hPin, hPl⟩ := hrel
   obtain ⟨wo, rfl⟩ : ∃ wo : World, wo = wr := ⟨_, rfl⟩
   obtain ⟨S, T, vm, vl, va, hP⟩ := hPl
   have hb := hP.b
   have hso := hb.size
   by_cases hlt : j < n
   ·obtain ⟨b, o, rfl, hbb, hc⟩ := hr.plain (by omega) (by omega)
    obtain ⟨x, hx⟩ : ∃ x, l[j]? = some x := ⟨l[j]'(by omega), List.getElem?_eq_getElem (by omega)⟩
    obtain ⟨hxo, hcpx⟩ := hok x (List.mem_of_getElem? hx)
    have hcell : ∀ k u, x.cells[k]? = some u → wo.cell? ⟨b, o + j * 14 + k, none⟩ = some u := fun k u hu => by
     rw [hb.cell (p := ⟨b, _, none⟩) hbb, Nat.add_assoc]
     exact hc _ _ (rowsV_get ROp.len l j x hx k u hu)
    have m0 := hcell 0 _ rfl
    have m1 := hcell 1 _ rfl
    have m2 := hcell 2 _ rfl
    have m3 := hcell 3 _ rfl
    have m4 := hcell 4 _ rfl
    have m5 := hcell 5 _ rfl
    have m6 := hcell 6 _ rfl
    have m7 := hcell 7 _ rfl
    have m8 := hcell 8 _ rfl
    have m9 := hcell 9 _ rfl
    have m10 := hcell 10 _ rfl
    have m11 := hcell 11 _ rfl
    have m12 := hcell 12 _ rfl
    have m13 := hcell 13 _ rfl
    rw [Nat.add_zero] at m0
    have hbw : b < wo.heap.size := by omega
    have hlj : (j : Int) < n := by omega
    clear hc hcell hx
    obtain ⟨kd, ⟨v, A1, c1⟩, u, t, f, ⟨m, A2, c2, B2, d2⟩⟩ := x
    obtain ⟨⟨hv1, hv2, hv3⟩, hU, hun, ⟨⟨hm1, hm2, hm3⟩, hE, hEn, hi⟩, hf⟩ := hxo
    simp only at hv1 hv2 hv3 hU hun hm1 hm2 hm3 hE hEn hi hf hcpx
    have hU0 := hU
    obtain ⟨uA, uc, rfl, _⟩ := hU0.ex
    clear hU0
    have hO := Blk.new wo 40 #[.int .i64 kd, .int .i64 v.e, .int .i64 v.p, .slice A1 v.l.length c1, .slice uA t.length uc, .int .i64 f, .int .i64 m.k, .int .i64 m.e, .int .i64 m.v.e, .int .i64 m.v.p, .slice A2 m.v.l.length c2, .int .i64 m.i, .int .i64 m.s, .slice B2 m.log.length d2]
    go_upto_region 11 with fail
    refine abstr (fun W => PlX w W S T g pm r r (.slice A8 n8 c8) vm vl va L ∧ Blk W wo.heap.size 40 #[.int .i64 kd, .int .i64 v.e, .int .i64 v.p, .slice A1 v.l.length c1, .slice uA t.length uc, .int .i64 f, .int .i64 m.k, .int .i64 m.e, .int .i64 m.v.e, .int .i64 m.v.p, .slice A2 m.v.l.length c2, .int .i64 m.i, .int .i64 m.s, .slice B2 m.log.length d2]) ⟨hP.below (Below.alloc (Below.refl _ _) (Nat.le_refl _) _), hO⟩ (fun W hW => ?_)
    have hpw : w.heap.size ≤ wo.heap.size := hso
    have hpo : pm < wo.heap.size := hP.blk.lt
    have hTp : ∀ k, T k → k < wo.heap.size := hP.lt
    clear hO m0 m1 m2 m3 m4 m5 m6 m7 m8 m9 m10 m11 m12 m13 hP hb hbb hbw hso
    generalize wo.heap.size = p at *
    obtain ⟨hPW, hOW⟩ := hW
    clear wo
    clear hok hbd hr hl
    have hbW := hPW.b
    have cO := hOW.cell
    have lO := hOW.lt
    have hkW := Kp.of_below (S := fun k => w.heap.size ≤ k) hbW
    have hLt := light_any m A2 c2 B2 d2 W (hE.kp hkW) hm3 hEn
    by_cases b1 : 50 ≤ j
    ·have q1 : decide ((50 : Int) ≤ j) = true := by simp; omega
     go_wp2
     go_ret
     exact ⟨rfl, hbW⟩
    have q1 : decide ((50 : Int) ≤ j) = false := by simp; omega
    rcases hlp : lightP m with _ | _
    ·rw [hlp] at hLt
     go_wp2_with (go_at_call 6; (with_reducible refine hLt.mono ?_); rintro e w3 ⟨rfl, hb3⟩)
     go_ret
     exact ⟨rfl, hbW.trans (hb3.mono hbW.size)⟩
    rw [hlp] at hLt
    by_cases b3 : 200 < t.length
    ·have q3 : decide ((200 : Int) < t.length) = true := by simp; omega
     go_wp2_with (go_at_call 6; (with_reducible refine hLt.mono ?_); rintro e w3 ⟨rfl, hb3⟩; have cO3 := (hOW.below hb3 lO).cell; have lO3 := (hOW.below hb3 lO).lt)
     go_ret
     exact ⟨rfl, hbW.trans (hb3.mono hbW.size)⟩
    have q3 : decide ((200 : Int) < t.length) = false := by simp; omega
    by_cases b4 : 20 < v.l.length
    ·have q4 : decide ((20 : Int) < v.l.length) = true := by simp; omega
     go_wp2_with (go_at_call 6; (with_reducible refine hLt.mono ?_); rintro e w3 ⟨rfl, hb3⟩; have cO3 := (hOW.below hb3 lO).cell; have lO3 := (hOW.below hb3 lO).lt)
     go_ret
     exact ⟨rfl, hbW.trans (hb3.mono hbW.size)⟩
    have q4 : decide ((20 : Int) < v.l.length) = false := by simp; omega
    obtain ⟨hl1, hl2, hl3⟩ := light_true hlp
    go_upto_region 12 with (go_at_call 6; (with_reducible refine hLt.mono ?_); rintro e w3 ⟨rfl, hb3⟩; have cO3 := (hOW.below hb3 lO).cell; have lO3 := (hOW.below hb3 lO).lt)
    refine abstr (fun W => PlX w W S T g pm r r (.slice A8 n8 c8) vm vl va L ∧ Blk W p 40 #[.int .i64 kd, .int .i64 v.e, .int .i64 v.p, .slice A1 v.l.length c1, .slice uA t.length uc, .int .i64 f, .int .i64 m.k, .int .i64 m.e, .int .i64 m.v.e, .int .i64 m.v.p, .slice A2 m.v.l.length c2, .int .i64 m.i, .int .i64 m.s, .slice B2 m.log.length d2]) ⟨hPW.below hb3, hOW.below hb3 lO⟩ (fun W3 hW3 => ?_)
    clear cO lO hkW hLt hb3 cO3 lO3 hPW hOW hbW W
    obtain ⟨hP3, hO3⟩ := hW3
    have hbW := hP3.b
    have hsW := hbW.size
    have cO := hO3.cell
    have lO := hO3.lt
    have hkW := Kp.of_below (S := fun k => w.heap.size ≤ k) hbW
    have hrok := hP3.rel.sub.2.2.1
    have hn4 := hrok.n
    have hA1l : 0 < v.l.length → ∀ a, A1 = some a → a.block < w.heap.size := fun h0 a ha => by
     obtain ⟨a', e', hl', _⟩ := hv1.2 h0
     rw [ha] at e'; cases e'; exact hl'
    obtain ⟨Am, cm, B, d, C, f0, rfl, rfl, rfl⟩ := hP3.dr.sl
    have hL7 : L.length ≤ 1000000 := by have := hPin.ln; omega
    go_upto_block 2 with fail
    refine wp_unpath [true, true, true, true, true, true, false, true, false, false, true, true, false, false, true, true, true, false, true] _ (by kernel_rfl) (arms hk hk0 hPin b1 b3 b4 hl1 hl2 hl3 hv1 hv2 hv3 hU hun hm1 hm2 hm3 hE hEn hi hf hcpx hpw hpo hTp hP3 hO3 ?_ trivial)
    clear hP3 hO3 cO lO hkW hbW hsW hv1 hv2 hv3 hU hun hm1 hm2 hm3 hE hEn hi hf hcpx hl1 hl2 hl3 hTp hA1l hrok hn4
    unfold ArmQ
    iterate 244 intro _
    intro g' r' A6 B1 n6 c6 m1 d1 R W8 hW8 hPn hSr
    obtain ⟨S8, T8, VM, VL, VA, hP8, hR8, hR8'⟩ := hW8
    obtain rfl : m1 = n6 := hR8'.len.symm.trans hR8.len
    (have hn6 := hR8.len); (have hRs := hSr.1); (have hPin' := hide hPn); (have hSrr := dsamerecs_any A6 B1 m1 c6 d1 R W8 hR8 hR8' (by omega)); (have hSmm := fun (W : World) (T : Nat → Prop) (s : Value) (LL : List (List Nat)) (h : PlX w W S8 T g' pm r' r' s VM VL VA LL) => lsame_any r' g' VM VL VA W h.rel h.dr h.lt); go_upto_region 68 with (first | (go_at_call 22; (with_reducible refine hSrr.mono ?_); rintro e w9 ⟨rfl, hb9⟩; obtain ⟨A8', n8', c8', w10, T10, hap, hP10⟩ := (hP8.below hb9).app (hR8.kp (Kp.of_below hb9)) hL7 (by omega); have cP10 := hP10.blk.cell; have lP10 := hP10.blk.lt) | (at_builtin; refine wpList_append_run rfl _ _ 35 rfl rfl rfl hap ?_) | (go_at_call 23; (with_reducible refine (hSmm w10 T10 _ _ hP10).mono ?_); rintro e w11 ⟨rfl, hb11⟩)); go_wp2_with fail; go_roundw
    case rel => exact ⟨j + 1, _, r', A8', n8', c8', L ++ R, by omega, by go_num, rfl, rfl, hPin'.out, ⟨S8, T10, VM, VL, VA, hP10.below hb11⟩⟩
    case measure => simp [intOf]; omega
   ·obtain rfl : j = n := by omega
    go_wp2
    go_ret
    exact ⟨rfl, hb⟩
 ·have hN := fun W => rnew_no id W hk0
  by_cases h0 : id < 0
  ·have d0 : decide (id < 0) = true := by simpa using h0
   go_enter Tryz.func3, Tryz.ntmps3
   go_wp2_with (first | (go_at_call 4; (with_reducible refine (hN _).mono ?_); rintro e w1 ⟨rfl, rfl⟩) | (go_at_call 5; (with_reducible refine (rawake_any _).mono ?_); rintro e w2 ⟨rfl, hb2⟩))
   go_ret
   exact ⟨rfl, hb2⟩
  ·have d0 : decide (id < 0) = false := by simpa using h0
   have d1 : decide (8 ≤ id) = true := by simp; omega
   go_enter Tryz.func3, Tryz.ntmps3
   go_wp2_with (first | (go_at_call 4; (with_reducible refine (hN _).mono ?_); rintro e w1 ⟨rfl, rfl⟩) | (go_at_call 5; (with_reducible refine (rawake_any _).mono ?_); rintro e w2 ⟨rfl, hb2⟩))
   go_ret
   exact ⟨rfl, hb2⟩
end Go.Proofs.YtjhcgnmibnjocaaGreat
