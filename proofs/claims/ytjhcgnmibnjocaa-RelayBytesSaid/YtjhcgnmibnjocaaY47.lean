import Derived.Test.YtjhcgnmibnjocaaY46
import Derived.Test.YtjhcgnmibnjocaaY33
/-! The law: messages' bytes. -/
namespace Go.Proofs.Ytjhcgnmibnjocaa
open Go.RowKit Go.Maps
set_option linter.unusedVariables false
set_option linter.unusedSimpArgs false
theorem row_grown {w w' : World} {base : Nat} {v : Value} {xs : List Nat} (h : Row w base v xs) (hg : First.Grown w w') : Row w' base v xs := by
  obtain ⟨Y, rfl⟩ := hg
  exact own_keep h (fun k _ hk => (World.below_ext w Y).block k hk)
theorem glE_len : ∀ (k : Nat) (r : Rest), (glE k r).1.length ≤ k
  | 0, r => Nat.le_refl _
  | k + 1, r => by
    unfold glE
    split
    · have := glE_len k (glStep r).2
      simp only [List.length_cons]
      omega
    · simp
theorem getL_len (r : Rest) : (getL r).1.length ≤ 4096 := by
  have h1 := glE_len (countP 4096 r).1 (countP 4096 r).2
  have h2 := countP_bd (m := 4096) (r := r) (by omega)
  unfold getL
  omega
theorem decP_bd (bs : List Nat) : (decP bs).1.log.length ≤ 4096 ∧ (decP bs).1.v.l.length ≤ 8 := by
  unfold decP
  split
  · exact ⟨by simp [Mg.none], by simp [Mg.none, Vi.none]⟩
  · exact ⟨getL_len _, getV_bd _⟩
theorem tailB_by {l : List Int} (h : ∀ x ∈ l, I64 x) : ∀ y ∈ tailB l, y < 256 := fun y hy => by
  unfold tailB at hy
  obtain ⟨x, hx, hy⟩ := List.mem_flatMap.1 hy
  exact numB_lt _ (zig_lt _ (h x hx)) y hy
theorem mgB_by {m : Mg} (h : m.num) (hok : ∀ x ∈ m.log, x.ok) : ∀ y ∈ mgB m, y < 256 := fun y hy => by
  have := h.ln
  have := h.vn
  simp only [mgB, viewB, List.mem_append] at hy
  rcases hy with hy | hy | (hy | hy | hy | hy) | hy | hy | hy
  · exact numB_lt _ (zig_lt _ h.k) y hy
  · exact numB_lt _ (zig_lt _ h.e) y hy
  · exact numB_lt _ (zig_lt _ h.v.e) y hy
  · exact numB_lt _ (zig_lt _ h.v.p) y hy
  · exact numB_lt _ (by omega) y hy
  · exact tailB_by h.v.l y hy
  · exact numB_lt _ (zig_lt _ h.i) y hy
  · exact numB_lt _ (zig_lt _ h.s) y hy
  · exact logB_by hok (by omega) y hy
set_option maxRecDepth 100000 in
set_option maxHeartbeats 4000000 in
theorem law_relayBytes (m : Mg) (A : Option Addr) (c : Nat) (B : Option Addr) (d : Nat) (Ab : Option Addr) (cb : Nat) (bs : List Nat) (w : World) (hm : RMg.ok w ⟨m, A, c, B, d⟩)
    (hrb : Reads w w.heap.size 1 Ab bs.length (u8s bs)) (hby : ∀ x ∈ bs, x < 256) (hnil : Ab = none → cb = 0) (hcb : bs.length ≤ cb ∧ cb ≤ maxLen) (hlen : bs.length ≤ 140737488355328) :
    Calls Try.prog 5 #[.agg #[.int .i64 m.k, .int .i64 m.e, .int .i64 m.v.e, .int .i64 m.v.p, (.slice A m.v.l.length c), .int .i64 m.i, .int .i64 m.s, (.slice B m.log.length d)], .slice Ab bs.length cb] w fun r w' => r = .returned (.bool true) ∧ Below w.heap.size w w' := by
  obtain ⟨⟨hm1, hm2, hm3⟩, hE, hEn, hi⟩ := hm
  simp only at hm1 hm2 hm3 hE hEn hi
  have hB0 := Blk.new w 35 #[.int .i64 m.k, .int .i64 m.e, .int .i64 m.v.e, .int .i64 m.v.p, (.slice A m.v.l.length c), .int .i64 m.i, .int .i64 m.s, (.slice B m.log.length d)]
  have hb0 : Below w.heap.size w (w.alloc (.cells #[.int .i64 m.k, .int .i64 m.e, .int .i64 m.v.e, .int .i64 m.v.p, (.slice A m.v.l.length c), .int .i64 m.i, .int .i64 m.s, (.slice B m.log.length d)] 35)) := Below.alloc (Below.refl _ _) (Nat.le_refl _) _
  have hLt := light_any m A c B d _ (hE.kp (Kp.of_below hb0)) hm3 hEn
  rcases hlp : lightP m with _ | _
  · rw [hlp] at hLt
    go_enter Try.func5, Try.ntmps5
    go_wp2_with (first | (go_at_call 11; (with_reducible refine hLt.mono ?_); rintro e w1 ⟨rfl, hb1⟩) | (go_at_call 10; (with_reducible refine (rawake_any _).mono ?_); rintro e w2 ⟨rfl, hb2⟩))
    go_ret
    have hb01 := hb0.trans (hb1.mono hb0.size)
    exact ⟨rfl, hb01.trans (hb2.mono hb01.size)⟩
  rw [hlp] at hLt
  by_cases h5 : 5000 < bs.length
  · have d5 : decide ((5000 : Int) < bs.length) = true := by simp; omega
    go_enter Try.func5, Try.ntmps5
    go_wp2_with (first | (go_at_call 11; (with_reducible refine hLt.mono ?_); rintro e w1 ⟨rfl, hb1⟩) | (go_at_call 10; (with_reducible refine (rawake_any _).mono ?_); rintro e w2 ⟨rfl, hb2⟩))
    go_ret
    have hb01 := hb0.trans (hb1.mono hb0.size)
    exact ⟨rfl, hb01.trans (hb2.mono hb01.size)⟩
  have d5 : decide ((5000 : Int) < bs.length) = false := by simp; omega
  obtain ⟨hl1, hl2, hl3⟩ := light_true hlp
  have hEm := hE.ents hl3
  have hnum : m.num := ⟨hi.1, hi.2.1, hm2, hi.2.2.1, hi.2.2.2, hl2, hl1⟩
  have hmB := mgB_by hnum hEm.okAll
  have hmL := mgB_le hnum hEm.okAll
  have hdb := decP_bd bs
  have hdm := decP_bd (mgB m)
  rcases hD : decP bs with ⟨D, e1⟩
  rcases hD2 : decP (mgB m) with ⟨D2, e2⟩
  have hdec := fun W h => rdecode_any Ab cb bs W h hby hnil hlen
  have hddec := fun W h => ddecode_any Ab cb bs W h hby hnil hcb.1 hcb.2 hlen
  rw [hD] at hdb hdec hddec
  rw [hD2] at hdm
  simp only at hdb hdm hdec hddec
  go_enter Try.func5, Try.ntmps5
  go_upto_region 3 with (go_at_call 11; (with_reducible refine hLt.mono ?_); rintro e w1 ⟨rfl, hb1⟩)
  have hb01 := hb0.trans (hb1.mono hb0.size)
  have hB1 := hB0.below hb1 hB0.lt
  clear hLt hB0 hb0 hb1
  have hr1 := (hrb.below hb01).more hb01.size
  go_upto_region 4 with (go_at_call 24; (with_reducible refine (hdec _ hr1).mono ?_); rintro e w2 ⟨⟨vmx, vlx, rfl, hMx⟩, hb2⟩; obtain ⟨Ax, cx, Bx, dx, rfl, rfl, -⟩ := hMx.sl)
  have hb02 := hb01.trans (hb2.mono hb01.size)
  refine abstr (fun W => Below w.heap.size w W ∧ Blk W w.heap.size 35 #[.int .i64 m.k, .int .i64 m.e, .int .i64 m.v.e, .int .i64 m.v.p, (.slice A m.v.l.length c), .int .i64 m.i, .int .i64 m.s, (.slice B m.log.length d)] ∧ Blk W w2.heap.size 54 #[.int .i64 D.k, .int .i64 D.e, .int .i64 D.v.e, .int .i64 D.v.p, (.slice Ax D.v.l.length cx), .int .i64 D.i, .int .i64 D.s, (.slice Bx D.log.length dx)] ∧ MgW W (fun k => k < w.heap.size) (.slice Ax D.v.l.length cx) (.slice Bx D.log.length dx) D) ⟨?_, ?_, ?_, ?_⟩ (fun W hW => ?_)
  · exact hb02.alloc hb02.size _
  · exact (hB1.below hb2 hB1.lt).alloc _
  · exact Blk.new _ _ _
  · exact ((hMx.sub (T' := fun k => k < w.heap.size) (fun k _ hk => by have := hb01.size; omega)).kp (Kp.of_below (Below.alloc (Below.refl _ _) (Nat.le_refl _) _)))
  clear hr1 hdec hb01 hb02 hb2 hB1 hMx
  have hx2 : w.heap.size < w2.heap.size ∨ True := .inr trivial
  obtain ⟨hbW, hBW, hxW, hMx⟩ := hW
  generalize w2.heap.size = px at *
  have hsW := hbW.size
  have hr1 := (hrb.below hbW).more hsW
  go_upto_region 5 with (go_at_call 25; (with_reducible refine (hddec _ hr1).mono ?_); rintro e w3 ⟨⟨vmy, vly, rfl, hMy⟩, hb3⟩; obtain ⟨Ay, cy, By, dy, rfl, rfl, -⟩ := hMy.sl)
  refine abstr (fun W => Below w.heap.size w W ∧ Blk W w.heap.size 35 #[.int .i64 m.k, .int .i64 m.e, .int .i64 m.v.e, .int .i64 m.v.p, (.slice A m.v.l.length c), .int .i64 m.i, .int .i64 m.s, (.slice B m.log.length d)] ∧ Blk W px 54 #[.int .i64 D.k, .int .i64 D.e, .int .i64 D.v.e, .int .i64 D.v.p, (.slice Ax D.v.l.length cx), .int .i64 D.i, .int .i64 D.s, (.slice Bx D.log.length dx)] ∧ MgW W (fun k => k < w.heap.size) (.slice Ax D.v.l.length cx) (.slice Bx D.log.length dx) D ∧
    Blk W w3.heap.size 35 #[.int .i64 D.k, .int .i64 D.e, .int .i64 D.v.e, .int .i64 D.v.p, (.slice Ay D.v.l.length cy), .int .i64 D.i, .int .i64 D.s, (.slice By D.log.length dy)] ∧ MgW W (fun k => k < w.heap.size) (.slice Ay D.v.l.length cy) (.slice By D.log.length dy) D) ⟨?_, ?_, ?_, ?_, ?_, ?_⟩ (fun W4 hW4 => ?_)
  · exact (hbW.trans (hb3.mono hsW)).alloc (by have := hb3.size; omega) _
  · exact (hBW.below hb3 hBW.lt).alloc _
  · exact (hxW.below hb3 hxW.lt).alloc _
  · exact (hMx.kp (Kp.of_below hb3)).kp (Kp.of_below (Below.alloc (Below.refl _ _) (Nat.le_refl _) _))
  · exact Blk.new _ _ _
  · exact ((hMy.sub (T' := fun k => k < w.heap.size) (fun k _ hk => by omega)).kp (Kp.of_below (Below.alloc (Below.refl _ _) (Nat.le_refl _) _)))
  clear hr1 hddec hb3 hMy hbW hBW hxW hMx hsW
  obtain ⟨hb4, hB4, hx4, hMx4, hy4, hMy4⟩ := hW4
  generalize w3.heap.size = py at *
  have hs4 := hb4.size
  have c4 := hB4.cell
  have l4 := hB4.lt
  have hto := to_any m A c B d W4 (Reads.kp hm1 (Kp.of_below (S := fun _ => False) hb4) (fun _ _ _ h => h)) (hEm.kp (Kp.of_below hb4)) (by omega) (by omega)
  go_upto_region 6 with (first | (go_at_call 19; (with_reducible refine hto.mono ?_); rintro e w5 ⟨vm5, vl5, rfl, hM5, hb5⟩; have hen5 := rencode_any m vm5 vl5 w5 hM5 hnum) | (go_at_call 26; (with_reducible refine hen5.mono ?_); rintro e w6 ⟨u6, rfl, hu6, hb6⟩; obtain ⟨A6, c6, rfl, h61, h62, h63, h64⟩ := hu6.slice; have hde6 := rdecode_any A6 c6 (mgB m) w6 h64 hmB h63 (by omega); rw [hD2] at hde6; (simp only at hde6)) | (go_at_call 24; (with_reducible refine hde6.mono ?_); rintro e w7 ⟨⟨vmz, vlz, rfl, hMz⟩, hb7⟩; obtain ⟨Az, cz, Bz, dz, rfl, rfl, -⟩ := hMz.sl))
  have hb47 : Below W4.heap.size W4 w7 := (hb5.trans (hb6.mono hb5.size)).trans (hb7.mono (by have := hb5.size; have := hb6.size; omega))
  have hs7 := hb47.size
  refine abstr (fun W => Below w.heap.size w W ∧ Blk W w.heap.size 35 #[.int .i64 m.k, .int .i64 m.e, .int .i64 m.v.e, .int .i64 m.v.p, (.slice A m.v.l.length c), .int .i64 m.i, .int .i64 m.s, (.slice B m.log.length d)] ∧ Blk W px 54 #[.int .i64 D.k, .int .i64 D.e, .int .i64 D.v.e, .int .i64 D.v.p, (.slice Ax D.v.l.length cx), .int .i64 D.i, .int .i64 D.s, (.slice Bx D.log.length dx)] ∧ MgW W (fun k => k < w.heap.size) (.slice Ax D.v.l.length cx) (.slice Bx D.log.length dx) D ∧
    Blk W py 35 #[.int .i64 D.k, .int .i64 D.e, .int .i64 D.v.e, .int .i64 D.v.p, (.slice Ay D.v.l.length cy), .int .i64 D.i, .int .i64 D.s, (.slice By D.log.length dy)] ∧ MgW W (fun k => k < w.heap.size) (.slice Ay D.v.l.length cy) (.slice By D.log.length dy) D ∧
    Blk W w7.heap.size 54 #[.int .i64 D2.k, .int .i64 D2.e, .int .i64 D2.v.e, .int .i64 D2.v.p, (.slice Az D2.v.l.length cz), .int .i64 D2.i, .int .i64 D2.s, (.slice Bz D2.log.length dz)] ∧ MgW W (fun k => k < w.heap.size) (.slice Az D2.v.l.length cz) (.slice Bz D2.log.length dz) D2) ⟨?_, ?_, ?_, ?_, ?_, ?_, ?_, ?_⟩ (fun W8 hW8 => ?_)
  · exact (hb4.trans (hb47.mono hs4)).alloc (by omega) _
  · exact (hB4.below hb47 hB4.lt).alloc _
  · exact (hx4.below hb47 hx4.lt).alloc _
  · exact (hMx4.kp (Kp.of_below hb47)).kp (Kp.of_below (Below.alloc (Below.refl _ _) (Nat.le_refl _) _))
  · exact (hy4.below hb47 hy4.lt).alloc _
  · exact (hMy4.kp (Kp.of_below hb47)).kp (Kp.of_below (Below.alloc (Below.refl _ _) (Nat.le_refl _) _))
  · exact Blk.new _ _ _
  · exact ((hMz.sub (T' := fun k => k < w.heap.size) (fun k _ hk => by have := hb5.size; have := hb6.size; omega)).kp (Kp.of_below (Below.alloc (Below.refl _ _) (Nat.le_refl _) _)))
  clear hb4 hB4 hx4 hMx4 hy4 hMy4 hs4 c4 l4 hto hM5 hb5 hen5 hu6 hb6 h61 h62 h63 h64 hde6 hMz hb7 hb47 hs7
  obtain ⟨hb8, hB8, hx8, hMx8, hy8, hMy8, hz8, hMz8⟩ := hW8
  generalize w7.heap.size = pz at *
  have hs8 := hb8.size
  have c8 := hB8.cell
  have l8 := hB8.lt
  have hM8 : MgW W8 (fun k => w.heap.size ≤ k) (.slice A m.v.l.length c) (.slice B m.log.length d) m := ⟨⟨A, c, rfl, Reads.kp hm1 (Kp.of_below (S := fun _ => False) hb8) (fun _ _ _ h => h), fun h0 a ha ht => by
      obtain ⟨a', e', hl', _⟩ := hm1.2 (by omega)
      rw [ha] at e'; cases e'
      omega⟩, B, d, rfl, hEm.kp (Kp.of_below hb8)⟩
  have hen8 := dencode_any m _ _ W8 hM8 hnum
  go_upto_region 7 with (first | (go_at_call 27; (with_reducible refine hen8.mono ?_); rintro e w9 ⟨u9, rfl, hu9, hb9⟩; obtain ⟨A9, c9, rfl, h91, h92, h93, h94⟩ := hu9.slice; have hde9 := ddecode_any A9 c9 (mgB m) w9 h94 hmB h93 h91 h92 (by omega); rw [hD2] at hde9; (simp only at hde9)) | (go_at_call 25; (with_reducible refine hde9.mono ?_); rintro e w10 ⟨⟨vmw, vlw, rfl, hMw⟩, hb10⟩; obtain ⟨Aw, cw, Bw, dw, rfl, rfl, -⟩ := hMw.sl))
  have hb810 : Below W8.heap.size W8 w10 := hb9.trans (hb10.mono hb9.size)
  have hs10 := hb810.size
  refine abstr (fun W => Below w.heap.size w W ∧ Blk W w.heap.size 35 #[.int .i64 m.k, .int .i64 m.e, .int .i64 m.v.e, .int .i64 m.v.p, (.slice A m.v.l.length c), .int .i64 m.i, .int .i64 m.s, (.slice B m.log.length d)] ∧ Blk W px 54 #[.int .i64 D.k, .int .i64 D.e, .int .i64 D.v.e, .int .i64 D.v.p, (.slice Ax D.v.l.length cx), .int .i64 D.i, .int .i64 D.s, (.slice Bx D.log.length dx)] ∧ MgW W (fun k => k < w.heap.size) (.slice Ax D.v.l.length cx) (.slice Bx D.log.length dx) D ∧
    Blk W py 35 #[.int .i64 D.k, .int .i64 D.e, .int .i64 D.v.e, .int .i64 D.v.p, (.slice Ay D.v.l.length cy), .int .i64 D.i, .int .i64 D.s, (.slice By D.log.length dy)] ∧ MgW W (fun k => k < w.heap.size) (.slice Ay D.v.l.length cy) (.slice By D.log.length dy) D ∧
    Blk W pz 54 #[.int .i64 D2.k, .int .i64 D2.e, .int .i64 D2.v.e, .int .i64 D2.v.p, (.slice Az D2.v.l.length cz), .int .i64 D2.i, .int .i64 D2.s, (.slice Bz D2.log.length dz)] ∧ MgW W (fun k => k < w.heap.size) (.slice Az D2.v.l.length cz) (.slice Bz D2.log.length dz) D2 ∧
    Blk W w10.heap.size 35 #[.int .i64 D2.k, .int .i64 D2.e, .int .i64 D2.v.e, .int .i64 D2.v.p, (.slice Aw D2.v.l.length cw), .int .i64 D2.i, .int .i64 D2.s, (.slice Bw D2.log.length dw)] ∧ MgW W (fun k => k < w.heap.size) (.slice Aw D2.v.l.length cw) (.slice Bw D2.log.length dw) D2) ⟨?_, ?_, ?_, ?_, ?_, ?_, ?_, ?_, ?_, ?_⟩ (fun W11 hW11 => ?_)
  · exact (hb8.trans (hb810.mono hs8)).alloc (by omega) _
  · exact (hB8.below hb810 hB8.lt).alloc _
  · exact (hx8.below hb810 hx8.lt).alloc _
  · exact (hMx8.kp (Kp.of_below hb810)).kp (Kp.of_below (Below.alloc (Below.refl _ _) (Nat.le_refl _) _))
  · exact (hy8.below hb810 hy8.lt).alloc _
  · exact (hMy8.kp (Kp.of_below hb810)).kp (Kp.of_below (Below.alloc (Below.refl _ _) (Nat.le_refl _) _))
  · exact (hz8.below hb810 hz8.lt).alloc _
  · exact (hMz8.kp (Kp.of_below hb810)).kp (Kp.of_below (Below.alloc (Below.refl _ _) (Nat.le_refl _) _))
  · exact Blk.new _ _ _
  · exact ((hMw.sub (T' := fun k => k < w.heap.size) (fun k _ hk => by have := hb9.size; omega)).kp (Kp.of_below (Below.alloc (Below.refl _ _) (Nat.le_refl _) _)))
  clear hb8 hB8 hx8 hMx8 hy8 hMy8 hz8 hMz8 hs8 c8 l8 hM8 hen8 hu9 hb9 h91 h92 h93 h94 hde9 hMw hb10 hb810 hs10
  obtain ⟨hb, hB, hx, hMx, hy, hMy, hz, hMz, hw, hMw⟩ := hW11
  generalize w10.heap.size = pw at *
  clear hrb hnil hcb hlen hby
  have cB := hB.cell
  have lB := hB.lt
  have cX := hx.cell
  have lX := hx.lt
  have cY := hy.cell
  have lY := hy.lt
  have cZ := hz.cell
  have lZ := hz.lt
  have cW := hw.cell
  have lW := hw.lt
  have hsW := hb.size
  have hbE : ∀ Y : Ext, Below w.heap.size w (W11.ext Y) := fun Y => hb.trans ((World.below_ext W11 Y).mono hsW)
  have hto := fun Y : Ext => to_any m A c B d (W11.ext Y) (Reads.kp hm1 (Kp.of_below (S := fun _ => False) (hbE Y)) (fun _ _ _ h => h)) (hEm.kp (Kp.of_below (hbE Y))) (by omega) (by omega)
  have hMm : ∀ Y : Ext, MgW (W11.ext Y) (fun k => w.heap.size ≤ k) (.slice A m.v.l.length c) (.slice B m.log.length d) m := fun Y => ⟨⟨A, c, rfl, Reads.kp hm1 (Kp.of_below (S := fun _ => False) (hbE Y)) (fun _ _ _ h => h), fun h0 a ha ht => by
      obtain ⟨a', e', hl', _⟩ := hm1.2 (by omega)
      rw [ha] at e'; cases e'
      omega⟩, B, d, rfl, hEm.kp (Kp.of_below (hbE Y))⟩
  have hden := fun Y : Ext => dencode_any m _ _ (W11.ext Y) (hMm Y) hnum
  have hfx := fun Y : Ext => from_any D _ _ (W11.ext Y) (hMx.kp (Kp.of_below (World.below_ext W11 Y))) (fun k hk => by simp only [World.size_ext]; omega) (by omega)
  have hfz := fun Y : Ext => from_any D2 _ _ (W11.ext Y) (hMz.kp (Kp.of_below (World.below_ext W11 Y))) (fun k hk => by simp only [World.size_ext]; omega) (by omega)
  refine First.wp_region_first_ext [2, 5, 6, 8, 17, 19, 28, 30] [1, 9, 10, 11, 12, 13, 14, 15, 16, 21, 22, 23, 24, 25, 26, 27, 32] [(false, true, 0), (true, false, 1), (true, true, 2), (true, true, 6), (false, true, 3), (false, true, 4), (true, true, 5), (false, true, 7), (true, true, 8), (true, false, 9), (true, false, 10), (true, false, 11), (true, false, 12), (true, false, 13), (true, false, 14), (true, false, 15), (true, false, 16), (true, true, 17), (true, true, 19), (false, true, 18), (false, true, 20), (true, false, 21), (true, false, 22), (true, false, 23), (true, false, 24), (true, false, 25), (true, false, 26), (true, false, 27), (true, true, 28), (true, true, 30), (false, true, 29), (false, true, 31), (true, false, 32), (false, false, 33)] (by kernel_rfl) (by kernel_rfl) (fun X => ?_); simp only [List.map_cons, List.map_nil, List.getD_cons_zero, List.getD_cons_succ]
  refine First.wpF_must (fun K hK => ?_)
  go_wp2_with (go_at_call 10; (with_reducible refine (rawake_any _).mono ?_); rintro e w' ⟨rfl, hb⟩; obtain ⟨Z1, rfl⟩ := World.ext_of_below hb; clear hb)
  (refine hK _ _ (fun hnd => by first | exact Bool.noConfusion hnd | assumption | with_reducible exact grown_alloc _ _ | with_reducible exact First.Grown.refl _ | with_reducible exact First.Grown.cat _ _ _ | with_reducible exact First.Grown.ext _ _) ?_; clear hK K)
  (repeat (first | (refine First.wpF_pure (fun K hK => ?_); go_simp; first | (refine hK _ _ ?_; clear hK K) | (apply Exists.intro; refine ⟨fun _ => ?_, hK _ _ ?_⟩; fail)) | (refine First.wpF_free (fun K hK => ?_); go_simp; first | (refine hK _ _ ?_; clear hK K))))
  refine First.wpF_must (fun K hK => ?_)
  go_wp2_with (go_at_call 19; (with_reducible refine (hto _).mono ?_); rintro e w5 ⟨vm5, vl5, rfl, hM5, hb5⟩; obtain ⟨Z2, rfl⟩ := World.ext_of_below hb5; clear hb5; rw [World.ext_ext] at hM5)
  (refine hK _ _ (fun hnd => by first | exact Bool.noConfusion hnd | assumption | with_reducible exact grown_alloc _ _ | with_reducible exact First.Grown.refl _ | with_reducible exact First.Grown.cat _ _ _ | with_reducible exact First.Grown.ext _ _) ?_; clear hK K)
  refine First.wpF_must (fun K hK => ?_)
  go_wp2_with (go_at_call 26; (with_reducible refine (rencode_any m vm5 vl5 _ hM5 hnum).mono ?_); rintro e w6 ⟨u6, rfl, hu6, hb6⟩; obtain ⟨A6, c6, rfl, _, _, _, _⟩ := hu6.slice; obtain ⟨Z3, rfl⟩ := World.ext_of_below hb6; clear hb6; rw [World.ext_ext] at hu6)
  (refine hK _ _ (fun hnd => by first | exact Bool.noConfusion hnd | assumption | with_reducible exact grown_alloc _ _ | with_reducible exact First.Grown.refl _ | with_reducible exact First.Grown.cat _ _ _ | with_reducible exact First.Grown.ext _ _) ?_; clear hK K)
  (refine first_readG rfl (v := .string (strOf (mgB m))) (fun w' hw' => ?_) (fun K hK => ?_); rotate_left 1; go_simp; refine hK _ _ ?_; clear hK K; rotate_left 1; (have cv := Row.conv (P := Try.prog) (row_grown hu6 hw') Try.underlying32 Try.underlying5 Try.underlying9; go_simp))
  (repeat (first | (refine First.wpF_pure (fun K hK => ?_); go_simp; first | (refine hK _ _ ?_; clear hK K) | (apply Exists.intro; refine ⟨fun _ => ?_, hK _ _ ?_⟩; fail)) | (refine First.wpF_free (fun K hK => ?_); go_simp; first | (refine hK _ _ ?_; clear hK K))))
  refine First.wpF_must (fun K hK => ?_)
  go_wp2_with (go_at_call 27; (with_reducible refine (hden _).mono ?_); rintro e w7 ⟨u7, rfl, hu7, hb7⟩; obtain ⟨A7, c7, rfl, _, _, _, _⟩ := hu7.slice; obtain ⟨Z4, rfl⟩ := World.ext_of_below hb7; clear hb7; rw [World.ext_ext] at hu7)
  (refine hK _ _ (fun hnd => by first | exact Bool.noConfusion hnd | assumption | with_reducible exact grown_alloc _ _ | with_reducible exact First.Grown.refl _ | with_reducible exact First.Grown.cat _ _ _ | with_reducible exact First.Grown.ext _ _) ?_; clear hK K)
  (refine first_readG rfl (v := .string (strOf (mgB m))) (fun w' hw' => ?_) (fun K hK => ?_); rotate_left 1; go_simp; refine hK _ _ ?_; clear hK K; rotate_left 1; (have cv := Row.conv (P := Try.prog) (row_grown hu7 hw') Try.underlying32 Try.underlying5 Try.underlying9; go_simp))
  (repeat (first | (refine First.wpF_pure (fun K hK => ?_); go_simp; first | (refine hK _ _ ?_; clear hK K) | (apply Exists.intro; refine ⟨fun _ => ?_, hK _ _ ?_⟩; fail)) | (refine First.wpF_free (fun K hK => ?_); go_simp; first | (refine hK _ _ ?_; clear hK K))))
  refine First.wpF_must (fun K hK => ?_)
  go_wp2_with (go_at_call 29; (with_reducible refine (hfx _).mono ?_); rintro e w8 ⟨vm8, vl8, rfl, hM8, hb8⟩; obtain ⟨Z5, rfl⟩ := World.ext_of_below hb8; clear hb8; rw [World.ext_ext] at hM8)
  (refine hK _ _ (fun hnd => by first | exact Bool.noConfusion hnd | assumption | with_reducible exact grown_alloc _ _ | with_reducible exact First.Grown.refl _ | with_reducible exact First.Grown.cat _ _ _ | with_reducible exact First.Grown.ext _ _) ?_; clear hK K)
  (repeat (first | (refine First.wpF_pure (fun K hK => ?_); go_simp; first | (refine hK _ _ ?_; clear hK K) | (apply Exists.intro; refine ⟨fun _ => ?_, hK _ _ ?_⟩; fail)) | (refine First.wpF_free (fun K hK => ?_); go_simp; first | (refine hK _ _ ?_; clear hK K))))
  refine First.wpF_must (fun K hK => ?_)
  go_wp2_with (go_at_call 28; (with_reducible refine (dsamemsg_any D _ _ _ _ _ hM8 (hMy.kp (Kp.of_below (World.below_ext W11 _))) (by omega) (by omega)).mono ?_); rintro e w' ⟨rfl, hb⟩; obtain ⟨Z6, rfl⟩ := World.ext_of_below hb; clear hb)
  (refine hK _ _ (fun hnd => by first | exact Bool.noConfusion hnd | assumption | with_reducible exact grown_alloc _ _ | with_reducible exact First.Grown.refl _ | with_reducible exact First.Grown.cat _ _ _ | with_reducible exact First.Grown.ext _ _) ?_; clear hK K)
  (repeat (first | (refine First.wpF_pure (fun K hK => ?_); go_simp; first | (refine hK _ _ ?_; clear hK K) | (apply Exists.intro; refine ⟨fun _ => ?_, hK _ _ ?_⟩; fail)) | (refine First.wpF_free (fun K hK => ?_); go_simp; first | (refine hK _ _ ?_; clear hK K))))
  refine First.wpF_must (fun K hK => ?_)
  go_wp2_with (go_at_call 29; (with_reducible refine (hfz _).mono ?_); rintro e w9 ⟨vm9, vl9, rfl, hM9, hb9⟩; obtain ⟨Z7, rfl⟩ := World.ext_of_below hb9; clear hb9; rw [World.ext_ext] at hM9)
  (refine hK _ _ (fun hnd => by first | exact Bool.noConfusion hnd | assumption | with_reducible exact grown_alloc _ _ | with_reducible exact First.Grown.refl _ | with_reducible exact First.Grown.cat _ _ _ | with_reducible exact First.Grown.ext _ _) ?_; clear hK K)
  (repeat (first | (refine First.wpF_pure (fun K hK => ?_); go_simp; first | (refine hK _ _ ?_; clear hK K) | (apply Exists.intro; refine ⟨fun _ => ?_, hK _ _ ?_⟩; fail)) | (refine First.wpF_free (fun K hK => ?_); go_simp; first | (refine hK _ _ ?_; clear hK K))))
  refine First.wpF_must (fun K hK => ?_)
  go_wp2_with (go_at_call 28; (with_reducible refine (dsamemsg_any D2 _ _ _ _ _ hM9 (hMw.kp (Kp.of_below (World.below_ext W11 _))) (by omega) (by omega)).mono ?_); rintro e w' ⟨rfl, hb⟩; obtain ⟨Z8, rfl⟩ := World.ext_of_below hb; clear hb)
  (refine hK _ _ (fun hnd => by first | exact Bool.noConfusion hnd | assumption | with_reducible exact grown_alloc _ _ | with_reducible exact First.Grown.refl _ | with_reducible exact First.Grown.cat _ _ _ | with_reducible exact First.Grown.ext _ _) ?_; clear hK K)
  (repeat (first | (refine First.wpF_pure (fun K hK => ?_); go_simp; first | (refine hK _ _ ?_; clear hK K) | (apply Exists.intro; refine ⟨fun _ => ?_, hK _ _ ?_⟩; fail)) | (refine First.wpF_free (fun K hK => ?_); go_simp; first | (refine hK _ _ ?_; clear hK K))))
  refine First.wpF_must (fun K hK => ?_)
  go_wp2
  (refine hK _ _ (fun hnd => by first | exact Bool.noConfusion hnd | assumption | with_reducible exact grown_alloc _ _ | with_reducible exact First.Grown.refl _ | with_reducible exact First.Grown.cat _ _ _ | with_reducible exact First.Grown.ext _ _) ?_; clear hK K)
  refine First.wpF_nil ?_
  go_wp2
  go_ret
  exact ⟨rfl, hbE _⟩
section
open Go.ChangeShapes Go.WideShapes Go.ChangeAt
variable {H : Type} {enc : TypeId × Value → H}
set_option maxRecDepth 100000 in
theorem rmsg_open {W : World} {base : Nat} {v : Value} {d : DataW H} {p : List MemPlace} (hv : Value.okWide Try.prog W .any base 35 v) (h : DataW.Trod enc Try.prog W 0 (fun _ => true) true 35 v d p) (hw : ∀ z ∈ d.weights Try.prog 35, z ≤ reachBytes) :
    ∃ q : RMg, v = .agg q.cells.toArray ∧ q.ok W := by
  obtain ⟨cs, rfl, hsz⟩ := okWide_struct Try.underlying35 hv
  obtain ⟨fuel, hf⟩ := h
  obtain ⟨q, hq, hok⟩ := msg_open hf hw
  refine ⟨q, ?_, hok⟩
  rw [← hq]
  simp [Value.cells]
set_option maxRecDepth 100000 in
theorem relayBytes_walk : LawWalkS enc Try.prog 5 Try.f5 := by
  intro W base args ds ps hval hA hlt _ hs
  rw [Try.params5] at hA hval hs
  obtain ⟨v0, v1, d0, d1, p0, p1, rfl, rfl, rfl, h0, h1⟩ := trodAll_two hA
  obtain ⟨⟨m, A, c, B, d⟩, rfl, hq⟩ := rmsg_open (hval 0 _ v0 rfl rfl) h0 (weights_at hs (j := 0) rfl rfl)
  obtain ⟨Ab, cb, bs, rfl, hbc, hrb, hby, hnil, hbd⟩ := bytes_open2 Try.underlying32 Try.underlying5 (by kernel_rfl) (hval 1 _ v1 rfl rfl) h1 (fun x hx => hlt x (by simp [hx]))
  have hbb := bytes_bound hs (j := 1) Try.underlying32 (by kernel_rfl) rfl rfl hbd
  exact law_relayBytes m A c B d Ab cb bs W hq hrb hby hnil ⟨hbc, by unfold maxLen; omega⟩ (by omega)
set_option maxRecDepth 100000 in
theorem relayBytes_lifted (os : Os) (started : os.Started) (H : Type) (enc : TypeId × Value → H) :
    ReturnsInHanded {} Try.checked os 5 .any (Rows.relayBytesSpec.pre6 enc Try.prog Try.f5 Rows.relayBytesRow.domain false) (Rows.relayBytesSpec.post enc Try.prog Try.f5 false true false false) :=
  law_lifted_sized (C := Try.checked) own started (by kernel_rfl) Try.func5 laidOut (by kernel_rfl) rfl Try.underlying4 rfl rfl
    (fun ds h => by obtain ⟨d0, d1, rfl⟩ := list2 h; rfl)
    (ChangeSpec.witness6 (enc := enc) (C := Try.checked) false ⟨#[], #[.agg #[.int .i64 0, .int .i64 0, .int .i64 0, .int .i64 0, .slice none 0 0, .int .i64 0, .int .i64 0, .slice none 0 0], .slice none 0 0], []⟩ 8 (by kernel_rfl) (by kernel_rfl) (by kernel_rfl) (by kernel_rfl))
    relayBytes_walk
theorem relayBytes_holds : Rows.RelayBytesSaid :=
  OpenClaim.holds_of_wide 5 Try.f5 rfl rfl rfl rfl rfl rfl rfl ⟨rfl, rfl, rfl, rfl, rfl⟩ rfl rfl rfl rfl rfl (by kernel_rfl) Try.func5 (by kernel_rfl)
    (of_decide_eq_true (by kernel_rfl)) (by unfold Func.isWrapper; rw [if_neg (of_decide_eq_false (by kernel_rfl))]; exact ⟨rfl, rfl⟩)
    (fun os started H enc _ => relayBytes_lifted os started H enc)
#print axioms relayBytes_holds
end
end Go.Proofs.Ytjhcgnmibnjocaa
