import Derived.Test.YtjhcgnmibnjocaaGreatY32
import Derived.Lib.ConvBytes
import Derived.Test.YtjhcgnmibnjocaaGreatY29
import Derived.Test.YtjhcgnmibnjocaaGreatY30
import Derived.Test.YtjhcgnmibnjocaaGreatGD
import Derived.Test.YtjhcgnmibnjocaaGreatY17
/-! Several texts in one. -/
set_option linter.unusedVariables false
set_option linter.unusedSimpArgs false
namespace Go.Proofs.YtjhcgnmibnjocaaGreat
open Go.RowKit Go.Maps
set_option maxRecDepth 100000 in
set_option maxHeartbeats 4000000 in
theorem dcountM_any (q : Nat) (A : Option Addr) (c : Nat) (l : List Nat) (a : Nat) (e most : Int) (w : World) (h : Mrd w q A c l a e) (hby : ∀ x ∈ l, x < 256) (hlen : l.length ≤ 140737488355328) (hm : 0 ≤ most ∧ most ≤ 4611686018427387904) :
  Calls Tryz.prog 103 #[.pointer (some ⟨q, 0, none⟩), .int .i64 most] w fun e' w' => e' = .returned (.int .i64 ((countP most (restP l a e)).1 : Nat)) ∧ (∃ a' e'', Mrd w' q A c l a' e'' ∧ restP l a' e'' = (countP most (restP l a e)).2) ∧ Only w w' q := by
 have hD := dnum_any q A c l a e w h hby hlen
 have hlt := numP_lt (restP_by (a := a) (e := e) hby)
 have hz := numP_zero (restP l a e)
 have hw : IntKind.u64.wrap most = most := by show most % 18446744073709551616 = _; omega
 have hneg : decide (most < 0) = false := by simp; omega
 unfold countP
 generalize hR : numP (restP l a e) = R at *
 obtain ⟨n, r⟩ := R
 simp only at *
 by_cases he : r.e = 0
 ·have he' : (r.e != 0) = false := by simpa using he
  by_cases h8 : most < n
  ·rw [if_pos (.inl (by omega))]
   have h8' : decide (most < (n : Int)) = true := by simpa using h8
   go_enter Tryz.func103, Tryz.ntmps103
   go_wp2_with (go_at_call 88; (with_reducible refine hD.mono ?_); rintro e w1 ⟨rfl, ⟨a1, e1, hm1, hr1⟩, ho1⟩; have he1 := restP_e l a1 e1; rw [hr1] at he1; subst he1; have c1 := hm1.blk.cell; have f1 := hm1.blk.frozen; have l1 := hm1.blk.lt)
   go_ret
   exact ⟨rfl, ⟨a1, 8, hm1.to (Only.setCell w1 q 2 _) (hm1.blk.set_ 2 _) hm1.le, by rw [restP_err (by decide)]; unfold failP; rw [if_pos he]⟩, ho1.set_ (p := ⟨q, 2, none⟩) (.inl rfl) _⟩
  ·rw [if_neg (by omega)]
   have h8' : decide (most < (n : Int)) = false := by simpa using h8
   have hw2 : wrap64 (n : Int) = n := by unfold wrap64; omega
   go_enter Tryz.func103, Tryz.ntmps103
   go_wp2_with (go_at_call 88; (with_reducible refine hD.mono ?_); rintro e w1 ⟨rfl, ⟨a1, e1, hm1, hr1⟩, ho1⟩; have he1 := restP_e l a1 e1; rw [hr1] at he1; subst he1; have c1 := hm1.blk.cell; have f1 := hm1.blk.frozen; have l1 := hm1.blk.lt)
   go_ret
   exact ⟨rfl, ⟨a1, _, hm1, hr1⟩, ho1⟩
 ·have he' : (r.e != 0) = true := by simpa using he
  obtain rfl := hz he
  rw [if_neg (by omega)]
  go_enter Tryz.func103, Tryz.ntmps103
  go_wp2_with (go_at_call 88; (with_reducible refine hD.mono ?_); rintro e w1 ⟨rfl, ⟨a1, e1, hm1, hr1⟩, ho1⟩; have he1 := restP_e l a1 e1; rw [hr1] at he1; subst he1; have c1 := hm1.blk.cell; have f1 := hm1.blk.frozen; have l1 := hm1.blk.lt)
  go_ret
  exact ⟨rfl, ⟨a1, _, hm1, hr1⟩, ho1⟩
theorem reads_part {w : World} {B b o N a n : Nat} {l : List Nat} (h : Reads w B 1 (some ⟨b, o, none⟩) N (u8s l)) (han : a + n ≤ N) : Reads w B 1 (some ⟨b, o + a, none⟩) n (u8s ((l.drop a).take n)) := by
 have hl : l.length = N := by have := h.1; rw [u8s_length] at this; omega
 refine ⟨by rw [u8s_length, List.length_take, List.length_drop]; omega, fun h0 => ?_⟩
 obtain ⟨ad, e, hb, hc⟩ := h.2 (by omega)
 cases e
 refine ⟨_, rfl, hb, fun j u hu => ?_⟩
 have hj : j < n := by
  have := (List.getElem?_eq_some_iff.1 hu).1
  rw [u8s_length, List.length_take] at this
  omega
 have : (u8s l)[a + j]? = some u := by
  rw [u8s_get, List.getElem?_take_of_lt hj, List.getElem?_drop] at hu
  rw [u8s_get]
  exact hu
 have := hc (a + j) u this
 rw [add_plain] at this ⊢
 rwa [Nat.add_assoc]
set_option maxRecDepth 100000 in
set_option maxHeartbeats 4000000 in
theorem dtext_any (q : Nat) (A : Option Addr) (c : Nat) (l : List Nat) (a : Nat) (e most : Int) (w : World) (h : Mrd w q A c l a e) (hby : ∀ x ∈ l, x < 256) (hlen : l.length ≤ 140737488355328) (hm : 0 ≤ most ∧ most ≤ 4611686018427387904) (hc : l.length ≤ c ∧ c ≤ maxLen ∧ (A = none → c = 0)) :
  Calls Tryz.prog 104 #[.pointer (some ⟨q, 0, none⟩), .int .i64 most] w fun e' w' => e' = .returned (.string (strOf (textP most (restP l a e)).1)) ∧ (∃ a' e'', Mrd w' q A c l a' e'' ∧ restP l a' e'' = (textP most (restP l a e)).2) ∧ Only w w' q := by
 have hD := dcountM_any q A c l a e most w h hby hlen hm
 have hle := countP_le (most := most) (r := restP l a e) (by unfold I64; omega)
 unfold textP
 generalize hR : countP most (restP l a e) = R at *
 obtain ⟨n, r⟩ := R
 simp only at *
 go_enter Tryz.func104, Tryz.ntmps104
 go_upto_region 2 with (go_at_call 103; (with_reducible refine hD.mono ?_); rintro e' w1 ⟨rfl, ⟨a1, e1, hm1, hr1⟩, ho1⟩; have he1 := restP_e l a1 e1; rw [hr1] at he1)
 have c1 := hm1.blk.cell
 have f1 := hm1.blk.frozen
 have l1 := hm1.blk.lt
 have hle1 := hm1.le
 by_cases he : e1 = 0
 ·subst he
  have hsb : IntKind.i64.wrap ((l.length : Int) - a1) = (l.length : Int) - a1 := IntWalk.i64_in _ (by omega)
  rw [restP_ok] at hr1
  subst hr1
  have hld : (l.drop a1).length = l.length - a1 := List.length_drop
  by_cases hn : l.length - a1 < n
  ·have hn' : decide ((l.length : Int) - a1 < n) = true := by simp; omega
   have hT := takeP_short (xs := l.drop a1) (n := n) (by omega)
   go_wp2
   refine wp_region_ext_lit (by kernel_rfl) (by kernel_rfl) ?_
   (repeat (first | ((with_reducible refine wpQuiet_step (fun K hK => ?_)); go_simp; first | ((with_reducible refine hK _ ?_); clear hK K) | (apply Exists.intro; (with_reducible refine ⟨fun _ => ?_, hK _ ?_⟩); skip; clear hK K)) | ((with_reducible refine quiet_skipN ?_ (fun K hK => ?_)); (rfl); go_simp; (with_reducible refine hK _ ?_); clear hK K)))
   (with_reducible refine wpQuiet_nil ?_); intro _ hw'; obtain ⟨Y, hw''⟩ := hw'; subst hw''
   go_wp2
   go_ret
   have hx := hm1.fail Y 9
   rw [hT]
   exact ⟨rfl, ⟨a1, 9, hx.1, restP_err (by decide)⟩, ho1.trans hx.2⟩
  ·have hn' : decide ((l.length : Int) - a1 < n) = false := by simp; omega
   have hT := takeP_ok (xs := l.drop a1) (n := n) (by omega)
   have hsa : IntKind.i64.wrap ((a1 : Int) + n) = (a1 : Int) + n := IntWalk.i64_in _ (by omega)
   have hc1 := hc.1
   have hc2 := hc.2.1
   unfold maxLen at hc2
   have zi : (0 : Int) ≤ a1 := by omega
   have zj : (a1 : Int) ≤ a1 + n := by omega
   have zk : (a1 : Int) + n ≤ c := by omega
   by_cases hp : 0 < l.length
   ·obtain ⟨b, o, rfl, hbb, hcc⟩ := hm1.row.plain (by omega) (by omega)
    have hrd := hm1.row
    have hcv : ∀ X : Ext, (convert 36 9 (.slice (if c = a1 then some ⟨b, o, none⟩ else some ⟨b, o + a1, none⟩) (((a1 : Int) + n).toNat - a1) (c - a1))).run Tryz.prog (w1.ext X) = .ok (.string (strOf ((l.drop a1).take n))) (w1.ext X) := fun X => by
     have hrX := Reads.ext hrd (Nat.le_refl _) X
     rw [show ((a1 : Int) + n).toNat - a1 = n by omega]
     by_cases hca : c = a1
     ·rw [if_pos hca]
      obtain rfl : n = 0 := by omega
      exact conv_bytes (B := 0) (l := (l.drop a1).take 0) ⟨by simp [u8s], fun h => absurd h (by omega)⟩ Tryz.underlying36 Tryz.underlying5 Tryz.underlying9 (c - a1)
     ·rw [if_neg hca]
      exact conv_bytes (reads_part hrX (a := a1) (n := n) (by omega)) Tryz.underlying36 Tryz.underlying5 Tryz.underlying9 (c - a1)
    go_wp2
    refine wp_region_ext_lit (by kernel_rfl) (by kernel_rfl) ?_
    (repeat (first | ((with_reducible refine wpQuiet_step (fun K hK => ?_)); go_simp; first | ((with_reducible refine hK _ ?_); clear hK K) | (apply Exists.intro; (with_reducible refine ⟨fun _ => ?_, hK _ ?_⟩); skip; clear hK K)) | ((with_reducible refine quiet_skipN ?_ (fun K hK => ?_)); (rfl); go_simp; (with_reducible refine hK _ ?_); clear hK K)))
    (with_reducible refine wpQuiet_nil ?_); intro _ hw'; obtain ⟨Y, hw''⟩ := hw'; subst hw''
    go_wp2
    refine wp_region_ext_lit (by kernel_rfl) (by kernel_rfl) ?_
    (repeat (first | ((with_reducible refine wpQuiet_step (fun K hK => ?_)); go_simp; first | ((with_reducible refine hK _ ?_); clear hK K) | (apply Exists.intro; (with_reducible refine ⟨fun _ => ?_, hK _ ?_⟩); skip; clear hK K)) | ((with_reducible refine quiet_skipN ?_ (fun K hK => ?_)); (rfl); go_simp; (with_reducible refine hK _ ?_); clear hK K)))
    (with_reducible refine wpQuiet_nil ?_); intro _ hw'; obtain ⟨Z, hw''⟩ := hw'; subst hw''
    go_wp2
    all_goals
     go_ret
     have hx := hm1.go (Y.cat Z) (a1 + n) (by omega) ((a1 : Int) + n) (by simp)
     (try rw [hT])
     (try rw [‹c = a1›] at hx)
     exact ⟨rfl, ⟨a1 + n, 0, hx.1, by rw [restP_ok]; (try rw [List.drop_drop])⟩, ho1.trans hx.2⟩
   ·obtain rfl : l = [] := List.eq_nil_of_length_eq_zero (by omega)
    obtain rfl : n = 0 := by simp at hn; omega
    obtain rfl : a1 = 0 := by simp at hle1; omega
    have hz0 : IntKind.i64.wrap 0 = 0 := by decide
    have hT0 : takeP 0 ⟨List.drop 0 [], 0⟩ = ([], ⟨[], 0⟩) := hT
    cases A with
    | none =>
     obtain rfl := hc.2.2 rfl
     have hcv : ∀ X : Ext, (convert 36 9 (.slice none 0 0)).run Tryz.prog (w1.ext X) = .ok (.string (strOf [])) (w1.ext X) := fun X => conv_bytes (B := 0) (l := []) ⟨rfl, fun h => absurd h (by omega)⟩ Tryz.underlying36 Tryz.underlying5 Tryz.underlying9 0
     go_wp2
     refine wp_region_ext_lit (by kernel_rfl) (by kernel_rfl) ?_
     (repeat (first | ((with_reducible refine wpQuiet_step (fun K hK => ?_)); go_simp; first | ((with_reducible refine hK _ ?_); clear hK K) | (apply Exists.intro; (with_reducible refine ⟨fun _ => ?_, hK _ ?_⟩); skip; clear hK K)) | ((with_reducible refine quiet_skipN ?_ (fun K hK => ?_)); (rfl); go_simp; (with_reducible refine hK _ ?_); clear hK K)))
     (with_reducible refine wpQuiet_nil ?_); intro _ hw'; obtain ⟨Y, hw''⟩ := hw'; subst hw''
     go_wp2
     refine wp_region_ext_lit (by kernel_rfl) (by kernel_rfl) ?_
     (repeat (first | ((with_reducible refine wpQuiet_step (fun K hK => ?_)); go_simp; first | ((with_reducible refine hK _ ?_); clear hK K) | (apply Exists.intro; (with_reducible refine ⟨fun _ => ?_, hK _ ?_⟩); skip; clear hK K)) | ((with_reducible refine quiet_skipN ?_ (fun K hK => ?_)); (rfl); go_simp; (with_reducible refine hK _ ?_); clear hK K)))
     (with_reducible refine wpQuiet_nil ?_); intro _ hw'; obtain ⟨Z, hw''⟩ := hw'; subst hw''
     go_wp2
     go_ret
     have hx := hm1.go (Y.cat Z) 0 (by omega) 0 rfl
     rw [hT0]
     exact ⟨rfl, ⟨0, 0, hx.1, rfl⟩, ho1.trans hx.2⟩
    | some ad =>
     have hcv : ∀ (X : Ext) (A' : Option Addr) (c' : Nat), (convert 36 9 (.slice A' 0 c')).run Tryz.prog (w1.ext X) = .ok (.string (strOf [])) (w1.ext X) := fun X A' c' => conv_bytes (B := 0) (l := []) ⟨rfl, fun h => absurd h (by omega)⟩ Tryz.underlying36 Tryz.underlying5 Tryz.underlying9 c'
     go_wp2
     refine wp_region_ext_lit (by kernel_rfl) (by kernel_rfl) ?_
     (repeat (first | ((with_reducible refine wpQuiet_step (fun K hK => ?_)); go_simp; first | ((with_reducible refine hK _ ?_); clear hK K) | (apply Exists.intro; (with_reducible refine ⟨fun _ => ?_, hK _ ?_⟩); skip; clear hK K)) | ((with_reducible refine quiet_skipN ?_ (fun K hK => ?_)); (rfl); go_simp; (with_reducible refine hK _ ?_); clear hK K)))
     (with_reducible refine wpQuiet_nil ?_); intro _ hw'; obtain ⟨Y, hw''⟩ := hw'; subst hw''
     go_wp2
     refine wp_region_ext_lit (by kernel_rfl) (by kernel_rfl) ?_
     (repeat (first | ((with_reducible refine wpQuiet_step (fun K hK => ?_)); go_simp; first | ((with_reducible refine hK _ ?_); clear hK K) | (apply Exists.intro; (with_reducible refine ⟨fun _ => ?_, hK _ ?_⟩); skip; clear hK K)) | ((with_reducible refine quiet_skipN ?_ (fun K hK => ?_)); (rfl); go_simp; (with_reducible refine hK _ ?_); clear hK K)))
     (with_reducible refine wpQuiet_nil ?_); intro _ hw'; obtain ⟨Z, hw''⟩ := hw'; subst hw''
     go_wp2
     all_goals
      go_ret
      have hx := hm1.go (Y.cat Z) 0 (by omega) 0 rfl
      (try rw [hT0])
      exact ⟨rfl, ⟨0, 0, hx.1, rfl⟩, ho1.trans hx.2⟩
 ·have he' : (e1 != 0) = true := by simpa using he
  have hT := takeP_err (n := n) (r := r) (by rw [he1]; exact he)
  go_wp2
  go_ret
  rw [hT]
  exact ⟨rfl, ⟨a1, e1, hm1, hr1⟩, ho1⟩
end Go.Proofs.YtjhcgnmibnjocaaGreat

namespace Go.Proofs.YtjhcgnmibnjocaaGreat
open Go.RowKit Go.Maps
def glStep (r : Rest) : Ent × Rest := (⟨zag (numP r).1, (textP 262144 (numP r).2).1⟩, (textP 262144 (numP r).2).2)
def glE : Nat → Rest → List Ent × Rest
 | 0, r => ([], r)
 | k + 1, r => if r.e = 0 then ((glStep r).1 :: (glE k (glStep r).2).1, (glE k (glStep r).2).2) else ([], r)
def getL (r : Rest) : List Ent × Rest := glE (countP 4096 r).1 (countP 4096 r).2
theorem glE_zero (k : Nat) {r : Rest} (h : r.e ≠ 0) : glE k r = ([], r) := by
 cases k with
 | zero => rfl
 | succ k => unfold glE; rw [if_neg h]
theorem glE_next (k : Nat) {r : Rest} (h : r.e = 0) : glE (k + 1) r = ((glStep r).1 :: (glE k (glStep r).2).1, (glE k (glStep r).2).2) := by
 rw [glE, if_pos h]
theorem takeP_by {n : Nat} {r : Rest} (h : ∀ x ∈ r.xs, x < 256) : (∀ x ∈ (takeP n r).1, x < 256) ∧ (∀ x ∈ (takeP n r).2.xs, x < 256) ∧ (takeP n r).1.length ≤ n := by
 unfold takeP
 split
 ·exact ⟨(fun x hx => by cases hx), h, by simp⟩
 split
 ·exact ⟨(fun x hx => by cases hx), (fun x hx => by cases hx), by simp⟩
 ·exact ⟨fun x hx => h x (List.mem_of_mem_take hx), fun x hx => h x (List.mem_of_mem_drop hx), by simp only [List.length_take]; omega⟩
theorem failP_by {e : Int} {r : Rest} : ∀ x ∈ (failP e r).xs, x < 256 := fun x hx => by cases hx
theorem numP_by {r : Rest} (h : ∀ x ∈ r.xs, x < 256) : ∀ x ∈ (numP r).2.xs, x < 256 := by
 have h1 := fun n => (takeP_by (n := n) h).2.1
 unfold numP
 repeat' split
 all_goals first | exact h1 _ | exact (takeP_by (h1 _)).2.1 | exact failP_by | (intro x hx; cases hx)
theorem countP_by {m : Int} {r : Rest} (h : ∀ x ∈ r.xs, x < 256) : ∀ x ∈ (countP m r).2.xs, x < 256 := by
 unfold countP
 split
 ·exact failP_by
 ·exact numP_by h
theorem countP_bd {m : Int} {r : Rest} (hm : 0 ≤ m) : ((countP m r).1 : Int) ≤ m := by
 unfold countP
 split
 ·exact hm
 ·rename_i h
  have : ¬m.toNat < (numP r).1 := fun h' => h (.inl h')
  omega
theorem zag_i64 {n : Nat} (h : n < 18446744073709551616) : I64 (zag n) := by
 unfold I64 zag
 split <;> omega
theorem glStep_ok {r : Rest} (h : ∀ x ∈ r.xs, x < 256) : (glStep r).1.ok ∧ ∀ x ∈ (glStep r).2.xs, x < 256 := by
 have h1 := numP_by h
 have h2 := countP_by (m := 262144) h1
 have h3 := takeP_by (n := (countP 262144 (numP r).2).1) h2
 have h4 := countP_bd (m := 262144) (r := (numP r).2) (by omega)
 refine ⟨⟨zag_i64 (numP_lt h), ?_, h3.1⟩, h3.2.1⟩
 show (textP 262144 (numP r).2).1.length ≤ 262144
 unfold textP
 omega
theorem glE_by : ∀ (k : Nat) {r : Rest}, (∀ x ∈ r.xs, x < 256) → (∀ x ∈ (glE k r).1, x.ok) ∧ (∀ x ∈ (glE k r).2.xs, x < 256) ∧ (glE k r).1.length ≤ k
 | 0, r, h => ⟨(fun x hx => by cases hx), h, Nat.le_refl _⟩
 | k + 1, r, h => by
  obtain ⟨h1, h2⟩ := glStep_ok h
  obtain ⟨h3, h4, h5⟩ := glE_by k h2
  unfold glE
  split
  ·exact ⟨fun x hx => (List.mem_cons.1 hx).elim (fun e => e ▸ h1) (h3 x), h4, by simp only [List.length_cons]; omega⟩
  ·exact ⟨(fun x hx => by cases hx), h, by simp⟩
theorem getL_by {r : Rest} (h : ∀ x ∈ r.xs, x < 256) : (∀ x ∈ (getL r).1, x.ok) ∧ (∀ x ∈ (getL r).2.xs, x < 256) ∧ (getL r).1.length ≤ 4096 := by
 obtain ⟨h1, h2, h3⟩ := glE_by (countP 4096 r).1 (countP_by (m := 4096) h)
 have := countP_bd (m := 4096) (r := r) (by omega)
 exact ⟨h1, h2, by unfold getL; omega⟩
theorem run_conv_str (w : World) (s : List Nat) (hs : ∀ x ∈ s, x < 256) (hn : s.length ≤ maxLen) :
  (convert 9 36 (.string (strOf s))).run Tryz.prog w = .ok (.slice (some ⟨w.heap.size, 0, none⟩) s.length (grownCap w s.length 0 5)) (Lib.bytesWorld w 5 (strOf s)) ∧
  Bsl (Lib.bytesWorld w 5 (strOf s)) (fun k => k < w.heap.size) (.slice (some ⟨w.heap.size, 0, none⟩) s.length (grownCap w s.length 0 5)) s ∧ Below w.heap.size w (Lib.bytesWorld w 5 (strOf s)) := by
 have hz := strOf_size s
 have h1 := Lib.run_convert_string_bytes (P := Tryz.prog) w 9 36 5 (strOf s) Tryz.underlying9 Tryz.underlying36 Tryz.underlying5
 rw [hz] at h1
 have hb : Below w.heap.size w (Lib.bytesWorld w 5 (strOf s)) := bytesWorld_below _ _ _
 refine ⟨h1, ⟨⟨_, _, rfl, ⟨by rw [u8s_length, Nat.mul_one], fun h0 => ⟨_, rfl, by rw [Lib.bytesWorld_size]; show w.heap.size < _; omega, fun j u hu => ?_⟩⟩, (fun e => by cases e), fun h0 a ha ht => by cases ha; exact absurd ht (Nat.lt_irrefl _), grownCap_ge _ _ _ _, grownCap_le_maxLen _ _ _ _ hn⟩, hs⟩, hb⟩
 have hj : j < s.length := by
  have := (List.getElem?_eq_some_iff.1 hu).1
  rwa [u8s_length] at this
 rw [add_plain, Nat.zero_add, Lib.bytesWorld_cell w 5 (strOf s) j (by rw [hz]; exact hj)]
 have hnm := numsOf_strOf hs
 unfold numsOf at hnm
 have : ((strOf s).data.toList.map UInt8.toNat)[j]? = some s[j] := by rw [hnm]; exact List.getElem?_eq_getElem hj
 rw [List.getElem?_map, Option.map_eq_some_iff] at this
 obtain ⟨y, hy, hy2⟩ := this
 rw [List.getD_eq_getElem?_getD, hy, Option.getD_some, hy2]
 rw [u8s_get, List.getElem?_eq_getElem hj] at hu
 simpa using hu
end Go.Proofs.YtjhcgnmibnjocaaGreat

namespace Go.Proofs.YtjhcgnmibnjocaaGreat
open Go.RowKit Go.Maps
theorem Rdr.rby {w : World} {g b : Nat} {r : Rest} (h : Rdr w g b r.xs r.e) : ∀ x ∈ r.xs, x < 256 := h.by_
theorem OwnE.only {w w' : World} {base g : Nat} {v : Value} {l : List Ent} (h : OwnE w (Old base v) base v l) (ho : Only w w' g) (hg : g < base) : OwnE w' (Old base v) base v l :=
 h.keep (Kp.of_only ho (.inl hg)) fun k hk hl => ho.block k hl (fun e => by have := (own_ge h k hk).1; omega)
theorem textP_by {m : Int} {r : Rest} (h : ∀ x ∈ r.xs, x < 256) (hm : 0 ≤ m) : (∀ x ∈ (textP m r).1, x < 256) ∧ (∀ x ∈ (textP m r).2.xs, x < 256) ∧ ((textP m r).1.length : Int) ≤ m := by
 have h2 := countP_by (m := m) h
 have h3 := takeP_by (n := (countP m r).1) h2
 have h4 := countP_bd (m := m) (r := r) hm
 exact ⟨h3.1, h3.2.1, by unfold textP; omega⟩
theorem run_conv_strE (w : World) (s : List Nat) (hs : ∀ x ∈ s, x < 256) (hn : s.length ≤ maxLen) :
  ∃ A c w', (convert 9 36 (.string (strOf s))).run Tryz.prog w = .ok (.slice A s.length c) w' ∧ Bsl w' (fun k => k < w.heap.size) (.slice A s.length c) s ∧ Below w.heap.size w w' :=
 ⟨_, _, _, run_conv_str w s hs hn⟩
set_option maxRecDepth 100000 in
set_option maxHeartbeats 4000000 in
theorem getlog_any (g b : Nat) (r : Rest) (w : World) (h : Rdr w g b r.xs r.e) :
  Calls Tryz.prog 87 #[.pointer (some ⟨g, 0, none⟩)] w fun o w' => (∃ A1 c1, o = .returned (.slice A1 (getL r).1.length c1) ∧ OwnE w' (Old w.heap.size (.slice A1 (getL r).1.length c1)) w.heap.size (.slice A1 (getL r).1.length c1) (getL r).1) ∧ Rdr w' g b (getL r).2.xs (getL r).2.e ∧ Only w w' g := by
 have hlt := h.lt
 have hC := rdcount_any g b r.xs r.e 4096 w h (by unfold I64; omega)
 have hbd := countP_bd (m := 4096) (r := r) (by omega)
 have hrr : (⟨r.xs, r.e⟩ : Rest) = r := rfl
 rw [hrr] at hC
 obtain ⟨GL, hGL⟩ : ∃ GL, GL = getL r := ⟨_, rfl⟩
 rw [← hGL]
 have hGL' := hide hGL
 unfold getL at hGL
 generalize countP 4096 r = R0 at *
 obtain ⟨n0, r0⟩ := R0
 simp only at hC hbd hGL
 go_enter Tryz.func87, Tryz.ntmps87
 go_wp2_with (go_at_call 100; (with_reducible refine hC.mono ?_); rintro e w1 ⟨rfl, hr1, ho1⟩)
 have hs1 := ho1.size
 go_loopw [3, 4] (fun vo vi wr => ∃ (k : Nat) (D : List Ent) (R : Rest), vi = .int .i64 (k : Int) ∧ D.length + k ≤ 4096 ∧ GL = (D ++ (glE k R).1, (glE k R).2) ∧ OwnE wr (Old w.heap.size vo) w.heap.size vo D ∧ Rdr wr g b R.xs R.e ∧ Only w wr g) (fun _ vi _ => (intOf vi).toNat)
 case atStart => exact ⟨n0, [], r0, rfl, by simp; omega, hGL, OwnE.nil _ _ _, hr1, ho1⟩
 case round =>
  clear hr1 ho1 hC hGL
  obtain ⟨k, D, R, rfl, hk, hG, hO, hR, hOn⟩ := hrel
  obtain ⟨wo, rfl⟩ : ∃ wo : World, wo = wr := ⟨_, rfl⟩
  have hso := hOn.size
  have hRb := Rdr.rby hR
  obtain ⟨vA, vn, vc, hv⟩ : ∃ A n c, u3 = .slice A n c := by
   obtain ⟨ms, _, ho, _⟩ := hO
   obtain ⟨A, c, rfl, _⟩ := own_sl ho
   exact ⟨_, _, _, rfl⟩
  have hE := rderr_any g b R.xs R.e wo hR
  by_cases hk0 : 0 < k
  ·have d0 : decide ((0 : Int) < k) = true := by simp; omega
   by_cases he : R.e = 0
   ·have he' : (R.e == 0) = true := by simpa using he
    obtain ⟨k', rfl⟩ : ∃ k', k = k' + 1 := ⟨k - 1, by omega⟩
    have hI := rdint_any g b R.xs R.e wo hR
    rw [show (⟨R.xs, R.e⟩ : Rest) = R from rfl] at hI
    have hgn := glE_next k' he
    have hst := glStep_ok hRb
    have hnb := numP_by hRb
    rw [hgn] at hG
    unfold glStep at hG hst
    obtain ⟨mq, hmq⟩ : ∃ mq, mq = numP R := ⟨_, rfl⟩
    rw [← hmq] at hI hG hst hnb
    obtain ⟨m, r1⟩ := mq
    simp only at hI hG hst hnb
    have htb := textP_by (m := 262144) hnb (by omega)
    have hT := fun W (h : Rdr W g b r1.xs r1.e) => rdtext_any g b r1.xs r1.e 262144 W h (by unfold I64; omega)
    rw [show (⟨r1.xs, r1.e⟩ : Rest) = r1 from rfl] at hT
    generalize textP 262144 r1 = tq at *
    obtain ⟨t, r2⟩ := tq
    simp only at hT hG hst htb
    generalize zag m = y at *
    clear hmq hgn hnb
    have HG := hide hG
    clear hG
    subst hv
    go_wp2_with (first | (go_at_call 101; (with_reducible refine hE.mono ?_); rintro e w2 ⟨rfl, rfl⟩) | (go_at_call 86; (with_reducible refine hI.mono ?_); rintro e w3 ⟨rfl, hr3, ho3⟩; have hO3 := hO.only ho3 hlt.1) | (go_at_call 102; (with_reducible refine (hT _ hr3).mono ?_); rintro e w4 ⟨rfl, hr4, ho4⟩; have hs3 := ho3.size; have hs4 := ho4.size; have hO4 := hO3.only ho4 hlt.1; obtain ⟨A5, c5, w5, hcv, hB5, hb5⟩ := run_conv_strE w4 t htb.1 (by unfold maxLen; omega); have hs5 := hb5.size; have hO5 := hO4.below hb5; have hBT : Bsl w5 (Old w.heap.size (.slice vA vn vc)) (.slice A5 t.length c5) t := hB5.sub fun k _ hk => hk.elim (fun h => by omega) (fun h => (own_ge hO4 k h).2)) | (at_builtin; refine app_ent rfl (.tmp 19) (.tmp 25) rfl (Old w.heap.size (.slice vA vn vc)) w.heap.size (.slice vA vn vc) D ⟨⟨y, t⟩, .slice A5 t.length c5⟩ _ rfl rfl hO5 ⟨hBT, hst.1⟩ (fun k hk => .inr hk) _ rfl rfl (by omega) (by omega) (fun v' w6 ho6 hc6 hs6 => ?_)))
    go_roundw
    case rel =>
     have hr5 := hr4.below hb5
     have hlow := hc6.low (base := w.heap.size) (fun k hk => (own_ge hO5 k hk).1) (by omega)
     refine ⟨k', D ++ [⟨y, t⟩], r2, by go_num, by simp; omega, ?_, ho6.sub fun k _ hk => hk.elim (fun h => .inl (.inl h)) .inr, hr5.low hlow hlt.1 hlt.2, (((hOn.trans ho3).trans ho4).trans (Only.of_below hb5)).low hlow (Nat.le_refl _)⟩
     rw [HG.out]
     simp
    case measure => simp [intOf]
   ·have he' : (R.e == 0) = false := by simpa using he
    rw [glE_zero k he] at hG
    simp only [List.append_nil] at hG
    have hG' := hide hG
    clear hG
    go_wp2_with (go_at_call 101; (with_reducible refine hE.mono ?_); rintro e w2 ⟨rfl, rfl⟩)
    go_ret
    subst hv
    rw [hG'.out]
    obtain ⟨ms, _, ho, _⟩ := id hO
    obtain ⟨A, c, e, _⟩ := own_sl ho
    simp only [Value.slice.injEq] at e
    obtain ⟨rfl, rfl, rfl⟩ := e
    exact ⟨⟨_, _, rfl, hO⟩, hR, hOn⟩
  ·obtain rfl : k = 0 := by omega
   simp only [glE, List.append_nil] at hG
   have hG' := hide hG
   clear hG
   go_wp2
   go_ret
   subst hv
   rw [hG'.out]
   obtain ⟨ms, _, ho, _⟩ := id hO
   obtain ⟨A, c, e, _⟩ := own_sl ho
   simp only [Value.slice.injEq] at e
   obtain ⟨rfl, rfl, rfl⟩ := e
   exact ⟨⟨_, _, rfl, hO⟩, hR, hOn⟩
end Go.Proofs.YtjhcgnmibnjocaaGreat

namespace Go.Proofs.YtjhcgnmibnjocaaGreat
open Go.RowKit Go.Maps
theorem infoEntD : (Tryz.prog.info? 79).map (fun i => (i.zero, i.size, i.bytes)) = some (some (.agg #[.int .i64 0, .slice none 0 0]), 2, 32) := by kernel_rfl
structure OwnD (w : World) (T : Nat → Prop) (base : Nat) (v : Value) (l : List Ent) : Prop where
 ex : ∃ ms : List Em, ms.map Em.x = l ∧ w.ownsRow base 79 2 v l.length (emV ms) ∧ Ems w T ms
theorem OwnD.nil (w : World) (T : Nat → Prop) (base : Nat) : OwnD w T base (.slice none 0 0) [] := ⟨[], rfl, World.ownsRow_nil _ _ _ _, fun _ h => by cases h⟩
theorem OwnD.keep {w w' : World} {T : Nat → Prop} {base : Nat} {v : Value} {l : List Ent} (h : OwnD w T base v l) (hk : Kp T w w') (hv : ∀ k, v.ownBlock = some k → k < w.heap.size → w'.heap[k]? = w.heap[k]?) : OwnD w' T base v l := by
 obtain ⟨ms, e, ho, hm⟩ := h
 refine ⟨ms, e, ⟨ho.1, ?_⟩, hm.kp hk⟩
 rcases ho.2 with h' | ⟨g, cap, cur, hv', hb, hh, r⟩
 ·exact .inl h'
 ·exact .inr ⟨g, cap, cur, hv', hb, (hv g (by rw [hv']; rfl) (Blk.lt hh)).trans hh, r⟩
theorem OwnD.sub {w : World} {T T' : Nat → Prop} {base : Nat} {v : Value} {l : List Ent} (h : OwnD w T base v l) (hs : ∀ k, k < w.heap.size → T' k → T k) : OwnD w T' base v l := by
 obtain ⟨ms, e, ho, hm⟩ := h
 exact ⟨ms, e, ho, hm.sub hs⟩
theorem OwnD.below {w w' : World} {T : Nat → Prop} {base : Nat} {v : Value} {l : List Ent} (h : OwnD w T base v l) (hb : Below w.heap.size w w') : OwnD w' T base v l := h.keep (Kp.of_below hb) (fun k _ hl => hb.block k hl)
theorem ownD_ge {w : World} {T : Nat → Prop} {base : Nat} {v : Value} {l : List Ent} (h : OwnD w T base v l) : ∀ k, v.ownBlock = some k → base ≤ k ∧ k < w.heap.size := fun k hk => by
 obtain ⟨ms, _, ho, _⟩ := h
 obtain ⟨A, c, rfl, _⟩ := own_sl ho
 cases A with
 | none => cases hk
 | some ad => cases hk; exact own_addr ho _ rfl
theorem OwnD.only {w w' : World} {base g : Nat} {v : Value} {l : List Ent} (h : OwnD w (Old base v) base v l) (ho : Only w w' g) (hg : g < base) : OwnD w' (Old base v) base v l :=
 h.keep (Kp.of_only ho (.inl hg)) fun k hk hl => ho.block k hl (fun e => by have := (ownD_ge h k hk).1; omega)
theorem OwnD.ents {w : World} {T T' : Nat → Prop} {base n c : Nat} {A : Option Addr} {l : List Ent} (h : OwnD w T base (.slice A n c) l) (hn : l.length = n) (h1 : ∀ k, T' k → k < base) (h2 : ∀ k, T' k → T k) : Ents w T' A n l := by
 obtain ⟨ms, e, ho, hm⟩ := h
 rw [hn] at ho
 exact ⟨⟨ms, e, Reads.of_own ho, hm.sub fun k _ => h2 k⟩, hn, fun h0 a ha ht => by have := (own_addr ho a ha).1; have := h1 _ ht; omega⟩
theorem OwnD.sl {w : World} {T : Nat → Prop} {base : Nat} {v : Value} {l : List Ent} (h : OwnD w T base v l) : ∃ A c, v = .slice A l.length c := by
 obtain ⟨ms, _, ho, _⟩ := h
 obtain ⟨A, c, e, _⟩ := own_sl ho
 exact ⟨A, c, e⟩
theorem app_entD {W : World} {ops : Array Oper} {rest : List Oper} {o : Oper} {a : Act} {Q : Exit → Act → World → Prop} (hgd : o.guard = none) (s x : Operand)
  (ho : o.op = .call { callee := .builtin .append, args := #[s, x], argTypes := #[31, 31] }) (T : Nat → Prop) (base : Nat) (v : Value) (l : List Ent) (u : Em) (cs : Array Value) (hcs : cs = u.cells.toArray) (hs : a.eval s = v) (hown : OwnD W T base v l)
  (hu : Bsl W T u.v u.x.t ∧ u.x.ok) (hT : ∀ k, v.ownBlock = some k → T k) (B : Nat) (hB : B = W.heap.size) (hx : a.eval x = .slice (some ⟨B, 0, none⟩) 1 1) (hl : l.length ≤ 1000000) (hbase : base ≤ W.heap.size)
  (h : ∀ v' w', OwnD w' (fun k => T k ∨ v'.ownBlock = some k) base v' (l ++ [u.x]) → Chg W w' v v' → W.heap.size + 1 ≤ w'.heap.size → wpList Tryz.prog ops Q rest (a.put o.dst v') w') :
  wpList Tryz.prog ops Q (o :: rest) a (W.alloc (.cells cs 79)) := by
 subst hcs hB
 obtain ⟨i0, hi, hz0, hz1, hz2⟩ := info_parts infoEntD
 obtain ⟨ms, he, hown, hm⟩ := hown
 obtain ⟨Av, nv, cv, ev⟩ := hu.1.sl
 refine wpList_append_own_at (W.alloc (.cells u.cells.toArray 79)) hgd s x 31 ho base 79 i0 _ 2 32 Tryz.underlying31 hi hz0 hz1 hz2 rfl (by decide) v l.length (emV ms) hs (own_alloc hown _) ⟨W.heap.size, 0, none⟩ 1 1 u.cells hx rfl (cells_new _ _ _) ?_ (by unfold maxLen; omega) (by omega) (by simp; omega) fun v' w' h1 h2 h3 h4 => h v' w' ?_ ?_ (by have := h2.size; simpa using this)
 ·intro y hy
  simp only [Em.cells, ev, List.mem_cons, List.not_mem_nil, or_false] at hy
  rcases hy with rfl | rfl <;> rfl
 ·refine ⟨ms ++ [u], by rw [List.map_append, he]; rfl, ?_, ?_⟩
  ·rw [List.length_append, emV_append]
   simpa [emV, rowsV] using h1
  ·have hk : Kp (fun k => T k ∨ W.heap.size ≤ k) W w' := ⟨h2.os, h2.tape, h2.output, by have := h2.size; simp at this; omega, fun k hk hn => (h2.block k (by simp; omega) (fun e => hn (.inl (hT k e.symm)))).trans (Below.heap_alloc W _ k hk)⟩
   have hall : Ems W T (ms ++ [u]) := fun m hmm => by
    rcases List.mem_append.1 hmm with hmm | hmm
    ·exact hm m hmm
    ·simp only [List.mem_singleton] at hmm
     subst hmm
     exact hu
   refine ((hall.sub (T' := fun k => T k ∨ W.heap.size ≤ k) (fun k hk ht => ht.elim id (fun h => by omega))).kp hk).sub fun k _ ht => ?_
   rcases ht with ht | ht
   ·exact .inl ht
   ·rcases h4 with e | e
    ·exact .inl (hT k (e ▸ ht))
    ·rw [e] at ht
     cases ht
     exact .inr (by simp)
 ·refine ⟨h2.os, h2.tape, h2.output, ?_, fun k hk hv => ?_, ?_⟩
  ·have := h2.size
   simp at this
   omega
  ·exact (h2.block k (by simp; omega) (Ne.symm hv)).trans (Below.heap_alloc W _ k hk)
  ·rcases h4 with e | e
   ·exact .inl e
   ·exact .inr ⟨_, e, by simp⟩
theorem dcM (q : Nat) (A : Option Addr) (c : Nat) (l : List Nat) (r : Rest) (most : Int) (hm : 0 ≤ most ∧ most ≤ 4611686018427387904) (hby : ∀ x ∈ l, x < 256) (hlen : l.length ≤ 140737488355328) (w : World) (h : Mst w q A c l r) :
  Calls Tryz.prog 103 #[.pointer (some ⟨q, 0, none⟩), .int .i64 most] w fun e' w' => e' = .returned (.int .i64 ((countP most r).1 : Nat)) ∧ Mst w' q A c l (countP most r).2 ∧ Only w w' q := by
 obtain ⟨a, e, hm', rfl⟩ := h
 exact dcountM_any q A c l a e most w hm' hby hlen hm
theorem dtM (q : Nat) (A : Option Addr) (c : Nat) (l : List Nat) (r : Rest) (most : Int) (hm : 0 ≤ most ∧ most ≤ 4611686018427387904) (hby : ∀ x ∈ l, x < 256) (hlen : l.length ≤ 140737488355328) (hc : l.length ≤ c ∧ c ≤ maxLen ∧ (A = none → c = 0)) (w : World) (h : Mst w q A c l r) :
  Calls Tryz.prog 104 #[.pointer (some ⟨q, 0, none⟩), .int .i64 most] w fun e' w' => e' = .returned (.string (strOf (textP most r).1)) ∧ Mst w' q A c l (textP most r).2 ∧ Only w w' q := by
 obtain ⟨a, e, hm', rfl⟩ := h
 exact dtext_any q A c l a e most w hm' hby hlen hm hc
end Go.Proofs.YtjhcgnmibnjocaaGreat

namespace Go.Proofs.YtjhcgnmibnjocaaGreat
open Go.RowKit Go.Maps
theorem rest_by {l : List Nat} (hby : ∀ x ∈ l, x < 256) {w : World} {q : Nat} {A : Option Addr} {c : Nat} {r : Rest} (h : Mst w q A c l r) : ∀ x ∈ r.xs, x < 256 := by
 obtain ⟨a, e, hm, rfl⟩ := h
 exact restP_by hby
set_option maxRecDepth 100000 in
set_option maxHeartbeats 4000000 in
theorem dgetlog_any (q : Nat) (A : Option Addr) (c : Nat) (l : List Nat) (r : Rest) (hby : ∀ x ∈ l, x < 256) (hlen : l.length ≤ 140737488355328) (hc : l.length ≤ c ∧ c ≤ maxLen ∧ (A = none → c = 0)) (w : World) (h : Mst w q A c l r) (hq : q < w.heap.size) (hA : 0 < l.length → ∀ b, A = some b → b.block < w.heap.size) :
  Calls Tryz.prog 92 #[.pointer (some ⟨q, 0, none⟩)] w fun o w' => (∃ A1 c1, o = .returned (.slice A1 (getL r).1.length c1) ∧ OwnD w' (Old w.heap.size (.slice A1 (getL r).1.length c1)) w.heap.size (.slice A1 (getL r).1.length c1) (getL r).1) ∧ Mst w' q A c l (getL r).2 ∧ Only w w' q := by
 have hC := dcM q A c l r 4096 (by omega) hby hlen w h
 have hbd := countP_bd (m := 4096) (r := r) (by omega)
 obtain ⟨GL, hGL⟩ : ∃ GL, GL = getL r := ⟨_, rfl⟩
 rw [← hGL]
 have hGL' := hide hGL
 unfold getL at hGL
 generalize countP 4096 r = R0 at *
 obtain ⟨n0, r0⟩ := R0
 simp only at hC hbd hGL
 go_enter Tryz.func92, Tryz.ntmps92
 go_wp2_with (go_at_call 103; (with_reducible refine hC.mono ?_); rintro e w1 ⟨rfl, hr1, ho1⟩)
 have hs1 := ho1.size
 go_loopw [4, 5] (fun vo vi wr => ∃ (k i : Nat) (D : List Ent) (R : Rest), vi = .int .i64 (i : Int) ∧ i + k = n0 ∧ D.length + k ≤ 4096 ∧ GL = (D ++ (glE k R).1, (glE k R).2) ∧ OwnD wr (Old w.heap.size vo) w.heap.size vo D ∧ Mst wr q A c l R ∧ Only w wr q) (fun _ vi _ => ((n0 : Int) - intOf vi).toNat)
 case atStart => exact ⟨n0, 0, [], r0, rfl, by omega, by simp; omega, hGL, OwnD.nil _ _ _, hr1, ho1⟩
 case round =>
  clear hr1 ho1 hC hGL
  obtain ⟨k, i, D, R, rfl, hik, hk, hG, hO, hR, hOn⟩ := hrel
  obtain ⟨wo, rfl⟩ : ∃ wo : World, wo = wr := ⟨_, rfl⟩
  have hso := hOn.size
  have hRb := rest_by hby hR
  obtain ⟨vA, vc, hv⟩ := hO.sl
  obtain ⟨ra, hRB⟩ := hR.e
  have cR := hRB.cell
  have lR := hRB.lt
  by_cases hk0 : 0 < k
  ·have d0 : decide ((i : Int) < n0) = true := by simp; omega
   have d0' : decide (i < n0) = true := by simp; omega
   by_cases he : R.e = 0
   ·have he' : (R.e == 0) = true := by simpa using he
    obtain ⟨k', rfl⟩ : ∃ k', k = k' + 1 := ⟨k - 1, by omega⟩
    have hI := di_any q A c l R hby hlen wo hR
    have hgn := glE_next k' he
    have hst := glStep_ok hRb
    have hnb := numP_by hRb
    rw [hgn] at hG
    unfold glStep at hG hst
    obtain ⟨mq, hmq⟩ : ∃ mq, mq = numP R := ⟨_, rfl⟩
    rw [← hmq] at hI hG hst hnb
    obtain ⟨m, r1⟩ := mq
    simp only at hI hG hst hnb
    have htb := textP_by (m := 262144) hnb (by omega)
    have hT := fun W (h : Mst W q A c l r1) => dtM q A c l r1 262144 (by omega) hby hlen hc W h
    generalize textP 262144 r1 = tq at *
    obtain ⟨t, r2⟩ := tq
    simp only at hT hG hst htb
    generalize zag m = y at *
    clear hmq hgn hnb
    have HG := hide hG
    clear hG
    subst hv
    go_wp2_with (first | (go_at_call 91; (with_reducible refine hI.mono ?_); rintro e w3 ⟨rfl, hr3, ho3⟩; have hO3 := hO.only ho3 hq) | (go_at_call 104; (with_reducible refine (hT _ hr3).mono ?_); rintro e w4 ⟨rfl, hr4, ho4⟩; have hs3 := ho3.size; have hs4 := ho4.size; have hO4 := hO3.only ho4 hq; obtain ⟨A5, c5, w5, hcv, hB5, hb5⟩ := run_conv_strE w4 t htb.1 (by unfold maxLen; omega); have hs5 := hb5.size; have hO5 := hO4.below hb5; have hBT : Bsl w5 (Old w.heap.size (.slice vA D.length vc)) (.slice A5 t.length c5) t := hB5.sub fun k _ hk => hk.elim (fun h => by omega) (fun h => (ownD_ge hO4 k h).2)) | (at_builtin; refine app_entD rfl (.tmp 27) (.tmp 31) rfl (Old w.heap.size (.slice vA D.length vc)) w.heap.size (.slice vA D.length vc) D ⟨⟨y, t⟩, .slice A5 t.length c5⟩ _ rfl rfl hO5 ⟨hBT, hst.1⟩ (fun k hk => .inr hk) _ rfl rfl (by omega) (by omega) (fun v' w6 ho6 hc6 hs6 => ?_)))
    go_roundw
    case rel =>
     have hr5 := hr4.below hb5
     have hlow := hc6.low (base := w.heap.size) (fun k hk => (ownD_ge hO5 k hk).1) (by omega)
     refine ⟨k', i + 1, D ++ [⟨y, t⟩], r2, by go_num, by omega, by simp; omega, ?_, ho6.sub fun k _ hk => hk.elim (fun h => .inl (.inl h)) .inr, hr5.low hlow hq hA, (((hOn.trans ho3).trans ho4).trans (Only.of_below hb5)).low hlow (Nat.le_refl _)⟩
     rw [HG.out]
     simp
    case measure => simp [intOf]; omega
   ·have he' : (R.e == 0) = false := by simpa using he
    rw [glE_zero k he] at hG
    simp only [List.append_nil] at hG
    have hG' := hide hG
    clear hG
    go_wp2
    go_ret
    subst hv
    rw [hG'.out]
    exact ⟨⟨_, _, rfl, hO⟩, hR, hOn⟩
  ·obtain rfl : k = 0 := by omega
   simp only [glE, List.append_nil] at hG
   have hG' := hide hG
   clear hG
   have d0 : decide ((i : Int) < n0) = false := by simp; omega
   have d0' : decide (i < n0) = false := by simp; omega
   go_wp2
   go_ret
   subst hv
   rw [hG'.out]
   exact ⟨⟨_, _, rfl, hO⟩, hR, hOn⟩
end Go.Proofs.YtjhcgnmibnjocaaGreat

namespace Go.Proofs.YtjhcgnmibnjocaaGreat
open Go.RowKit Go.Maps
theorem rint_at (g b : Nat) (r : Rest) (w : World) (h : Rdr w g b r.xs r.e) {n : Nat} {r' : Rest} (hq : numP r = (n, r')) :
  Calls Tryz.prog 86 #[.pointer (some ⟨g, 0, none⟩)] w fun e' w' => e' = .returned (.int .i64 (zag n)) ∧ Rdr w' g b r'.xs r'.e ∧ Only w w' g := by
 have := rdint_any g b r.xs r.e w h
 rw [show (⟨r.xs, r.e⟩ : Rest) = r from rfl, hq] at this
 exact this
theorem Kp.put (w : World) (p i : Nat) (u : Value) : Kp (fun k => k = p) w (w.setCell ⟨p, i, none⟩ u) :=
 Kp.set_ (S := fun k => k = p) (Kp.refl _ w) (p := ⟨p, i, none⟩) (.inl rfl) u
end Go.Proofs.YtjhcgnmibnjocaaGreat

namespace Go.Proofs.YtjhcgnmibnjocaaGreat
open Go.RowKit Go.Maps
theorem dint_at (q : Nat) (A : Option Addr) (c : Nat) (l : List Nat) (r : Rest) (hby : ∀ x ∈ l, x < 256) (hlen : l.length ≤ 140737488355328) (w : World) (h : Mst w q A c l r) {n : Nat} {r' : Rest} (hq : numP r = (n, r')) :
  Calls Tryz.prog 91 #[.pointer (some ⟨q, 0, none⟩)] w fun e' w' => e' = .returned (.int .i64 (zag n)) ∧ Mst w' q A c l r' ∧ Only w w' q := by
 have := di_any q A c l r hby hlen w h
 rw [hq] at this
 exact this
end Go.Proofs.YtjhcgnmibnjocaaGreat

namespace Go.Proofs.YtjhcgnmibnjocaaGreat
open Go.RowKit Go.Maps
end Go.Proofs.YtjhcgnmibnjocaaGreat

namespace Go.Proofs.YtjhcgnmibnjocaaGreat
open Go.RowKit Go.Maps
theorem Kp.of_low {base : Nat} {w w' : World} (h : Below base w w') : Kp (fun k => base ≤ k) w w' := ⟨h.os, h.tape, h.output, h.size, fun k _ hk => h.block k (by omega)⟩
set_option maxRecDepth 100000 in
set_option maxHeartbeats 4000000 in
theorem dputLog_any (base : Nat) (v : Value) (xs : List Nat) (A : Option Addr) (n c : Nat) (l : List Ent) (w : World) (hw : Row w base v xs) (hbase : base ≤ w.heap.size) (h : Ents w (fun k => base ≤ k) A n l) (hn : n ≤ 4096) (hlen : xs.length ≤ 1000) :
  Calls Tryz.prog 77 #[v, .slice A n c] w fun r w' => (∃ v', r = .returned v' ∧ Row w' base v' (xs ++ logB l)) ∧ Below base w w' := by
 have hln := h.len
 have hok := h.okAll
 have l3 := numB_le n (by omega)
 have k1 : IntKind.u64.wrap (n : Int) = (n : Int) := by show (n : Int) % 18446744073709551616 = _; omega
 have hu : U64 (n : Int) := by unfold U64; omega
 have hN := rnum_any base v xs (n : Int) w hw hbase hu (by omega)
 rw [Int.toNat_natCast] at hN
 obtain ⟨vA, vc, rfl, _⟩ := own_sl hw
 go_enter Tryz.func77, Tryz.ntmps77
 go_wp2_with (go_at_call 71; (with_reducible refine hN.mono ?_); rintro r w1 ⟨v1, rfl, hr1, hc1⟩; have hb1 := Chg.below hc1 hw hbase)
 clear hN
 go_loopw [0, 5] (fun vu vi wr => ∃ j : Nat, j ≤ n ∧ vi = .int .i64 (j : Int) ∧ Row wr base vu (xs ++ numB n ++ entsB (l.take j)) ∧ Below base w wr) (fun _ vi _ => ((n : Int) - intOf vi).toNat)
 case atStart => exact ⟨0, by omega, rfl, by simpa [entsB] using hr1, hb1⟩
 case round =>
  clear hr1 hc1 hb1
  obtain ⟨j, hj, rfl, hu', hb⟩ := hrel
  obtain ⟨wo, rfl⟩ : ∃ wo : World, wo = wr := ⟨_, rfl⟩
  have hs0 := hb.size
  have htl := entsB_le (l := l.take j) (fun x hx => hok x (List.mem_of_mem_take hx))
  have htk : (l.take j).length ≤ 4096 := by rw [List.length_take]; omega
  by_cases hlt : j < n
  ·have hK := Kp.of_low hb
   have hE := h.kp hK
   obtain ⟨b, o, A2, c2, x, rfl, hbl, hg, hxo, m1, m2, hB⟩ := hE.at_ hlt
   have hnT : ¬base ≤ b := hE.nt (by omega) _ rfl
   have hlj : (j : Int) < n := by omega
   have hT := hide (entsB_take hg)
   have hxn := hxo.n
   have hxe := numB_le _ (zig_lt _ hxo.e)
   have hst : (strOf x.t).size = x.t.length := strOf_size _
   have hbw := fun w' (h' : Below base wo w') => h'
   clear hE hg
   go_wp2
   refine wp_region_below base [5, 11, 12] [0, 1, 2, 3, 4, 7, 8, 9, 10] [(true, false, 0), (true, false, 1), (true, false, 2), (true, false, 3), (true, false, 4), (true, true, 5), (true, false, 7), (true, false, 8), (true, false, 9), (true, false, 10), (true, true, 11), (true, true, 12), (false, true, 6), (false, false, 13), (false, false, 14)] (by kernel_rfl) (by kernel_rfl) (fun Y => ?_); simp only [List.map_cons, List.map_nil, List.getD_cons_zero, List.getD_cons_succ]
   have hbY : Below base wo (wo.ext Y) := (World.below_ext wo Y).mono (by omega)
   have hrY : Row (wo.ext Y) base u0 (xs ++ numB n ++ entsB (l.take j)) := own_keep hu' (w' := wo.ext Y) (fun k _ hk => (World.below_ext wo Y).block k hk)
   have M1 : ∀ w', Below base (wo.ext Y) w' → w'.cell? ⟨b, o + j * 2, none⟩ = some (.int .i64 x.e) := fun w' hw' => ((hbY.trans hw').cell (p := ⟨b, _, none⟩) (by show b < base; omega)).trans m1
   have M2 : ∀ w', Below base (wo.ext Y) w' → w'.cell? ⟨b, o + j * 2 + 1, none⟩ = some (.slice A2 x.t.length c2) := fun w' hw' => ((hbY.trans hw').cell (p := ⟨b, _, none⟩) (by show b < base; omega)).trans m2
   have M3 : ∀ w', Below base (wo.ext Y) w' → (convert 36 9 (.slice A2 x.t.length c2)).run Tryz.prog w' = .ok (.string (strOf x.t)) w' := fun w' hw' => (hB.kp (Kp.of_low (hbY.trans hw'))).conv
   (repeat (first | (refine wfp fun K hK => ?_; go_simp; refine hK _ _ ?_; clear hK K) | (refine wff fun K hK => ?_; go_simp; refine hK _ _ ?_; clear hK K)))
   (refine first_readG rfl (v := .int .i64 x.e) (fun w' hw' => ?_) (fun K hK => ?_); rotate_left 1; go_simp; refine hK _ _ ?_; clear hK K; rotate_left 1; (have q1 := M1 w' hw'; go_simp))
   (repeat (first | (refine wfp fun K hK => ?_; go_simp; refine hK _ _ ?_; clear hK K) | (refine wff fun K hK => ?_; go_simp; refine hK _ _ ?_; clear hK K)))
   (refine first_readG rfl (v := .slice A2 x.t.length c2) (fun w' hw' => ?_) (fun K hK => ?_); rotate_left 1; go_simp; refine hK _ _ ?_; clear hK K; rotate_left 1; (have q2 := M2 w' hw'; go_simp))
   (repeat (first | (refine wfp fun K hK => ?_; go_simp; refine hK _ _ ?_; clear hK K) | (refine wff fun K hK => ?_; go_simp; refine hK _ _ ?_; clear hK K)))
   (refine first_readG rfl (v := .string (strOf x.t)) (fun w' hw' => ?_) (fun K hK => ?_); rotate_left 1; go_simp; refine hK _ _ ?_; clear hK K; rotate_left 1; (have q3 := M3 w' hw'; go_simp))
   (repeat (first | (refine wfp fun K hK => ?_; go_simp; refine hK _ _ ?_; clear hK K) | (refine wff fun K hK => ?_; go_simp; refine hK _ _ ?_; clear hK K)))
   have hsY := hbY.size
   refine First.wpF_must (fun K hK => ?_)
   go_wp2_with (go_at_call 78; (with_reducible refine (rint_any base _ _ x.e (wo.ext Y) hrY (by omega) hxo.e (by simp only [List.length_append]; omega)).mono ?_); rintro r w5 ⟨v5, rfl, hr5, hc5⟩; have hb5 := Chg.below hc5 hrY (by omega))
   (refine hK _ _ (fun _ => hb5) ?_; clear hK K)
   (repeat (first | (refine wfp fun K hK => ?_; go_simp; refine hK _ _ ?_; clear hK K) | (refine wff fun K hK => ?_; go_simp; refine hK _ _ ?_; clear hK K)))
   have hs5 := hb5.size
   refine First.wpF_must (fun K hK => ?_)
   go_wp2_with (go_at_call 97; (with_reducible refine (rtext_any base _ _ (strOf x.t) w5 hr5 (by omega) (by simp only [List.length_append]; omega)).mono ?_); rintro r w6 ⟨v6, rfl, hr6, hc6⟩; have hb6 := Chg.below hc6 hr5 (by omega))
   (refine hK _ _ (fun _ => hb6) ?_; clear hK K)
   (repeat (first | (refine wfp fun K hK => ?_; go_simp; refine hK _ _ ?_; clear hK K) | (refine wff fun K hK => ?_; go_simp; refine hK _ _ ?_; clear hK K)))
   refine First.wpF_must (fun K hK => ?_)
   go_wp2
   (refine hK _ _ (fun _ => Below.refl _ _) ?_; clear hK K)
   refine First.wpF_nil ?_
   go_wp2
   go_roundw
   case rel =>
    refine ⟨j + 1, by omega, by go_num, ?_, ((hb.trans hbY).trans hb5).trans hb6⟩
    rw [textB_str hxo.by_] at hr6
    rw [hT.out]
    simpa [entB, List.append_assoc] using hr6
   case measure => simp [intOf]; omega
  ·obtain rfl : j = n := by omega
   go_wp2
   go_ret
   refine ⟨⟨_, rfl, ?_⟩, hb⟩
   rw [List.take_of_length_le (by omega)] at hu'
   simpa [logB, List.append_assoc, hln] using hu'
end Go.Proofs.YtjhcgnmibnjocaaGreat

namespace Go.Proofs.YtjhcgnmibnjocaaGreat
open Go.RowKit Go.Maps
theorem chg_box {w w' : World} {q : Nat} {u u' : Value} (hc : Chg w w' u u') (hq : u.ownBlock ≠ some q) (hl : q < w.heap.size) : u'.ownBlock ≠ some q ∧ Kp (fun k => k ≠ q) w w' := by
 refine ⟨fun e => ?_, ⟨hc.os, hc.tape, hc.output, hc.size, fun k hk hn => hc.block k hk ?_⟩⟩
 ·rcases hc.lies with e' | ⟨b, e', hb⟩
  ·rw [e'] at e; exact hq e
  ·rw [e'] at e; cases e; omega
 ·obtain rfl : k = q := Classical.not_not.1 hn
  exact hq
theorem row_far {w : World} {base : Nat} {u : Value} {xs : List Nat} (h : Row w base u xs) : u.ownBlock ≠ some w.heap.size := fun e => by
 have := (h.ge e).2
 omega
set_option maxRecDepth 100000 in
set_option maxHeartbeats 4000000 in
theorem rvputG_any (base : Nat) (v : Value) (xs : List Nat) (e p : Int) (A : Option Addr) (n c : Nat) (l : List Int) (w : World) (hw : Row w base v xs) (hbase : base ≤ w.heap.size) (hr : Reads w w.heap.size 1 A n (ints l)) (hA : 0 < n → ∀ a, A = some a → a.block < base)
  (he : I64 e) (hp : I64 p) (hl64 : ∀ x ∈ l, I64 x) (hn : n ≤ 50) (hlen : xs.length ≤ 1000) :
  Calls Tryz.prog 70 #[v, .agg #[.int .i64 e, .int .i64 p, .slice A n c]] w fun r w' => (∃ u, r = .returned u ∧ Row w' base u (xs ++ viewB e p l)) ∧ Below base w w' := by
 have hl := reads_len hr
 have hfar := row_far hw
 obtain ⟨vA, vc, rfl, _⟩ := own_sl hw
 have hB := Blk.new w 30 #[.int .i64 e, .int .i64 p, .slice A n c]
 have hb0 : Below w.heap.size w (w.alloc (.cells #[.int .i64 e, .int .i64 p, .slice A n c] 30)) := Below.alloc (Below.refl _ _) (Nat.le_refl _) _
 have l1 := numB_le _ (zig_lt _ he)
 have l2 := numB_le _ (zig_lt _ hp)
 have l3 := numB_le n (by omega)
 have k1 : IntKind.u64.wrap (n : Int) = (n : Int) := by show (n : Int) % 18446744073709551616 = _; omega
 have hu : U64 (n : Int) := by unfold U64; omega
 go_enter Tryz.func70, Tryz.ntmps70
 go_wp2
 refine wp_region_kp (fun k => k ≠ w.heap.size) [2, 5] [0, 1, 4] [(true, false, 0), (true, false, 1), (true, true, 2), (true, false, 4), (true, true, 5), (false, true, 3), (false, false, 6), (false, false, 7)] (by kernel_rfl) (by kernel_rfl) (fun Y => ?_); simp only [List.map_cons, List.map_nil, List.getD_cons_zero, List.getD_cons_succ]
 have hnq : ¬(w.heap.size ≠ w.heap.size) := fun h => h rfl
 have hbY : Below w.heap.size w ((w.alloc (.cells #[.int .i64 e, .int .i64 p, .slice A n c] 30)).ext Y) := hb0.trans ((World.below_ext _ Y).mono (by simp))
 have hwY : Row ((w.alloc (.cells #[.int .i64 e, .int .i64 p, .slice A n c] 30)).ext Y) base (.slice vA xs.length vc) xs := own_keep hw (fun k _ hk => hbY.block k hk)
 have hsY : w.heap.size < ((w.alloc (.cells #[.int .i64 e, .int .i64 p, .slice A n c] 30)).ext Y).heap.size := by simp only [World.size_ext, World.size_alloc]; omega
 (repeat (first | (refine wfp fun K hK => ?_; go_simp; refine hK _ _ ?_; clear hK K) | (refine wff fun K hK => ?_; go_simp; refine hK _ _ ?_; clear hK K)))
 (refine first_readG rfl (v := .int .i64 e) (fun w' hw' => ?_) (fun K hK => ?_); rotate_left 1; go_simp; refine hK _ _ ?_; clear hK K; rotate_left 1; (have hB' := Blk.kp (Blk.ext hB _) hw' hnq; have c' := Blk.cell hB'; go_simp))
 (repeat (first | (refine wfp fun K hK => ?_; go_simp; refine hK _ _ ?_; clear hK K) | (refine wff fun K hK => ?_; go_simp; refine hK _ _ ?_; clear hK K)))
 (refine first_readG rfl (v := .int .i64 p) (fun w' hw' => ?_) (fun K hK => ?_); rotate_left 1; go_simp; refine hK _ _ ?_; clear hK K; rotate_left 1; (have hB' := Blk.kp (Blk.ext hB _) hw' hnq; have c' := Blk.cell hB'; go_simp))
 (repeat (first | (refine wfp fun K hK => ?_; go_simp; refine hK _ _ ?_; clear hK K) | (refine wff fun K hK => ?_; go_simp; refine hK _ _ ?_; clear hK K)))
 refine First.wpF_must (fun K hK => ?_)
 go_wp2_with (go_at_call 78; (with_reducible refine (rint_any base _ _ e _ hwY (by omega) he (by omega)).mono ?_); rintro r w1 ⟨v1, rfl, hr1, hc1⟩; have hx1 := chg_box hc1 hfar hsY; have hb1 := Chg.below hc1 hwY (by omega))
 (refine hK _ _ (fun _ => hx1.2) ?_; clear hK K)
 (repeat (first | (refine wfp fun K hK => ?_; go_simp; refine hK _ _ ?_; clear hK K) | (refine wff fun K hK => ?_; go_simp; refine hK _ _ ?_; clear hK K)))
 have hs1 := hb1.size
 refine First.wpF_must (fun K hK => ?_)
 go_wp2_with (go_at_call 78; (with_reducible refine (rint_any base _ _ p _ hr1 (by omega) hp (by simp only [List.length_append]; omega)).mono ?_); rintro r w2 ⟨v2, rfl, hr2, hc2⟩; have hx2 := chg_box hc2 hx1.1 (by omega); have hb2 := Chg.below hc2 hr1 (by omega))
 (refine hK _ _ (fun _ => hx2.2) ?_; clear hK K)
 (repeat (first | (refine wfp fun K hK => ?_; go_simp; refine hK _ _ ?_; clear hK K) | (refine wff fun K hK => ?_; go_simp; refine hK _ _ ?_; clear hK K)))
 refine First.wpF_must (fun K hK => ?_)
 go_wp2
 (refine hK _ _ (fun _ => Kp.refl _ _) ?_; clear hK K)
 refine First.wpF_nil ?_
 have hB2 := Blk.kp (Blk.kp (Blk.ext hB Y) hx1.2 hnq) hx2.2 hnq
 have cB2 := hB2.cell
 have lB2 := hB2.lt
 have hb02 : Below base w w2 := ((hbY.mono hbase).trans hb1).trans hb2
 have hs2 := hb2.size
 have hsz : base ≤ w2.heap.size := by omega
 have hf2 := hx2.1
 clear hr1 hc1 hb1 hc2 hb2 hwY hbY hx1 hx2
 go_wp2_with (go_at_call 71; (with_reducible refine (rnum_any base _ _ (n : Int) _ hr2 hsz hu (by simp only [List.length_append]; omega)).mono ?_); rintro r w3 ⟨v3, rfl, hr3, hc3⟩; rw [Int.toNat_natCast] at hr3; have hb3 := Chg.below hc3 hr2 hsz; have hx3 := chg_box hc3 hf2 lB2; have hB3 := Blk.kp hB2 hx3.2 hnq; have cB3 := hB3.cell; have lB3 := hB3.lt)
 have hb03 : Below base w w3 := hb02.trans hb3
 have hf3 := hx3.1
 clear hr2 hB2 cB2 lB2 hb02 hc3 hb3 cB3 lB3 hB hb0 hx3 hf2
 go_loopw [0, 5] (fun vu vi wr => ∃ j : Nat, j ≤ n ∧ vi = .int .i64 (j : Int) ∧ Row wr base vu (xs ++ numB (zig e) ++ numB (zig p) ++ numB n ++ tailB (l.take j)) ∧ Blk wr w.heap.size 30 #[.int .i64 e, .int .i64 p, .slice A n c] ∧ vu.ownBlock ≠ some w.heap.size ∧ Below base w wr) (fun _ vi _ => ((n : Int) - intOf vi).toNat)
 case atStart => exact ⟨0, by omega, rfl, by simpa [tailB] using hr3, hB3, hf3, hb03⟩
 case round =>
  clear hr3 hB3 hb03 hf3
  obtain ⟨j, hj, rfl, hu', hBw, hfu, hb⟩ := hrel
  obtain ⟨wo, rfl⟩ : ∃ wo : World, wo = wr := ⟨_, rfl⟩
  have cB := hBw.cell
  have lB := hBw.lt
  have hs0 := hb.size
  have htl := tailB_le (l := l.take j) (fun x hx => hl64 x (List.mem_of_mem_take hx))
  have htk : (l.take j).length ≤ 50 := by rw [List.length_take]; omega
  by_cases hlt : j < n
  ·obtain ⟨b, o, rfl, hbb, hcc⟩ := hr.plain (by omega) (by omega)
   have hbb2 := hA (by omega) _ rfl
   have hg : l[j]? = some l[j] := List.getElem?_eq_getElem (by omega)
   have m1 : wo.cell? ⟨b, o + j, none⟩ = some (.int .i64 l[j]) := by rw [hb.cell (p := ⟨b, o + j, none⟩) hbb2]; exact hcc _ _ (ints_get hg)
   have hx := hl64 _ (List.getElem_mem (by omega : j < l.length))
   have hlj : (j : Int) < n := by omega
   have hbw : b < wo.heap.size := by omega
   have hT := hide (tailB_take hg)
   generalize l[j] = x at *
   have hI := rint_any base _ _ x wo hu' (by omega) hx (by simp only [List.length_append]; omega)
   clear hcc hg
   go_wp2_with (go_at_call 78; (with_reducible refine hI.mono ?_); rintro r w5 ⟨v5, rfl, hr5, hc5⟩; have hb5 := Chg.below hc5 hu' (by omega); have hx5 := chg_box hc5 hfu lB)
   go_roundw
   case rel => exact ⟨j + 1, by omega, by go_num, by rw [hT.out, ← List.append_assoc]; exact hr5, Blk.kp hBw hx5.2 hnq, hx5.1, hb.trans hb5⟩
   case measure => simp [intOf]; omega
  ·obtain rfl : n = j := by omega
   go_wp2
   go_ret
   refine ⟨⟨_, rfl, ?_⟩, hb⟩
   rw [List.take_of_length_le (by omega)] at hu'
   simpa [viewB, List.append_assoc, hl] using hu'
end Go.Proofs.YtjhcgnmibnjocaaGreat

namespace Go.Proofs.YtjhcgnmibnjocaaGreat
open Go.RowKit Go.Maps
end Go.Proofs.YtjhcgnmibnjocaaGreat

namespace Go.Proofs.YtjhcgnmibnjocaaGreat
open Go.RowKit Go.Maps
set_option maxRecDepth 100000 in
set_option maxHeartbeats 4000000 in
theorem back_any {T : Nat → Prop} (A : Option Addr) (n c : Nat) (l : List Ent) (w : World) (h : Ents w T A n l) (hTl : ∀ k, T k → k < w.heap.size) (hn : n ≤ 1000000) :
  Calls Tryz.prog 61 #[.slice A n c] w fun e w' => ∃ A1 c1, e = .returned (.slice A1 n c1) ∧ Ents w' T A1 n l ∧ Below w.heap.size w w' := by
 have hln := h.len
 go_enter Tryz.func61, Tryz.ntmps61
 go_wp2
 go_loopw [3, 8] (fun vo vi wr => ∃ j : Nat, j ≤ n ∧ vi = .int .i64 (j : Int) ∧ OwnD wr (fun k => T k ∨ vo.ownBlock = some k) w.heap.size vo (l.take j) ∧ Below w.heap.size w wr) (fun _ vi _ => ((n : Int) - intOf vi).toNat)
 case atStart => exact ⟨0, by omega, rfl, OwnD.nil _ _ _, Below.refl _ _⟩
 case round =>
  obtain ⟨j, hj, rfl, hO, hb⟩ := hrel
  obtain ⟨wo, rfl⟩ : ∃ wo : World, wo = wr := ⟨_, rfl⟩
  have hso := hb.size
  obtain ⟨vA, vc, hv⟩ := hO.sl
  rw [show (l.take j).length = j by rw [List.length_take]; omega] at hv
  subst hv
  by_cases hlt : j < n
  ·have hlj : (j : Int) < n := by omega
   have hE : Ents wo (fun k => T k ∨ w.heap.size ≤ k) A n l := (h.sub (T' := fun k => T k ∨ w.heap.size ≤ k) (fun k hk ht => ht.elim id (fun h => by omega))).kp (Kp.of_below hb)
   obtain ⟨b, o, A2, c2, x, rfl, hbl, hg, hxo, m1, m2, hB⟩ := hE.at_ hlt
   have htk : l.take (j + 1) = l.take j ++ [x] := by rw [List.take_add_one, hg]; rfl
   have hge := ownD_ge hO
   have hbA : Below wo.heap.size wo (wo.alloc (.cells #[.int .i64 x.e, .slice A2 x.t.length c2] 65)) := Below.alloc (Below.refl _ _) (Nat.le_refl _) _
   have hO2 := hO.below hbA
   have hBT := (hB.kp (Kp.of_below hbA)).sub (T' := fun k => T k ∨ (Value.slice vA j vc).ownBlock = some k) (fun k _ hk => hk.imp id (fun e => (hge k e).1))
   have HO := hide htk
   clear htk hg hE
   go_wp2_with (at_builtin; refine app_entD rfl (.tmp 12) (.tmp 18) rfl (fun k => T k ∨ (Value.slice vA j vc).ownBlock = some k) w.heap.size (.slice vA j vc) (l.take j) ⟨x, .slice A2 x.t.length c2⟩ _ rfl rfl hO2 ⟨hBT, hxo⟩ (fun k hk => .inr hk) (wo.heap.size + 1) (by simp) rfl (by rw [List.length_take]; omega) (by simp; omega) (fun v' w4 ho4 hc4 hs4 => ?_))
   go_roundw
   case rel =>
    refine ⟨j + 1, by omega, by go_num, ?_, ?_⟩
    ·rw [HO.out]
     exact ho4.sub fun k _ hk => hk.elim (fun h => .inl (.inl h)) .inr
    ·exact (hb.alloc hso _).trans (hc4.low (fun k hk => (hge k hk).1) (by simp; omega))
   case measure => simp [intOf]; omega
  ·obtain rfl : j = n := by omega
   rw [List.take_of_length_le (by omega)] at hO
   go_wp2
   go_ret
   exact ⟨vA, vc, rfl, hO.ents hln hTl (fun k hk => .inl hk), hb⟩
set_option maxRecDepth 100000 in
set_option maxHeartbeats 4000000 in
theorem from_any {T : Nat → Prop} (m : Mg) (vm vl : Value) (w : World) (h : MgW w T vm vl m) (hTl : ∀ k, T k → k < w.heap.size) (hn : m.log.length ≤ 1000000) :
  Calls Tryz.prog 44 #[.agg #[.int .i64 m.k, .int .i64 m.e, .int .i64 m.v.e, .int .i64 m.v.p, vm, .int .i64 m.i, .int .i64 m.s, vl]] w fun e w' => ∃ vm' vl', e = .returned (.agg #[.int .i64 m.k, .int .i64 m.e, .int .i64 m.v.e, .int .i64 m.v.p, vm', .int .i64 m.i, .int .i64 m.s, vl']) ∧ MgW w' T vm' vl' m ∧ Below w.heap.size w w' := by
 obtain ⟨A, c, B, d, rfl, rfl, hr, hrT, hE⟩ := h.sl
 have hb0 : Below w.heap.size w ((w.alloc (.cells #[.int .i64 m.k, .int .i64 m.e, .int .i64 m.v.e, .int .i64 m.v.p, (.slice A m.v.l.length c), .int .i64 m.i, .int .i64 m.s, (.slice B m.log.length d)] 60)).alloc (.cells #[.int .i64 0, .int .i64 0, .int .i64 0, .int .i64 0, .slice none 0 0, .int .i64 0, .int .i64 0, .slice none 0 0] 38)) := (Below.alloc (Below.refl _ _) (Nat.le_refl _) _).alloc (by simp) _
 have hZ := Blk.made w (.cells #[.int .i64 m.k, .int .i64 m.e, .int .i64 m.v.e, .int .i64 m.v.p, (.slice A m.v.l.length c), .int .i64 m.i, .int .i64 m.s, (.slice B m.log.length d)] 60) 38 #[.int .i64 0, .int .i64 0, .int .i64 0, .int .i64 0, .slice none 0 0, .int .i64 0, .int .i64 0, .slice none 0 0]
 go_enter Tryz.func44, Tryz.ntmps44
 go_wp2
 refine First.wp_region_first_ext [1, 3, 5, 8, 10, 12] [0, 2, 4, 7, 9, 11, 14] [(true, false, 0), (true, true, 1), (true, false, 2), (true, true, 3), (true, false, 4), (true, true, 5), (true, false, 7), (true, true, 8), (true, false, 9), (true, true, 10), (true, false, 11), (true, true, 12), (false, true, 6), (false, true, 13), (true, false, 14), (false, false, 15)] (by kernel_rfl) (by kernel_rfl) (fun X => ?_); simp only [List.map_cons, List.map_nil, List.getD_cons_zero, List.getD_cons_succ]
 have hZX := hZ.ext X
 have hbX := hb0.trans ((World.below_ext _ X).mono (by simp <;> omega))
 have hEX := (hE.sub (T' := fun k => T k ∨ k = w.heap.size + 1) (fun k hk ht => ht.elim id (fun e => by omega))).kp (Kp.of_below hbX)
 have hsX := hbX.size
 have hfr := fun W => vfrom_any m.v.e m.v.p A m.v.l.length c W
 (repeat (first | (refine wfp fun K hK => ?_; go_simp; refine hK _ _ ?_; clear hK K) | (refine wff fun K hK => ?_; go_simp; refine hK _ _ ?_; clear hK K)))
 refine First.wpF_must (fun K hK => ?_)
 go_wp2_with (go_at_call 59; (with_reducible refine (hfr _).mono ?_); rintro e w2 ⟨rfl, hb2⟩)
 have hgr2 : First.Grown _ w2 := World.ext_of_below hb2
 (refine hK _ _ (fun hnd => by first | exact Bool.noConfusion hnd | assumption | with_reducible (first | exact grown_alloc _ _ | exact First.Grown.refl _ | exact First.Grown.cat _ _ _ | exact First.Grown.ext _ _)) ?_; clear hK K)
 have hE2 := hEX.kp (Kp.of_below hb2)
 have hs2 := hb2.size
 simp only [World.size_ext, World.size_alloc] at hs2
 have hT2 : ∀ k, (T k ∨ k = w.heap.size + 1) → k < w2.heap.size := fun k hk => hk.elim (fun hk => by have := hTl k hk; omega) (fun e => by omega)
 have hbk := fun W h ht => back_any (T := fun k => T k ∨ k = w.heap.size + 1) B m.log.length d m.log W h ht hn
 (repeat (first | (refine wfp fun K hK => ?_; go_simp; refine hK _ _ ?_; clear hK K) | (refine wff fun K hK => ?_; go_simp; refine hK _ _ ?_; clear hK K)))
 refine First.wpF_must (fun K hK => ?_)
 go_wp2_with (go_at_call 61; (with_reducible refine (hbk _ hE2 hT2).mono ?_); rintro e w3 ⟨A3, c3, rfl, hE3, hb3⟩)
 have hgr3 : First.Grown _ w3 := World.ext_of_below hb3
 (refine hK _ _ (fun hnd => by first | exact Bool.noConfusion hnd | assumption | with_reducible (first | exact grown_alloc _ _ | exact First.Grown.refl _ | exact First.Grown.cat _ _ _ | exact First.Grown.ext _ _)) ?_; clear hK K)
 have hs3 := hb3.size
 have hZ3 := (hZX.below hb2 (by simp only [World.size_ext, World.size_alloc]; omega)).below hb3 (by omega)
 have cZ := hZ3.cell
 have fZ := hZ3.frozen
 have lZ := hZ3.lt
 (repeat (first | (refine wfp fun K hK => ?_; go_simp; refine hK _ _ ?_; clear hK K) | (refine wff fun K hK => ?_; go_simp; refine hK _ _ ?_; clear hK K)))
 refine First.wpF_must (fun K hK => ?_)
 go_wp2
 (refine hK _ _ (fun hnd => by first | exact Bool.noConfusion hnd | assumption | with_reducible (first | exact grown_alloc _ _ | exact First.Grown.refl _ | exact First.Grown.cat _ _ _ | exact First.Grown.ext _ _)) ?_; clear hK K)
 refine First.wpF_nil ?_
 go_wp2
 have hb03 : Below w.heap.size w w3 := (hbX.trans (hb2.mono hsX)).trans (hb3.mono (by omega))
 refine bodyPost_cell Tryz.results44 rfl (Blk.eight hZ3) Tryz.underlying38 rfl (by kernel_rfl) rfl ⟨_, _, rfl, ?_, ?_⟩
 ·have hAT : 0 < m.v.l.length → ∀ a, A = some a → ¬(T a.block ∨ a.block = w.heap.size + 1) := fun h0 a ha ht => ht.elim (hrT h0 a ha) (fun e => by
   obtain ⟨a', e', hl', _⟩ := hr.2 (by omega)
   rw [ha] at e'; cases e'
   omega)
  have h0 : MgW w3 (fun k => T k ∨ k = w.heap.size + 1) (.slice A m.v.l.length c) (.slice A3 m.log.length c3) m := ⟨⟨A, c, rfl, Reads.kp hr (S := fun k => T k ∨ k = w.heap.size + 1) (Kp.of_below hb03) hAT, hAT⟩, A3, c3, rfl, hE3⟩
  exact (h0.kp (Kp.eight (S := fun k => T k ∨ k = w.heap.size + 1) (Kp.refl _ w3) (.inr rfl) _ _ _ _ _ _ _ _)).sub fun k _ hk => .inl hk
 ·exact hb03.trans (Kp.below (S := fun k => k = w.heap.size + 1) (Kp.eight (S := fun k => k = w.heap.size + 1) (Kp.refl _ _) rfl _ _ _ _ _ _ _ _) (by omega) (fun k hk => by omega))
end Go.Proofs.YtjhcgnmibnjocaaGreat

namespace Go.Proofs.YtjhcgnmibnjocaaGreat
open Go.RowKit Go.Maps
theorem take_succ_eq {α : Type} {l l' : List α} {j : Nat} {x y : α} (h : l.take j = l'.take j) (h1 : l[j]? = some x) (h2 : l'[j]? = some y) (e : x = y) : l.take (j + 1) = l'.take (j + 1) := by
 rw [List.take_add_one, List.take_add_one, h1, h2, h, e]
set_option maxRecDepth 100000 in
set_option maxHeartbeats 4000000 in
theorem dsamelog_any {T T' : Nat → Prop} (A A' : Option Addr) (n n' c c' : Nat) (l l' : List Ent) (w : World) (h : Ents w T A n l) (h' : Ents w T' A' n' l') (hn : n ≤ 1000000) :
  Calls Tryz.prog 60 #[.slice A n c, .slice A' n' c'] w fun e w' => e = .returned (.bool (decide (l = l'))) ∧ Below w.heap.size w w' := by
 have hln := h.len
 have hln' := h'.len
 by_cases hnn : n = n'
 ·subst hnn
  have d0 : ((n : Int) != (n : Int)) = false := by simp
  go_enter Tryz.func60, Tryz.ntmps60
  go_wp2
  go_loopw [5] (fun vi wr => ∃ j : Nat, j ≤ n ∧ vi = .int .i64 (j : Int) ∧ l.take j = l'.take j ∧ Below w.heap.size w wr) (fun vi _ => ((n : Int) - intOf vi).toNat)
  case atStart => exact ⟨0, by omega, rfl, rfl, Below.refl _ _⟩
  case round =>
   obtain ⟨j, hj, rfl, heq, hb⟩ := hrel
   obtain ⟨wo, rfl⟩ : ∃ wo : World, wo = wr := ⟨_, rfl⟩
   have hso := hb.size
   have hEq := hide heq
   clear heq
   by_cases hlt : j < n
   ·have hlj : (j : Int) < n := by omega
    have hE := h.kp (Kp.of_below hb)
    have hE' := h'.kp (Kp.of_below hb)
    obtain ⟨b, o, A2, c2, x, rfl, hbl, hg, hxo, m1, m2, hB⟩ := hE.at_ hlt
    obtain ⟨b', o', A2', c2', x', rfl, hbl', hg', hxo', m1', m2', hB'⟩ := hE'.at_ hlt
    have hcv := fun X : Ext => (hB.kp (Kp.of_below (World.below_ext wo X))).conv
    have hcv' := fun X : Ext => (hB'.kp (Kp.of_below (World.below_ext wo X))).conv
    have hG := hide (And.intro hg hg')
    clear hg hg' hE hE' hB hB'
    by_cases hxx : x = x'
    ·have e1 : (x.e != x'.e) = false := by rw [hxx]; simp
     have e2 : ((strOf x.t).toList == (strOf x'.t).toList) = true := by rw [hxx]; simp
     have hx := hide hxx
     clear hxx
     go_wp2
     refine wp_region_ext_lit (by kernel_rfl) (by kernel_rfl) ?_
     (repeat (first | ((with_reducible refine wpQuiet_step (fun K hK => ?_)); go_simp; first | ((with_reducible refine hK _ ?_); clear hK K) | (apply Exists.intro; (with_reducible refine ⟨fun _ => ?_, hK _ ?_⟩); skip; clear hK K)) | ((with_reducible refine quiet_skipN ?_ (fun K hK => ?_)); (rfl); go_simp; (with_reducible refine hK _ ?_); clear hK K)))
     (with_reducible refine wpQuiet_nil ?_); intro _ hw'; obtain ⟨X, hw''⟩ := hw'; subst hw''
     go_wp2
     go_roundw
     case rel => exact ⟨j + 1, by omega, by go_num, take_succ_eq hEq.out hG.out.1 hG.out.2 hx.out, Below.ext hb hso X⟩
     case measure => simp [intOf]; omega
    ·have hf : decide (l = l') = false := decide_eq_false fun e => by
      have h1 := hG.out.1
      rw [e, hG.out.2] at h1
      exact hxx (Option.some.inj h1).symm
     by_cases he : x.e = x'.e
     ·have ht : x.t ≠ x'.t := fun e => hxx (by obtain ⟨xe, xt⟩ := x; obtain ⟨ye, yt⟩ := x'; simp only at he e; rw [he, e])
      have e1 : (x.e != x'.e) = false := by simpa using he
      have e2 : ((strOf x.t).toList == (strOf x'.t).toList) = false := by
       rw [beq_eq_false_iff_ne]
       exact fun e => ht (strOf_inj hxo.by_ hxo'.by_ e)
      clear he ht hxx
      go_wp2
      refine wp_region_ext_lit (by kernel_rfl) (by kernel_rfl) ?_
      (repeat (first | ((with_reducible refine wpQuiet_step (fun K hK => ?_)); go_simp; first | ((with_reducible refine hK _ ?_); clear hK K) | (apply Exists.intro; (with_reducible refine ⟨fun _ => ?_, hK _ ?_⟩); skip; clear hK K)) | ((with_reducible refine quiet_skipN ?_ (fun K hK => ?_)); (rfl); go_simp; (with_reducible refine hK _ ?_); clear hK K)))
      (with_reducible refine wpQuiet_nil ?_); intro _ hw'; obtain ⟨X, hw''⟩ := hw'; subst hw''
      go_wp2
      go_ret
      exact ⟨by rw [hf] <;> rfl, Below.ext hb hso X⟩
     ·have e1 : (x.e != x'.e) = true := by simpa using he
      clear he hxx
      go_wp2
      refine wp_region_ext_lit (by kernel_rfl) (by kernel_rfl) ?_
      (repeat (first | ((with_reducible refine wpQuiet_step (fun K hK => ?_)); go_simp; first | ((with_reducible refine hK _ ?_); clear hK K) | (apply Exists.intro; (with_reducible refine ⟨fun _ => ?_, hK _ ?_⟩); skip; clear hK K)) | ((with_reducible refine quiet_skipN ?_ (fun K hK => ?_)); (rfl); go_simp; (with_reducible refine hK _ ?_); clear hK K)))
      (with_reducible refine wpQuiet_nil ?_); intro _ hw'; obtain ⟨X, hw''⟩ := hw'; subst hw''
      go_wp2
      go_ret
      exact ⟨by rw [hf] <;> rfl, Below.ext hb hso X⟩
   ·obtain rfl : j = n := by omega
    go_wp2
    go_ret
    have := hEq.out
    rw [List.take_of_length_le (by omega), List.take_of_length_le (by omega)] at this
    exact ⟨by rw [decide_eq_true this] <;> rfl, hb⟩
 ·have d0 : ((n : Int) != (n' : Int)) = true := by simp; omega
  have hf : decide (l = l') = false := decide_eq_false fun e => hnn (by rw [← hln, ← hln', e])
  rw [hf]
  go_enter Tryz.func60, Tryz.ntmps60
  go_wp2
  go_ret
  exact ⟨rfl, Below.refl _ _⟩
set_option maxRecDepth 100000 in
set_option maxHeartbeats 4000000 in
theorem dsamemsg_any {T T' : Nat → Prop} (m : Mg) (vm vl vm' vl' : Value) (w : World) (h : MgW w T vm vl m) (h' : MgW w T' vm' vl' m) (hn : m.log.length ≤ 1000000) (hv : m.v.l.length ≤ 1000000) :
  Calls Tryz.prog 43 #[.agg #[.int .i64 m.k, .int .i64 m.e, .int .i64 m.v.e, .int .i64 m.v.p, vm, .int .i64 m.i, .int .i64 m.s, vl], .agg #[.int .i64 m.k, .int .i64 m.e, .int .i64 m.v.e, .int .i64 m.v.p, vm', .int .i64 m.i, .int .i64 m.s, vl']] w fun e w' => e = .returned (.bool true) ∧ Below w.heap.size w w' := by
 obtain ⟨A, c, B, d, rfl, rfl, hr, _, hE⟩ := h.sl
 obtain ⟨A', c', B', d', rfl, rfl, hr', _, hE'⟩ := h'.sl
 have hb0 : Below w.heap.size w ((w.alloc (.cells #[.int .i64 m.k, .int .i64 m.e, .int .i64 m.v.e, .int .i64 m.v.p, (.slice A m.v.l.length c), .int .i64 m.i, .int .i64 m.s, (.slice B m.log.length d)] 38)).alloc (.cells #[.int .i64 m.k, .int .i64 m.e, .int .i64 m.v.e, .int .i64 m.v.p, (.slice A' m.v.l.length c'), .int .i64 m.i, .int .i64 m.s, (.slice B' m.log.length d')] 38)) := (Below.alloc (Below.refl _ _) (Nat.le_refl _) _).alloc (by simp) _
 have hz1 := (Blk.new w 38 #[.int .i64 m.k, .int .i64 m.e, .int .i64 m.v.e, .int .i64 m.v.p, (.slice A m.v.l.length c), .int .i64 m.i, .int .i64 m.s, (.slice B m.log.length d)]).alloc (.cells #[.int .i64 m.k, .int .i64 m.e, .int .i64 m.v.e, .int .i64 m.v.p, (.slice A' m.v.l.length c'), .int .i64 m.i, .int .i64 m.s, (.slice B' m.log.length d')] 38)
 have hz2 := Blk.made w (.cells #[.int .i64 m.k, .int .i64 m.e, .int .i64 m.v.e, .int .i64 m.v.p, (.slice A m.v.l.length c), .int .i64 m.i, .int .i64 m.s, (.slice B m.log.length d)] 38) 38 #[.int .i64 m.k, .int .i64 m.e, .int .i64 m.v.e, .int .i64 m.v.p, (.slice A' m.v.l.length c'), .int .i64 m.i, .int .i64 m.s, (.slice B' m.log.length d')]
 have hS1 := same_any m.v.e m.v.p A A' m.v.l.length c c' m.v.l _ (Reads.kp hr (Kp.of_below (S := fun _ => False) hb0) (fun _ _ _ h => h)) (Reads.kp hr' (Kp.of_below (S := fun _ => False) hb0) (fun _ _ _ h => h)) (by omega)
 have hS2 := fun w2 (hb : Below w.heap.size w w2) => dsamelog_any B B' m.log.length m.log.length d d' m.log m.log w2 (hE.kp (Kp.of_below hb)) (hE'.kp (Kp.of_below hb)) hn
 simp only [decide_true] at hS2
 have q1 : (m.k == m.k) = true := by simp
 go_enter Tryz.func43, Tryz.ntmps43
 go_wp2_with (first | (go_at_call 58; (with_reducible refine hS1.mono ?_); rintro e w2 ⟨rfl, hb2⟩; have hb02 := hb0.trans (hb2.mono hb0.size); have hz1' := hz1.below hb2 hz1.lt; have hz2' := hz2.below hb2 hz2.lt; have c1 := hz1'.cell; have c2 := hz2'.cell; have l1 := hz1'.lt; have l2 := hz2'.lt) | (go_at_call 60; (with_reducible refine (hS2 _ hb02).mono ?_); rintro e w3 ⟨rfl, hb3⟩))
 go_ret
 exact ⟨rfl, hb02.trans (hb3.mono hb02.size)⟩
end Go.Proofs.YtjhcgnmibnjocaaGreat
