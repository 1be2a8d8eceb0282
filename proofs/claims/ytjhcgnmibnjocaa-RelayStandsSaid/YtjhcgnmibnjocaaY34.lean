import Derived.Test.YtjhcgnmibnjocaaY32
import Derived.Lib.ConvBytes
/-! The document's reader: a count, a text; a text as bytes. -/
namespace Go.Proofs.Ytjhcgnmibnjocaa
open Go.RowKit Go.Maps
set_option linter.unusedVariables false
set_option linter.unusedSimpArgs false
set_option maxRecDepth 100000 in
set_option maxHeartbeats 4000000 in
theorem dcountM_any (q : Nat) (A : Option Addr) (c : Nat) (l : List Nat) (a : Nat) (e most : Int) (w : World) (h : Mrd w q A c l a e) (hby : ∀ x ∈ l, x < 256) (hlen : l.length ≤ 140737488355328) (hm : 0 ≤ most ∧ most ≤ 4611686018427387904) :
    Calls Try.prog 102 #[.pointer (some ⟨q, 0, none⟩), .int .i64 most] w fun e' w' => e' = .returned (.int .i64 ((countP most (restP l a e)).1 : Nat)) ∧ (∃ a' e'', Mrd w' q A c l a' e'' ∧ restP l a' e'' = (countP most (restP l a e)).2) ∧ Only w w' q := by
  have hD := dnum_any q A c l a e w h hby hlen
  have hlt := numP_lt (restP_by (a := a) (e := e) hby)
  have hz := numP_zero (restP l a e)
  have hw : IntKind.u64.wrap most = most := by show most % 18446744073709551616 = _; omega
  have hneg : decide (most < 0) = false := by simp; omega
  unfold countP
  generalize hR : numP (restP l a e) = R at *
  obtain ⟨n, r⟩ := R
  simp only at *
  by_cases he : r.e = 0
  · have he' : (r.e != 0) = false := by simpa using he
    by_cases h8 : most < n
    · rw [if_pos (.inl (by omega))]
      have h8' : decide (most < (n : Int)) = true := by simpa using h8
      go_enter Try.func102, Try.ntmps102
      go_wp2_with (go_at_call 101; (with_reducible refine hD.mono ?_); rintro e w1 ⟨rfl, ⟨a1, e1, hm1, hr1⟩, ho1⟩; have he1 := restP_e l a1 e1; rw [hr1] at he1; subst he1; have c1 := hm1.blk.cell; have f1 := hm1.blk.frozen; have l1 := hm1.blk.lt)
      go_ret
      exact ⟨rfl, ⟨a1, 8, hm1.to (Only.setCell w1 q 2 _) (hm1.blk.set_ 2 _) hm1.le, by rw [restP_err (by decide)]; unfold failP; rw [if_pos he]⟩, ho1.set_ (p := ⟨q, 2, none⟩) (.inl rfl) _⟩
    · rw [if_neg (by omega)]
      have h8' : decide (most < (n : Int)) = false := by simpa using h8
      have hw2 : wrap64 (n : Int) = n := by unfold wrap64; omega
      go_enter Try.func102, Try.ntmps102
      go_wp2_with (go_at_call 101; (with_reducible refine hD.mono ?_); rintro e w1 ⟨rfl, ⟨a1, e1, hm1, hr1⟩, ho1⟩; have he1 := restP_e l a1 e1; rw [hr1] at he1; subst he1; have c1 := hm1.blk.cell; have f1 := hm1.blk.frozen; have l1 := hm1.blk.lt)
      go_ret
      exact ⟨rfl, ⟨a1, _, hm1, hr1⟩, ho1⟩
  · have he' : (r.e != 0) = true := by simpa using he
    obtain rfl := hz he
    rw [if_neg (by omega)]
    go_enter Try.func102, Try.ntmps102
    go_wp2_with (go_at_call 101; (with_reducible refine hD.mono ?_); rintro e w1 ⟨rfl, ⟨a1, e1, hm1, hr1⟩, ho1⟩; have he1 := restP_e l a1 e1; rw [hr1] at he1; subst he1; have c1 := hm1.blk.cell; have f1 := hm1.blk.frozen; have l1 := hm1.blk.lt)
    go_ret
    exact ⟨rfl, ⟨a1, _, hm1, hr1⟩, ho1⟩
theorem reads_part {w : World} {B b o N a n : Nat} {l : List Nat} (h : Reads w B 1 (some ⟨b, o, none⟩) N (u8s l)) (han : a + n ≤ N) : Reads w B 1 (some ⟨b, o + a, none⟩) n (u8s ((l.drop a).take n)) := by
  have hl : l.length = N := by have := h.1; rw [u8s_length] at this; omega
  refine ⟨by rw [u8s_length, List.length_take, List.length_drop]; omega, fun h0 => ?_⟩
  obtain ⟨ad, e, hb, hc⟩ := h.2 (by omega)
  cases e
  refine ⟨_, rfl, hb, fun j u hu => ?_⟩
  have hj : j < n := by
    have := (List.getElem?_eq_some_iff.1 hu).1
    rw [u8s_length, List.length_take] at this
    omega
  have : (u8s l)[a + j]? = some u := by
    rw [u8s_get, List.getElem?_take_of_lt hj, List.getElem?_drop] at hu
    rw [u8s_get]
    exact hu
  have := hc (a + j) u this
  rw [add_plain] at this ⊢
  rwa [Nat.add_assoc]
set_option maxRecDepth 100000 in
set_option maxHeartbeats 4000000 in
theorem dtext_any (q : Nat) (A : Option Addr) (c : Nat) (l : List Nat) (a : Nat) (e most : Int) (w : World) (h : Mrd w q A c l a e) (hby : ∀ x ∈ l, x < 256) (hlen : l.length ≤ 140737488355328) (hm : 0 ≤ most ∧ most ≤ 4611686018427387904) (hc : l.length ≤ c ∧ c ≤ maxLen ∧ (A = none → c = 0)) :
    Calls Try.prog 103 #[.pointer (some ⟨q, 0, none⟩), .int .i64 most] w fun e' w' => e' = .returned (.string (strOf (textP most (restP l a e)).1)) ∧ (∃ a' e'', Mrd w' q A c l a' e'' ∧ restP l a' e'' = (textP most (restP l a e)).2) ∧ Only w w' q := by
  have hD := dcountM_any q A c l a e most w h hby hlen hm
  have hle := countP_le (most := most) (r := restP l a e) (by unfold I64; omega)
  unfold textP
  generalize hR : countP most (restP l a e) = R at *
  obtain ⟨n, r⟩ := R
  simp only at *
  go_enter Try.func103, Try.ntmps103
  go_upto_region 2 with (go_at_call 102; (with_reducible refine hD.mono ?_); rintro e' w1 ⟨rfl, ⟨a1, e1, hm1, hr1⟩, ho1⟩; have he1 := restP_e l a1 e1; rw [hr1] at he1)
  have c1 := hm1.blk.cell
  have f1 := hm1.blk.frozen
  have l1 := hm1.blk.lt
  have hle1 := hm1.le
  by_cases he : e1 = 0
  · subst he
    have hsb : IntKind.i64.wrap ((l.length : Int) - a1) = (l.length : Int) - a1 := IntWalk.i64_in _ (by omega)
    rw [restP_ok] at hr1
    subst hr1
    have hld : (l.drop a1).length = l.length - a1 := List.length_drop
    by_cases hn : l.length - a1 < n
    · have hn' : decide ((l.length : Int) - a1 < n) = true := by simp; omega
      have hT := takeP_short (xs := l.drop a1) (n := n) (by omega)
      go_wp2
      refine wp_region_ext_lit (by kernel_rfl) (by kernel_rfl) ?_
      (repeat (first | ((with_reducible refine wpQuiet_step (fun K hK => ?_)); go_simp; first | ((with_reducible refine hK _ ?_); clear hK K) | (apply Exists.intro; (with_reducible refine ⟨fun _ => ?_, hK _ ?_⟩); skip; clear hK K)) | ((with_reducible refine quiet_skipN ?_ (fun K hK => ?_)); (rfl); go_simp; (with_reducible refine hK _ ?_); clear hK K)))
      (with_reducible refine wpQuiet_nil ?_); intro _ hw'; obtain ⟨Y, hw''⟩ := hw'; subst hw''
      go_wp2
      go_ret
      have hx := hm1.fail Y 9
      rw [hT]
      exact ⟨rfl, ⟨a1, 9, hx.1, restP_err (by decide)⟩, ho1.trans hx.2⟩
    · have hn' : decide ((l.length : Int) - a1 < n) = false := by simp; omega
      have hT := takeP_ok (xs := l.drop a1) (n := n) (by omega)
      have hsa : IntKind.i64.wrap ((a1 : Int) + n) = (a1 : Int) + n := IntWalk.i64_in _ (by omega)
      have hc1 := hc.1
      have hc2 := hc.2.1
      unfold maxLen at hc2
      have zi : (0 : Int) ≤ a1 := by omega
      have zj : (a1 : Int) ≤ a1 + n := by omega
      have zk : (a1 : Int) + n ≤ c := by omega
      by_cases hp : 0 < l.length
      · obtain ⟨b, o, rfl, hbb, hcc⟩ := hm1.row.plain (by omega) (by omega)
        have hrd := hm1.row
        have hcv : ∀ X : Ext, (convert 32 9 (.slice (if c = a1 then some ⟨b, o, none⟩ else some ⟨b, o + a1, none⟩) (((a1 : Int) + n).toNat - a1) (c - a1))).run Try.prog (w1.ext X) = .ok (.string (strOf ((l.drop a1).take n))) (w1.ext X) := fun X => by
          have hrX := Reads.ext hrd (Nat.le_refl _) X
          rw [show ((a1 : Int) + n).toNat - a1 = n by omega]
          by_cases hca : c = a1
          · rw [if_pos hca]
            obtain rfl : n = 0 := by omega
            exact conv_bytes (B := 0) (l := (l.drop a1).take 0) ⟨by simp [u8s], fun h => absurd h (by omega)⟩ Try.underlying32 Try.underlying5 Try.underlying9 (c - a1)
          · rw [if_neg hca]
            exact conv_bytes (reads_part hrX (a := a1) (n := n) (by omega)) Try.underlying32 Try.underlying5 Try.underlying9 (c - a1)
        go_wp2
        refine wp_region_ext_lit (by kernel_rfl) (by kernel_rfl) ?_
        (repeat (first | ((with_reducible refine wpQuiet_step (fun K hK => ?_)); go_simp; first | ((with_reducible refine hK _ ?_); clear hK K) | (apply Exists.intro; (with_reducible refine ⟨fun _ => ?_, hK _ ?_⟩); skip; clear hK K)) | ((with_reducible refine quiet_skipN ?_ (fun K hK => ?_)); (rfl); go_simp; (with_reducible refine hK _ ?_); clear hK K)))
        (with_reducible refine wpQuiet_nil ?_); intro _ hw'; obtain ⟨Y, hw''⟩ := hw'; subst hw''
        go_wp2
        refine wp_region_ext_lit (by kernel_rfl) (by kernel_rfl) ?_
        (repeat (first | ((with_reducible refine wpQuiet_step (fun K hK => ?_)); go_simp; first | ((with_reducible refine hK _ ?_); clear hK K) | (apply Exists.intro; (with_reducible refine ⟨fun _ => ?_, hK _ ?_⟩); skip; clear hK K)) | ((with_reducible refine quiet_skipN ?_ (fun K hK => ?_)); (rfl); go_simp; (with_reducible refine hK _ ?_); clear hK K)))
        (with_reducible refine wpQuiet_nil ?_); intro _ hw'; obtain ⟨Z, hw''⟩ := hw'; subst hw''
        go_wp2
        all_goals
          go_ret
          have hx := hm1.go (Y.cat Z) (a1 + n) (by omega) ((a1 : Int) + n) (by simp)
          (try rw [hT])
          (try rw [‹c = a1›] at hx)
          exact ⟨rfl, ⟨a1 + n, 0, hx.1, by rw [restP_ok]; (try rw [List.drop_drop])⟩, ho1.trans hx.2⟩
      · obtain rfl : l = [] := List.eq_nil_of_length_eq_zero (by omega)
        obtain rfl : n = 0 := by simp at hn; omega
        obtain rfl : a1 = 0 := by simp at hle1; omega
        have hz0 : IntKind.i64.wrap 0 = 0 := by decide
        have hT0 : takeP 0 ⟨List.drop 0 [], 0⟩ = ([], ⟨[], 0⟩) := hT
        cases A with
        | none =>
          obtain rfl := hc.2.2 rfl
          have hcv : ∀ X : Ext, (convert 32 9 (.slice none 0 0)).run Try.prog (w1.ext X) = .ok (.string (strOf [])) (w1.ext X) := fun X => conv_bytes (B := 0) (l := []) ⟨rfl, fun h => absurd h (by omega)⟩ Try.underlying32 Try.underlying5 Try.underlying9 0
          go_wp2
          refine wp_region_ext_lit (by kernel_rfl) (by kernel_rfl) ?_
          (repeat (first | ((with_reducible refine wpQuiet_step (fun K hK => ?_)); go_simp; first | ((with_reducible refine hK _ ?_); clear hK K) | (apply Exists.intro; (with_reducible refine ⟨fun _ => ?_, hK _ ?_⟩); skip; clear hK K)) | ((with_reducible refine quiet_skipN ?_ (fun K hK => ?_)); (rfl); go_simp; (with_reducible refine hK _ ?_); clear hK K)))
          (with_reducible refine wpQuiet_nil ?_); intro _ hw'; obtain ⟨Y, hw''⟩ := hw'; subst hw''
          go_wp2
          refine wp_region_ext_lit (by kernel_rfl) (by kernel_rfl) ?_
          (repeat (first | ((with_reducible refine wpQuiet_step (fun K hK => ?_)); go_simp; first | ((with_reducible refine hK _ ?_); clear hK K) | (apply Exists.intro; (with_reducible refine ⟨fun _ => ?_, hK _ ?_⟩); skip; clear hK K)) | ((with_reducible refine quiet_skipN ?_ (fun K hK => ?_)); (rfl); go_simp; (with_reducible refine hK _ ?_); clear hK K)))
          (with_reducible refine wpQuiet_nil ?_); intro _ hw'; obtain ⟨Z, hw''⟩ := hw'; subst hw''
          go_wp2
          go_ret
          have hx := hm1.go (Y.cat Z) 0 (by omega) 0 rfl
          rw [hT0]
          exact ⟨rfl, ⟨0, 0, hx.1, rfl⟩, ho1.trans hx.2⟩
        | some ad =>
          have hcv : ∀ (X : Ext) (A' : Option Addr) (c' : Nat), (convert 32 9 (.slice A' 0 c')).run Try.prog (w1.ext X) = .ok (.string (strOf [])) (w1.ext X) := fun X A' c' => conv_bytes (B := 0) (l := []) ⟨rfl, fun h => absurd h (by omega)⟩ Try.underlying32 Try.underlying5 Try.underlying9 c'
          go_wp2
          refine wp_region_ext_lit (by kernel_rfl) (by kernel_rfl) ?_
          (repeat (first | ((with_reducible refine wpQuiet_step (fun K hK => ?_)); go_simp; first | ((with_reducible refine hK _ ?_); clear hK K) | (apply Exists.intro; (with_reducible refine ⟨fun _ => ?_, hK _ ?_⟩); skip; clear hK K)) | ((with_reducible refine quiet_skipN ?_ (fun K hK => ?_)); (rfl); go_simp; (with_reducible refine hK _ ?_); clear hK K)))
          (with_reducible refine wpQuiet_nil ?_); intro _ hw'; obtain ⟨Y, hw''⟩ := hw'; subst hw''
          go_wp2
          refine wp_region_ext_lit (by kernel_rfl) (by kernel_rfl) ?_
          (repeat (first | ((with_reducible refine wpQuiet_step (fun K hK => ?_)); go_simp; first | ((with_reducible refine hK _ ?_); clear hK K) | (apply Exists.intro; (with_reducible refine ⟨fun _ => ?_, hK _ ?_⟩); skip; clear hK K)) | ((with_reducible refine quiet_skipN ?_ (fun K hK => ?_)); (rfl); go_simp; (with_reducible refine hK _ ?_); clear hK K)))
          (with_reducible refine wpQuiet_nil ?_); intro _ hw'; obtain ⟨Z, hw''⟩ := hw'; subst hw''
          go_wp2
          all_goals
            go_ret
            have hx := hm1.go (Y.cat Z) 0 (by omega) 0 rfl
            (try rw [hT0])
            exact ⟨rfl, ⟨0, 0, hx.1, rfl⟩, ho1.trans hx.2⟩
  · have he' : (e1 != 0) = true := by simpa using he
    have hT := takeP_err (n := n) (r := r) (by rw [he1]; exact he)
    go_wp2
    go_ret
    rw [hT]
    exact ⟨rfl, ⟨a1, e1, hm1, hr1⟩, ho1⟩
end Go.Proofs.Ytjhcgnmibnjocaa
