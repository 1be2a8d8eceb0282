import Derived.Test.YthajbeooemngpaaMr
/-! The document's reader: numbers below 0, counts, the end. -/
namespace Go.Proofs.Ythajbeooemngpaa
open Go.RowKit
set_option linter.unusedVariables false
set_option linter.unusedSimpArgs false
theorem restP_by {l : List Nat} {a : Nat} {e : Int} (hby : ∀ x ∈ l, x < 256) : ∀ x ∈ (restP l a e).xs, x < 256 := fun x hx => by
  unfold restP at hx
  split at hx
  · exact hby x (List.mem_of_mem_drop hx)
  · cases hx
theorem dint_any (q : Nat) (A : Option Addr) (c : Nat) (l : List Nat) (a : Nat) (e : Int) (w : World) (h : Mrd w q A c l a e) (hby : ∀ x ∈ l, x < 256) (hlen : l.length ≤ 140737488355328) :
    Calls Try.prog 86 #[.pointer (some ⟨q, 0, none⟩)] w fun e' w' => e' = .returned (.int .i64 (zag (numP (restP l a e)).1)) ∧ (∃ a' e'', Mrd w' q A c l a' e'' ∧ restP l a' e'' = (numP (restP l a e)).2) ∧ Only w w' q := by
  have hD := dnum_any q A c l a e w h hby hlen
  have hlt := numP_lt (restP_by (a := a) (e := e) hby)
  generalize (numP (restP l a e)).1 = n at *
  by_cases h2 : n % 2 = 0
  · have k1 : ((n : Int) % 2 == 0) = true := by simp; omega
    have k2 : IntKind.i64.wrap ((n : Int) / 2) = (n : Int) / 2 := IntWalk.i64_in _ (by omega)
    have hz : zag n = (n : Int) / 2 := by unfold zag; rw [if_pos h2]; omega
    rw [hz]
    go_enter Try.func86, Try.ntmps86
    go_wp2_with (go_at_call 85; (with_reducible refine hD.mono ?_); rintro e w1 ⟨rfl, ⟨a1, e1, hm1, hr1⟩, ho1⟩; have c1 := hm1.blk.cell; have f1 := hm1.blk.frozen; have l1 := hm1.blk.lt)
    go_ret
    exact ⟨rfl, ⟨a1, e1, hm1, hr1⟩, ho1⟩
  · have k1 : ((n : Int) % 2 == 0) = false := by simp; omega
    have k2 : IntKind.i64.wrap ((n : Int) / 2) = (n : Int) / 2 := IntWalk.i64_in _ (by omega)
    have hz : zag n = -((n : Int) / 2) - 1 := by unfold zag; rw [if_neg h2]; omega
    rw [hz]
    go_enter Try.func86, Try.ntmps86
    go_wp2_with (go_at_call 85; (with_reducible refine hD.mono ?_); rintro e w1 ⟨rfl, ⟨a1, e1, hm1, hr1⟩, ho1⟩; have c1 := hm1.blk.cell; have f1 := hm1.blk.frozen; have l1 := hm1.blk.lt)
    go_ret
    exact ⟨rfl, ⟨a1, e1, hm1, hr1⟩, ho1⟩
theorem restP_e (l : List Nat) (a : Nat) (e : Int) : (restP l a e).e = e := by
  unfold restP
  split
  · rename_i h; exact h.symm
  · rfl
theorem numP_zero (r : Rest) : (numP r).2.e ≠ 0 → (numP r).1 = 0 := by
  obtain ⟨xs, e⟩ := r
  by_cases h0 : e = 0
  · subst h0
    match xs with
    | [] => rw [numP_short]; simp
    | x :: t =>
      by_cases hl : x < 248
      · rw [numP_low t hl]; simp
      · by_cases hs : x - 247 ≤ t.length
        · rw [numP_long hl hs]
          split <;> simp
        · rw [numP_short2 hl (by omega)]; simp
  · rw [numP_err h0]; simp
theorem dcount_any (q : Nat) (A : Option Addr) (c : Nat) (l : List Nat) (a : Nat) (e : Int) (w : World) (h : Mrd w q A c l a e) (hby : ∀ x ∈ l, x < 256) (hlen : l.length ≤ 140737488355328) :
    Calls Try.prog 90 #[.pointer (some ⟨q, 0, none⟩), .int .i64 8] w fun e' w' => e' = .returned (.int .i64 ((countP 8 (restP l a e)).1 : Nat)) ∧ (∃ a' e'', Mrd w' q A c l a' e'' ∧ restP l a' e'' = (countP 8 (restP l a e)).2) ∧ Only w w' q := by
  have hD := dnum_any q A c l a e w h hby hlen
  have hlt := numP_lt (restP_by (a := a) (e := e) hby)
  have hz := numP_zero (restP l a e)
  unfold countP
  generalize hR : numP (restP l a e) = R at *
  obtain ⟨n, r⟩ := R
  simp only at *
  by_cases he : r.e = 0
  · have he' : (r.e != 0) = false := by simpa using he
    by_cases h8 : 8 < n
    · rw [if_pos (.inl (by simpa using h8))]
      have h8' : decide ((8 : Int) < n) = true := by simp; omega
      go_enter Try.func90, Try.ntmps90
      go_wp2_with (go_at_call 85; (with_reducible refine hD.mono ?_); rintro e w1 ⟨rfl, ⟨a1, e1, hm1, hr1⟩, ho1⟩; have he1 := restP_e l a1 e1; rw [hr1] at he1; subst he1; have c1 := hm1.blk.cell; have f1 := hm1.blk.frozen; have l1 := hm1.blk.lt)
      go_ret
      exact ⟨rfl, ⟨a1, 8, hm1.to (Only.setCell w1 q 2 _) (hm1.blk.set_ 2 _) hm1.le, by rw [restP_err (by decide)]; unfold failP; rw [if_pos he]⟩, ho1.set_ (p := ⟨q, 2, none⟩) (.inl rfl) _⟩
    · rw [if_neg (by rintro (h | h); exact h8 (by simpa using h); exact absurd h.1 (by decide))]
      have h8' : decide ((8 : Int) < n) = false := by simp; omega
      go_enter Try.func90, Try.ntmps90
      go_wp2_with (go_at_call 85; (with_reducible refine hD.mono ?_); rintro e w1 ⟨rfl, ⟨a1, e1, hm1, hr1⟩, ho1⟩; have he1 := restP_e l a1 e1; rw [hr1] at he1; subst he1; have c1 := hm1.blk.cell; have f1 := hm1.blk.frozen; have l1 := hm1.blk.lt)
      go_ret
      exact ⟨rfl, ⟨a1, _, hm1, hr1⟩, ho1⟩
  · have he' : (r.e != 0) = true := by simpa using he
    obtain rfl := hz he
    rw [if_neg (by rintro (h | h); exact absurd h (by decide); exact absurd h.1 (by decide))]
    go_enter Try.func90, Try.ntmps90
    go_wp2_with (go_at_call 85; (with_reducible refine hD.mono ?_); rintro e w1 ⟨rfl, ⟨a1, e1, hm1, hr1⟩, ho1⟩; have he1 := restP_e l a1 e1; rw [hr1] at he1; subst he1; have c1 := hm1.blk.cell; have f1 := hm1.blk.frozen; have l1 := hm1.blk.lt)
    go_ret
    exact ⟨rfl, ⟨a1, _, hm1, hr1⟩, ho1⟩
theorem dend_any (q : Nat) (A : Option Addr) (c : Nat) (l : List Nat) (a : Nat) (e : Int) (w : World) (h : Mrd w q A c l a e) (hlen : l.length ≤ 140737488355328) :
    Calls Try.prog 66 #[.pointer (some ⟨q, 0, none⟩)] w fun e' w' => e' = .returned (.int .i64 (endP (restP l a e)).e) ∧ Only w w' q := by
  have c1 := h.blk.cell
  have f1 := h.blk.frozen
  have l1 := h.blk.lt
  have hle := h.le
  by_cases h0 : e = 0
  · subst h0
    by_cases hat : a < l.length
    · have hE : (endP (restP l a 0)).e = 10 := by
        rw [restP_ok]
        unfold endP
        rw [if_pos ⟨rfl, by simp [List.length_drop]; omega⟩]
        rfl
      rw [hE]
      have d1 : decide ((a : Int) < l.length) = true := by simp; omega
      go_enter Try.func66, Try.ntmps66
      go_wp2
      refine wp_region_ext_lit (by kernel_rfl) (by kernel_rfl) ?_
      (repeat (first | ((with_reducible refine wpQuiet_step (fun K hK => ?_)); go_simp; first | ((with_reducible refine hK _ ?_); clear hK K) | (apply Exists.intro; (with_reducible refine ⟨fun _ => ?_, hK _ ?_⟩); skip; clear hK K)) | ((with_reducible refine quiet_skipN ?_ (fun K hK => ?_)); (rfl); go_simp; (with_reducible refine hK _ ?_); clear hK K)))
      (with_reducible refine wpQuiet_nil ?_); intro _ hw'; obtain ⟨Y, hw''⟩ := hw'; subst hw''
      go_wp2
      go_ret
      exact ⟨rfl, ((Only.refl w q).ext Y).set_ (p := ⟨q, 2, none⟩) (.inl rfl) _⟩
    · have hE : (endP (restP l a 0)).e = 0 := by
        rw [restP_ok, List.drop_eq_nil_of_le (by omega)]
        unfold endP
        rw [if_neg (by simp)]
      rw [hE]
      have d1 : decide ((a : Int) < l.length) = false := by simp; omega
      go_enter Try.func66, Try.ntmps66
      go_wp2
      refine wp_region_ext_lit (by kernel_rfl) (by kernel_rfl) ?_
      (repeat (first | ((with_reducible refine wpQuiet_step (fun K hK => ?_)); go_simp; first | ((with_reducible refine hK _ ?_); clear hK K) | (apply Exists.intro; (with_reducible refine ⟨fun _ => ?_, hK _ ?_⟩); skip; clear hK K)) | ((with_reducible refine quiet_skipN ?_ (fun K hK => ?_)); (rfl); go_simp; (with_reducible refine hK _ ?_); clear hK K)))
      (with_reducible refine wpQuiet_nil ?_); intro _ hw'; obtain ⟨Y, hw''⟩ := hw'; subst hw''
      go_wp2
      go_ret
      exact ⟨rfl, ((Only.refl w q).ext Y)⟩
  · have hE : (endP (restP l a e)).e = e := by
      rw [restP_err h0]
      unfold endP
      rw [if_neg (fun h => h0 h.1)]
    rw [hE]
    have d1 : (e == 0) = false := by simpa using h0
    go_enter Try.func66, Try.ntmps66
    go_wp2
    refine wp_region_ext_lit (by kernel_rfl) (by kernel_rfl) ?_
    (repeat (first | ((with_reducible refine wpQuiet_step (fun K hK => ?_)); go_simp; first | ((with_reducible refine hK _ ?_); clear hK K) | (apply Exists.intro; (with_reducible refine ⟨fun _ => ?_, hK _ ?_⟩); skip; clear hK K)) | ((with_reducible refine quiet_skipN ?_ (fun K hK => ?_)); (rfl); go_simp; (with_reducible refine hK _ ?_); clear hK K)))
    (with_reducible refine wpQuiet_nil ?_); intro _ hw'; obtain ⟨Y, hw''⟩ := hw'; subst hw''
    go_wp2
    go_ret
    exact ⟨rfl, ((Only.refl w q).ext Y)⟩
end Go.Proofs.Ythajbeooemngpaa
