import Derived.Test.YtjhcgnmibnjocaaY2
/-! A relay: who leads, what is sure. -/
namespace Go.Proofs.Ytjhcgnmibnjocaa
open Go.RowKit Go.Maps
set_option linter.unusedVariables false
set_option linter.unusedSimpArgs false
theorem leads_any {S T : Nat → Prop} {g : Nat} {r : Rl} {Am : Option Addr} {cm : Nat} {vl : Value} {mb : Nat} (w : World) (h : RelX w S T g r Am cm vl mb) :
    Calls Try.prog 44 #[.pointer (some ⟨g, 0, none⟩)] w fun e w' => e = .returned (.bool r.leads) ∧ Below w.heap.size w w' := by
  have c1 := h.blk.cell
  have l1 := h.blk.lt
  clear h
  unfold Rl.leads
  by_cases h1 : 0 < r.v.e
  · by_cases h2 : r.v.p = r.id
    · have d1 : decide (0 < r.v.e) = true := by simpa using h1
      have d2 : (r.v.p == r.id) = true := by simpa using h2
      go_enter Try.func44, Try.ntmps44
      go_wp2
      refine wp_region_ext_lit (by kernel_rfl) (by kernel_rfl) ?_
      (repeat (first | ((with_reducible refine wpQuiet_step (fun K hK => ?_)); go_simp; first | ((with_reducible refine hK _ ?_); clear hK K) | (apply Exists.intro; (with_reducible refine ⟨fun _ => ?_, hK _ ?_⟩); skip; clear hK K)) | ((with_reducible refine quiet_skipN ?_ (fun K hK => ?_)); (rfl); go_simp; (with_reducible refine hK _ ?_); clear hK K)))
      (with_reducible refine wpQuiet_nil ?_); intro _ hw'; obtain ⟨Y, hw''⟩ := hw'; subst hw''
      go_wp2
      go_ret
      exact ⟨by simp [h1, h2], by (repeat' (first | with_reducible exact Below.refl _ _ | with_reducible refine Below.ext ?_ ?_ _ | with_reducible refine Below.alloc ?_ ?_ _ | with_reducible refine Below.setCell ?_ ?_ _ | with_reducible refine Below.drew ?_ | with_reducible assumption | (simp [World.size_ext]; done) | (simp [World.size_ext]; omega)))⟩
    · have d1 : decide (0 < r.v.e) = true := by simpa using h1
      have d2 : (r.v.p == r.id) = false := by simpa using h2
      go_enter Try.func44, Try.ntmps44
      go_wp2
      refine wp_region_ext_lit (by kernel_rfl) (by kernel_rfl) ?_
      (repeat (first | ((with_reducible refine wpQuiet_step (fun K hK => ?_)); go_simp; first | ((with_reducible refine hK _ ?_); clear hK K) | (apply Exists.intro; (with_reducible refine ⟨fun _ => ?_, hK _ ?_⟩); skip; clear hK K)) | ((with_reducible refine quiet_skipN ?_ (fun K hK => ?_)); (rfl); go_simp; (with_reducible refine hK _ ?_); clear hK K)))
      (with_reducible refine wpQuiet_nil ?_); intro _ hw'; obtain ⟨Y, hw''⟩ := hw'; subst hw''
      go_wp2
      go_ret
      exact ⟨by simp [h1, h2], by (repeat' (first | with_reducible exact Below.refl _ _ | with_reducible refine Below.ext ?_ ?_ _ | with_reducible refine Below.alloc ?_ ?_ _ | with_reducible refine Below.setCell ?_ ?_ _ | with_reducible refine Below.drew ?_ | with_reducible assumption | (simp [World.size_ext]; done) | (simp [World.size_ext]; omega)))⟩
  · have d1 : decide (0 < r.v.e) = false := by simpa using h1
    go_enter Try.func44, Try.ntmps44
    go_wp2
    refine wp_region_ext_lit (by kernel_rfl) (by kernel_rfl) ?_
    (repeat (first | ((with_reducible refine wpQuiet_step (fun K hK => ?_)); go_simp; first | ((with_reducible refine hK _ ?_); clear hK K) | (apply Exists.intro; (with_reducible refine ⟨fun _ => ?_, hK _ ?_⟩); skip; clear hK K)) | ((with_reducible refine quiet_skipN ?_ (fun K hK => ?_)); (rfl); go_simp; (with_reducible refine hK _ ?_); clear hK K)))
    (with_reducible refine wpQuiet_nil ?_); intro _ hw'; obtain ⟨Y, hw''⟩ := hw'; subst hw''
    go_wp2
    go_ret
    exact ⟨by rw [d1]; rfl, by (repeat' (first | with_reducible exact Below.refl _ _ | with_reducible refine Below.ext ?_ ?_ _ | with_reducible refine Below.alloc ?_ ?_ _ | with_reducible refine Below.setCell ?_ ?_ _ | with_reducible refine Below.drew ?_ | with_reducible assumption | (simp [World.size_ext]; done) | (simp [World.size_ext]; omega)))⟩
theorem leastP_step {acks : List (Int × Nat)} {l : List Int} {j m : Nat} {x : Int} (h : l[j]? = some x) : leastP acks (l.drop j) m = match acks.lookup x with | .none => .none | some k => leastP acks (l.drop (j + 1)) (min m k) := by
  have hl := (List.getElem?_eq_some_iff.1 h).1
  rw [List.drop_eq_getElem_cons hl]
  have : l[j] = x := (List.getElem?_eq_some_iff.1 h).2
  rw [this]
  rfl
theorem lookup_mem : ∀ {l : List (Int × Nat)} {n : Int} {k : Nat}, l.lookup n = some k → (n, k) ∈ l
  | [], _, _, h => by cases h
  | (a, b) :: l, n, k, h => by
    rw [List.lookup_cons] at h
    by_cases ha : n = a
    · subst ha
      simp at h
      subst h
      exact List.mem_cons_self
    · simp only [beq_eq_false_iff_ne.2 ha] at h
      exact List.mem_cons_of_mem _ (lookup_mem h)
/-- The members are few, and nodes. -/
theorem rising_mem {l : List Int} (h : risingB l = true) : ∀ x ∈ l, 0 ≤ x ∧ x < 8 := fun x hx => by
  unfold risingB at h
  simp only [Bool.and_eq_true] at h
  obtain ⟨i, hi, rfl⟩ := List.getElem_of_mem hx
  have h1 := List.all_eq_true.1 h.1 i (List.mem_range.2 hi)
  unfold okN at h1
  rw [List.getElem?_eq_getElem hi] at h1
  simp only [Option.map_some, Option.getD_some, Bool.and_eq_true, decide_eq_true_eq] at h1
  exact h1.1
theorem rising_lt {l : List Int} (h : risingB l = true) : ∀ (i : Nat) (x : Int), l[i]? = some x → (i : Int) ≤ x := by
  intro i
  induction i with
  | zero => intro x hx; have := rising_mem h x (List.mem_of_getElem? hx); omega
  | succ i ih =>
    intro x hx
    have hi := (List.getElem?_eq_some_iff.1 hx).1
    have h1 := ih l[i] (List.getElem?_eq_getElem (by omega))
    unfold risingB at h
    simp only [Bool.and_eq_true] at h
    have h2 := List.all_eq_true.1 h.1 (i + 1) (List.mem_range.2 hi)
    rw [okN_succ hx (List.getElem?_eq_getElem (by omega))] at h2
    simp only [Bool.and_eq_true, decide_eq_true_eq] at h2
    omega
theorem rising_len {l : List Int} (h : risingB l = true) : l.length ≤ 8 := by
  rcases Nat.lt_or_ge 8 l.length with h' | h'
  · have h1 := rising_lt h 8 l[8] (List.getElem?_eq_getElem h')
    have h2 := rising_mem h l[8] (List.getElem_mem h')
    omega
  · exact h'
theorem Rl.ok.mem {r : Rl} (h : r.ok) : (∀ x ∈ r.v.l, 0 ≤ x ∧ x < 8) ∧ r.v.l.length ≤ 8 := by
  rcases h.v with e | e
  · rw [e]; exact ⟨fun x hx => (by cases hx), by simp [Vi.none]⟩
  · have := (right_bd e).2.2.1
    exact ⟨rising_mem this, rising_len this⟩
set_option maxRecDepth 100000 in
set_option maxHeartbeats 2000000 in
theorem settle_any {S T : Nat → Prop} {g : Nat} {r : Rl} {Am : Option Addr} {cm : Nat} {vl : Value} {mb : Nat} (w : World) (h : RelX w S T g r Am cm vl mb) (hok : r.ok) :
    Calls Try.prog 46 #[.pointer (some ⟨g, 0, none⟩)] w fun e w' => e = .returned (.tuple #[]) ∧ RelX w' S T g (settleP r) Am cm vl mb ∧ Only w w' g := by
  have hL := leads_any w h
  by_cases hl : r.leads = true
  · rw [hl] at hL
    unfold settleP
    rw [if_pos hl]
    obtain ⟨ms, _, hown, hems⟩ := h.own.ex
    obtain ⟨Al, cl, hvl, hcl⟩ := own_sl hown
    have hlen := hide (reads_len h.rd)
    have hmem := hok.mem
    have hak := hok.ak
    have hs := hok.s
    have hn4 := hok.n
    clear hown hems
    subst hvl
    generalize hR : leastP r.acks r.v.l r.log.length = R
    have HR := hide hR
    clear hR
    go_enter Try.func46, Try.ntmps46
    go_wp2_with ((go_at_call 44; with_reducible refine (hL).mono ?_; rintro e w1 ⟨rfl, hb1⟩; have hs1 := hb1.size); have h1 := h.below hb1; have c1 := h1.blk.cell; have f1 := h1.blk.frozen; have l1 := h1.blk.lt)
    have hq : r.v.l.length = r.v.l.length := rfl
    go_loopw [2, 21] (fun vm vi wr => ∃ j m : Nat, j ≤ r.v.l.length ∧ vi = .int .i64 (j : Int) ∧ vm = .int .i64 (m : Int) ∧ m ≤ 4096 ∧ Hid (leastP r.acks (r.v.l.drop j) m = R) ∧ wr = w1) (fun _ vi _ => ((r.v.l.length : Int) - intOf vi).toNat)
    case atStart => exact ⟨0, _, by omega, rfl, rfl, hn4, by rw [List.drop_zero]; exact HR, rfl⟩
    case round =>
      obtain ⟨j, m, hj, rfl, rfl, hm4, hls, rfl⟩ := hrel
      obtain ⟨wo, rfl⟩ : ∃ wo : World, wo = wr := ⟨_, rfl⟩
      by_cases hlt : j < r.v.l.length
      · obtain ⟨b, o, rfl, hbb, hcc⟩ := h1.rd.plain (by omega) (by omega)
        have hg : r.v.l[j]? = some r.v.l[j] := List.getElem?_eq_getElem (by omega)
        have m1 := hcc _ _ (ints_get hg)
        have hx := hmem.1 _ (List.getElem_mem hlt)
        have hst := leastP_step (acks := r.acks) (m := m) hg
        generalize r.v.l[j] = x at *
        have hx64 : I64 x := by unfold I64; omega
        have hlk := h1.mp.look hx64
        have hlj : (j : Int) < r.v.l.length := by omega
        rcases hkk : r.acks.lookup x with _ | k
        · rw [hkk] at hst hlk
          simp only [Option.isSome_none, Option.getD_none] at hlk
          have HS := hide (hst.symm.trans hls.out)
          clear hst hls HR hcc hg hkk
          go_wp2
          refine bodyPost_ret (v := .tuple #[]) (by simp [results, Try.results46, go_sem] <;> rfl) rfl ⟨rfl, ?_⟩
          first | exact ⟨h1, Only.of_below hb1⟩ | (rw [← HS.out]; exact ⟨h1, Only.of_below hb1⟩)
        · rw [hkk] at hst hlk
          simp only [Option.isSome_some, Option.getD_some] at hlk
          have HS := hide (hst.symm.trans hls.out)
          have hk4 := (hak _ (lookup_mem hkk)).1
          clear hst hls HR hcc hg hkk
          go_wp2
          go_roundw
          case rel => exact ⟨j + 1, min m k, by omega, by go_num, by first | rfl | (congr 1; omega), by omega, HS, by first | rfl | trivial⟩
          case measure => simp [intOf]; omega
      · obtain rfl : j = r.v.l.length := by omega
        have hR : some m = R := by rw [← hls.out, List.drop_of_length_le (Nat.le_refl _)]; rfl
        subst hR
        clear hls HR
        by_cases hsm : r.sure < m
        · have hsm' : (r.sure : Int) < m := by omega
          have hmx := hide (show max r.sure m = m by omega)
          go_wp2
          refine bodyPost_end (v := .tuple #[]) (by simp [results, Try.results46, go_sem] <;> rfl) rfl ⟨rfl, ?_⟩
          show RelX _ S T g { r with act := true, sure := max r.sure m } Am cm _ mb ∧ _
          rw [hmx.out]
          exact ⟨h1.cells (by (repeat' (first | with_reducible exact h1.blk | with_reducible exact Only.refl _ _ | with_reducible refine Only.set_ ?_ ?_ _ | with_reducible refine Only.alloc ?_ _ | with_reducible refine Only.ext ?_ _ | exact .inl rfl | (right; first | omega | (simp [World.size_ext]; done) | (simp [World.size_ext]; omega))))) (by (repeat' (first | with_reducible exact h1.blk | with_reducible refine Blk.ext ?_ _ | with_reducible refine Blk.alloc ?_ _ | with_reducible apply Blk.set_to | with_reducible refine Blk.far ?_ ?_ _ | rfl | (simp [World.size_ext]; done) | (simp [World.size_ext]; omega)))) rfl rfl rfl, (Only.of_below hb1).trans (by (repeat' (first | with_reducible exact h1.blk | with_reducible exact Only.refl _ _ | with_reducible refine Only.set_ ?_ ?_ _ | with_reducible refine Only.alloc ?_ _ | with_reducible refine Only.ext ?_ _ | exact .inl rfl | (right; first | omega | (simp [World.size_ext]; done) | (simp [World.size_ext]; omega)))))⟩
        · have hsm' : ¬(r.sure : Int) < m := by omega
          have hmx := hide (show max r.sure m = r.sure by omega)
          go_wp2
          refine bodyPost_end (v := .tuple #[]) (by simp [results, Try.results46, go_sem] <;> rfl) rfl ⟨rfl, ?_⟩
          show RelX _ S T g { r with act := true, sure := max r.sure m } Am cm _ mb ∧ _
          rw [hmx.out]
          exact ⟨h1.cells (by (repeat' (first | with_reducible exact h1.blk | with_reducible exact Only.refl _ _ | with_reducible refine Only.set_ ?_ ?_ _ | with_reducible refine Only.alloc ?_ _ | with_reducible refine Only.ext ?_ _ | exact .inl rfl | (right; first | omega | (simp [World.size_ext]; done) | (simp [World.size_ext]; omega))))) (by (repeat' (first | with_reducible exact h1.blk | with_reducible refine Blk.ext ?_ _ | with_reducible refine Blk.alloc ?_ _ | with_reducible apply Blk.set_to | with_reducible refine Blk.far ?_ ?_ _ | rfl | (simp [World.size_ext]; done) | (simp [World.size_ext]; omega)))) rfl rfl rfl, (Only.of_below hb1).trans (by (repeat' (first | with_reducible exact h1.blk | with_reducible exact Only.refl _ _ | with_reducible refine Only.set_ ?_ ?_ _ | with_reducible refine Only.alloc ?_ _ | with_reducible refine Only.ext ?_ _ | exact .inl rfl | (right; first | omega | (simp [World.size_ext]; done) | (simp [World.size_ext]; omega)))))⟩
  · have hl' : r.leads = false := by simpa using hl
    rw [hl'] at hL
    unfold settleP
    rw [if_neg hl]
    go_enter Try.func46, Try.ntmps46
    go_wp2_with ((go_at_call 44; with_reducible refine (hL).mono ?_; rintro e w1 ⟨rfl, hb1⟩; have hs1 := hb1.size))
    refine bodyPost_ret (v := .tuple #[]) (by simp [results, Try.results46, go_sem] <;> rfl) rfl ⟨rfl, ?_⟩
    exact ⟨h.below hb1, Only.of_below hb1⟩
end Go.Proofs.Ytjhcgnmibnjocaa
