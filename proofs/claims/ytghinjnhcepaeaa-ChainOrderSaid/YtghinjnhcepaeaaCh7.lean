import Derived.Test.YtghinjnhcepaeaaCh6
/-! The program's chain: Get, Cut. -/
namespace Go.Proofs.Ytghinjnhcepaeaa
open Go.RowKit
set_option linter.unusedVariables false
set_option linter.unusedSimpArgs false
def cntLe (l : List Ver) (k : Int) : Nat := l.countP (fun x => decide (x.k ≤ k))
theorem cntLe_le (l : List Ver) (k : Int) : cntLe l k ≤ l.length := List.countP_le_length
theorem cntLe_yes : ∀ {l : List Ver} {k : Int}, Srt l → hasK l k = true → cntLe l k = cntK l k + 1
  | [], k, _, h => by simp [hasK] at h
  | y :: l, k, hs, h => by
    have hs' : Srt l := (List.pairwise_cons.1 hs).2
    have hy := (List.pairwise_cons.1 hs).1
    unfold cntLe cntK
    simp only [hasK, List.any_cons, Bool.or_eq_true, decide_eq_true_eq] at h
    by_cases e : y.k = k
    · rw [List.countP_cons_of_pos (by simp; omega), List.countP_cons_of_neg (by simp; omega)]
      rw [List.countP_eq_zero.2 (fun x hx => by have := hy x hx; simp; omega), List.countP_eq_zero.2 (fun x hx => by have := hy x hx; simp; omega)]
    · rcases h with h | h
      · exact absurd h e
      · have ih := cntLe_yes hs' h
        unfold cntLe cntK at ih
        obtain ⟨z, hz, hzk⟩ := List.any_eq_true.1 h
        have := hy z hz
        simp at hzk
        rw [List.countP_cons_of_pos (by simp; omega), List.countP_cons_of_pos (by simp; omega), ih]
theorem cntLe_no {l : List Ver} {k : Int} (h : hasK l k = false) : cntLe l k = cntK l k := by
  unfold cntLe cntK
  apply List.countP_congr
  intro x hx
  have := List.any_eq_false.1 h x hx
  simp at this ⊢
  omega
def standV (l : List Ver) (k : Int) : Option Ver := if cntLe l k = 0 then none else l[cntLe l k - 1]?
def getV (l : List Ver) (k : Int) : Option Ver := (standV l k).filter (fun x => decide (x.kd ≠ 3))
def gvD (o : Option Ver) : Ver := o.getD ⟨0, 0, 0, 0, 0, ⟨#[]⟩⟩
def cutI (l : List Ver) (k : Int) : Nat := if (getV l k).isSome then cntLe l k - 1 else cntLe l k
def cutV (l : List Ver) (k : Int) : List Ver := l.drop (cutI l k)
theorem stand_zero {l : List Ver} {k : Int} (h : cntLe l k = 0) : getV l k = none := by simp [getV, standV, h]
theorem stand_some {l : List Ver} {k : Int} {m : Nat} {x : Ver} (h : cntLe l k = m + 1) (hx : l[m]? = some x) : getV l k = if x.kd = 3 then none else some x := by
  simp only [getV, standV, h, Nat.add_sub_cancel, hx]
  by_cases h3 : x.kd = 3 <;> simp [h3]
set_option maxRecDepth 100000 in
set_option maxHeartbeats 4000000 in
theorem vget_any (A : Option Addr) (n c : Nat) (l : List Ver) (t : Ver) (w : World) (hr : Reads w w.heap.size 6 A n (vsV l)) (hn : n ≤ 4611686018427387904) (hs : Srt l) (hok : ∀ x ∈ l, x.ok) (ht : t.ok) :
    Calls Try.prog 13 #[.slice A n c, .agg #[.int .i64 t.a, .int .u32 t.b, .int .u32 t.c]] w fun e w' => e = .returned (.tuple #[.agg (gvD (getV l t.k)).arr, .bool (getV l t.k).isSome]) ∧ Below w.heap.size w w' := by
  have hl := vreads_len hr
  have hr1 := ((hr.alloc (Nat.le_refl _) (.cells #[.int .i64 t.a, .int .u32 t.b, .int .u32 t.c] 29)).alloc (by simp) (.cells #[.int .i64 0, .int .u32 0, .int .u32 0, .int .i64 0, .int .i64 0, .string ⟨#[]⟩] 31)).more (B' := ((w.alloc (.cells #[.int .i64 t.a, .int .u32 t.b, .int .u32 t.c] 29)).alloc (.cells #[.int .i64 0, .int .u32 0, .int .u32 0, .int .i64 0, .int .i64 0, .string ⟨#[]⟩] 31)).heap.size) (by simp; omega)
  have hQ := place_any A n c l t _ hr1 hn hs hok ht
  have hR := Blk.made w (.cells #[.int .i64 t.a, .int .u32 t.b, .int .u32 t.c] 29) 31 #[.int .i64 0, .int .u32 0, .int .u32 0, .int .i64 0, .int .i64 0, .string ⟨#[]⟩]
  generalize hg : getV l t.k = o
  rcases hm : cntLe l t.k with _ | m
  · have hk : hasK l t.k = false := by
      cases h : hasK l t.k with
      | false => rfl
      | true => have := cntLe_yes hs h; omega
    have hc := cntLe_no hk
    rw [stand_zero hm] at hg
    subst hg
    rw [hk, ← hc, hm] at hQ
    clear hr hr1 hs hok
    go_enter Try.func13, Try.ntmps13
    go_wp2_with (go_at_call 27; (with_reducible refine (hQ).mono ?_); rintro e w' ⟨rfl, hb⟩; obtain ⟨X, rfl⟩ := World.ext_of_below hb; clear hb)
    refine bodyPost_cell_tmp Try.results13 rfl (Blk.six (hR.ext X)) Try.underlying31 rfl (by kernel_rfl) rfl ⟨rfl, ?_⟩
    clear hR
    (repeat' (first | with_reducible exact Below.refl _ _ | with_reducible refine Below.ext ?_ ?_ _ | with_reducible refine Below.alloc ?_ ?_ _ | with_reducible refine Below.setCell ?_ ?_ _ | with_reducible refine Below.drew ?_ | with_reducible assumption | (simp [World.size_ext]; done) | (simp [World.size_ext]; omega)))
  · obtain ⟨x, hx⟩ : ∃ x, l[m]? = some x := ⟨l[m]'(by have := cntLe_le l t.k; omega), List.getElem?_eq_getElem _⟩
    have hmn : m < n := by have := cntLe_le l t.k; omega
    have hmi : (m : Int) < n := by omega
    rw [stand_some hm hx] at hg
    obtain ⟨b, o', rfl, hbb, hcw⟩ := hr.plain (by omega) (by omega)
    have m0 : (w).cell? ⟨b, o' + m * 6, none⟩ = some (.int .i64 (x).a) := hcw _ _ (vsV_get hx 0 _ rfl); have m1 : (w).cell? ⟨b, o' + m * 6 + 1, none⟩ = some (.int .u32 (x).b) := hcw _ _ (vsV_get hx 1 _ rfl); have m2 : (w).cell? ⟨b, o' + m * 6 + 2, none⟩ = some (.int .u32 (x).c) := hcw _ _ (vsV_get hx 2 _ rfl); have m3 : (w).cell? ⟨b, o' + m * 6 + 3, none⟩ = some (.int .i64 (x).kd) := hcw _ _ (vsV_get hx 3 _ rfl); have m4 : (w).cell? ⟨b, o' + m * 6 + 4, none⟩ = some (.int .i64 (x).num) := hcw _ _ (vsV_get hx 4 _ rfl); have m5 : (w).cell? ⟨b, o' + m * 6 + 5, none⟩ = some (.string (x).text) := hcw _ _ (vsV_get hx 5 _ rfl)
    have hb1 : b < w.heap.size + 1 := by omega
    have hb2 : b < w.heap.size + 1 + 1 := by omega
    have hne : b ≠ w.heap.size + 1 := by omega
    cases hk : hasK l t.k with
    | true =>
      have hc := cntLe_yes hs hk
      have hc' : cntK l t.k = m := by omega
      rw [hk, hc'] at hQ
      clear hr hr1 hs hok hcw
      by_cases h3 : x.kd = 3
      · rw [if_pos h3] at hg
        subst hg
        rw [h3] at m3
        go_enter Try.func13, Try.ntmps13
        go_wp2_with (go_at_call 27; (with_reducible refine (hQ).mono ?_); rintro e w' ⟨rfl, hb⟩; obtain ⟨X, rfl⟩ := World.ext_of_below hb; clear hb)
        refine bodyPost_cell_tmp Try.results13 rfl (Blk.six (hR.ext X)) Try.underlying31 rfl (by kernel_rfl) rfl ⟨rfl, ?_⟩
        clear hR
        (repeat' (first | with_reducible exact Below.refl _ _ | with_reducible refine Below.ext ?_ ?_ _ | with_reducible refine Below.alloc ?_ ?_ _ | with_reducible refine Below.setCell ?_ ?_ _ | with_reducible refine Below.drew ?_ | with_reducible assumption | (simp [World.size_ext]; done) | (simp [World.size_ext]; omega)))
      · rw [if_neg h3] at hg
        subst hg
        have h3' : (x.kd == 3) = false := by simpa using h3
        go_enter Try.func13, Try.ntmps13
        go_wp2_with (go_at_call 27; (with_reducible refine (hQ).mono ?_); rintro e w' ⟨rfl, hb⟩; obtain ⟨X, rfl⟩ := World.ext_of_below hb; clear hb)
        refine bodyPost_cell_tmp Try.results13 rfl (Blk.six (hR.ext X)) Try.underlying31 rfl (by kernel_rfl) rfl ⟨rfl, ?_⟩
        clear hR
        (repeat' (first | with_reducible exact Below.refl _ _ | with_reducible refine Below.ext ?_ ?_ _ | with_reducible refine Below.alloc ?_ ?_ _ | with_reducible refine Below.setCell ?_ ?_ _ | with_reducible refine Below.drew ?_ | with_reducible assumption | (simp [World.size_ext]; done) | (simp [World.size_ext]; omega)))
    | false =>
      have hc := cntLe_no hk
      have hc' : cntK l t.k = m + 1 := by omega
      rw [hk, hc'] at hQ
      clear hr hr1 hs hok hcw
      by_cases h3 : x.kd = 3
      · rw [if_pos h3] at hg
        subst hg
        rw [h3] at m3
        go_enter Try.func13, Try.ntmps13
        go_wp2_with (go_at_call 27; (with_reducible refine (hQ).mono ?_); rintro e w' ⟨rfl, hb⟩; obtain ⟨X, rfl⟩ := World.ext_of_below hb; clear hb)
        refine bodyPost_cell_tmp Try.results13 rfl (Blk.six (hR.ext X)) Try.underlying31 rfl (by kernel_rfl) rfl ⟨rfl, ?_⟩
        clear hR
        (repeat' (first | with_reducible exact Below.refl _ _ | with_reducible refine Below.ext ?_ ?_ _ | with_reducible refine Below.alloc ?_ ?_ _ | with_reducible refine Below.setCell ?_ ?_ _ | with_reducible refine Below.drew ?_ | with_reducible assumption | (simp [World.size_ext]; done) | (simp [World.size_ext]; omega)))
      · rw [if_neg h3] at hg
        subst hg
        have h3' : (x.kd == 3) = false := by simpa using h3
        go_enter Try.func13, Try.ntmps13
        go_wp2_with (go_at_call 27; (with_reducible refine (hQ).mono ?_); rintro e w' ⟨rfl, hb⟩; obtain ⟨X, rfl⟩ := World.ext_of_below hb; clear hb)
        refine bodyPost_cell_tmp Try.results13 rfl (Blk.six (hR.ext X)) Try.underlying31 rfl (by kernel_rfl) rfl ⟨rfl, ?_⟩
        clear hR
        (repeat' (first | with_reducible exact Below.refl _ _ | with_reducible refine Below.ext ?_ ?_ _ | with_reducible refine Below.alloc ?_ ?_ _ | with_reducible refine Below.setCell ?_ ?_ _ | with_reducible refine Below.drew ?_ | with_reducible assumption | (simp [World.size_ext]; done) | (simp [World.size_ext]; omega)))
end Go.Proofs.Ytghinjnhcepaeaa
