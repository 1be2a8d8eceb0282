import Derived.Test.YtghinjnhcepaeaaCh
/-! Where a stamp stands in a chain. -/
namespace Go.Proofs.Ytghinjnhcepaeaa
open Go.RowKit
set_option linter.unusedVariables false
set_option linter.unusedSimpArgs false
def Ver.k (x : Ver) : Int := x.a * 18446744073709551616 + x.b * 4294967296 + x.c
def cmpV (x t : Ver) : Int := cmpI x.a x.b x.c t.a t.b t.c
theorem cmpV_lt {x t : Ver} (hx : x.ok) (ht : t.ok) : cmpV x t < 0 ↔ x.k < t.k := by
  obtain ⟨_, h1, h2, _⟩ := hx
  obtain ⟨_, h3, h4, _⟩ := ht
  unfold cmpV cmpI Ver.k
  unfold U32 at *
  (repeat' split) <;> simp <;> omega
theorem cmpV_eq {x t : Ver} (hx : x.ok) (ht : t.ok) : cmpV x t = 0 ↔ x.k = t.k := by
  obtain ⟨_, h1, h2, _⟩ := hx
  obtain ⟨_, h3, h4, _⟩ := ht
  unfold cmpV cmpI Ver.k
  unfold U32 at *
  (repeat' split) <;> simp <;> omega
theorem belowV {x t : Ver} (hx : x.ok) (ht : t.ok) : belowB x.a x.b x.c t.a t.b t.c = decide (x.k < t.k) := by
  have h := cmpV_lt hx ht
  unfold belowB
  unfold cmpV at h
  have hv : cmpI x.a x.b x.c t.a t.b t.c = -1 ∨ cmpI x.a x.b x.c t.a t.b t.c = 0 ∨ cmpI x.a x.b x.c t.a t.b t.c = 1 := by unfold cmpI; (repeat' split) <;> simp
  rcases hv with e | e | e <;> rw [e] at h ⊢ <;> simp at h ⊢ <;> omega
theorem stEqV {x t : Ver} (hx : x.ok) (ht : t.ok) : stEq x.a x.b x.c t.a t.b t.c = decide (x.k = t.k) := by
  obtain ⟨_, h1, h2, _⟩ := hx
  obtain ⟨_, h3, h4, _⟩ := ht
  unfold stEq Ver.k
  unfold U32 at *
  rw [Bool.eq_iff_iff]
  simp
  omega
set_option maxRecDepth 100000 in
set_option maxHeartbeats 1000000 in
theorem pcmp_any (x t : Ver) (w : World) :
    Calls Try.prog 34 #[.agg #[.int .i64 x.a, .int .u32 x.b, .int .u32 x.c, .int .i64 x.kd, .int .i64 x.num, .string x.text], .agg #[.int .i64 t.a, .int .u32 t.b, .int .u32 t.c]] w fun e w' => e = .returned (.int .i64 (cmpV x t)) ∧ Below w.heap.size w w' := by
  go_enter Try.func34, Try.ntmps34
  go_wp2_with (go_at_call 22; (with_reducible refine (compare_any _ _ _ _ _ _ _).mono ?_); rintro e w' ⟨rfl, hb⟩; obtain ⟨X, rfl⟩ := World.ext_of_below hb; clear hb)
  go_ret
  exact ⟨rfl, by (repeat' (first | with_reducible exact Below.refl _ _ | with_reducible refine Below.ext ?_ ?_ _ | with_reducible refine Below.alloc ?_ ?_ _ | with_reducible refine Below.setCell ?_ ?_ _ | with_reducible refine Below.drew ?_ | with_reducible assumption | (simp [World.size_ext]; done) | (simp [World.size_ext]; omega)))⟩
def Srt (l : List Ver) : Prop := l.Pairwise (fun x y => x.k < y.k)
theorem Srt.lt {l : List Ver} (h : Srt l) {i j : Nat} {x y : Ver} (hij : i < j) (hx : l[i]? = some x) (hy : l[j]? = some y) : x.k < y.k := by
  obtain ⟨h1, rfl⟩ := List.getElem?_eq_some_iff.1 hx
  obtain ⟨h2, rfl⟩ := List.getElem?_eq_some_iff.1 hy
  exact List.pairwise_iff_getElem.1 h i j h1 h2 hij
def cntK (l : List Ver) (k : Int) : Nat := l.countP (fun x => decide (x.k < k))
def hasK (l : List Ver) (k : Int) : Bool := l.any (fun x => decide (x.k = k))
theorem cntK_of : ∀ {l : List Ver} {k : Int} {i : Nat}, i ≤ l.length → (∀ (j : Nat) (x : Ver), j < i → l[j]? = some x → x.k < k) → (∀ (j : Nat) (x : Ver), i ≤ j → l[j]? = some x → k ≤ x.k) → cntK l k = i
  | [], k, i, hi, _, _ => by simp at hi; subst hi; rfl
  | y :: l, k, 0, _, _, h2 => by
    unfold cntK
    rw [List.countP_eq_zero]
    intro x hx
    obtain ⟨j, hj⟩ := List.getElem?_of_mem hx
    have := h2 j x (by omega) hj
    simp; omega
  | y :: l, k, i + 1, hi, h1, h2 => by
    have h0 := h1 0 y (by omega) rfl
    have ih := cntK_of (l := l) (k := k) (i := i) (by simpa using hi) (fun j x hj hx => h1 (j + 1) x (by omega) (by simpa using hx)) (fun j x hj hx => h2 (j + 1) x (by omega) (by simpa using hx))
    unfold cntK at *
    rw [List.countP_cons_of_pos (by simpa using h0), ih]
theorem vsV_get {l : List Ver} {i : Nat} {x : Ver} (h : l[i]? = some x) (j : Nat) (v : Value) (hv : x.cells[j]? = some v) : (vsV l)[i * 6 + j]? = some v := rowsV_get Ver.len l i x h j v hv
theorem vsV_length (l : List Ver) : (vsV l).length = l.length * 6 := rowsV_length Ver.len l
theorem vreads_len {w : World} {B : Nat} {A : Option Addr} {n : Nat} {l : List Ver} (h : Reads w B 6 A n (vsV l)) : l.length = n := by have := h.1; rw [vsV_length] at this; omega
set_option maxRecDepth 100000 in
set_option maxHeartbeats 4000000 in
theorem bsearch_any (A : Option Addr) (n c : Nat) (l : List Ver) (t : Ver) (w : World) (hr : Reads w w.heap.size 6 A n (vsV l)) (hn : n ≤ 4611686018427387904) (hs : Srt l) (hok : ∀ x ∈ l, x.ok) (ht : t.ok) :
    Calls Try.prog 33 #[.slice A n c, .agg #[.int .i64 t.a, .int .u32 t.b, .int .u32 t.c], .func (.func 34) #[] #[]] w fun e w' => e = .returned (.tuple #[.int .i64 (cntK l t.k : Nat), .bool (hasK l t.k)]) ∧ Below w.heap.size w w' := by
  have hl := vreads_len hr
  go_enter Try.func33, Try.ntmps33
  go_wp2
  obtain ⟨w1, hw1⟩ : ∃ w1, w1 = w.alloc (.cells #[.int .i64 t.a, .int .u32 t.b, .int .u32 t.c] 29) := ⟨_, rfl⟩
  have hB := Blk.new w 29 #[.int .i64 t.a, .int .u32 t.b, .int .u32 t.c]
  have hb01 : Below w.heap.size w w1 := hw1 ▸ Below.alloc (Below.refl _ _) (Nat.le_refl _) _
  rw [← hw1] at hB ⊢
  clear hw1
  generalize hq : w.heap.size = q at *
  go_loopw [9, 10] (fun s9 s10 wr => ∃ lo hi : Nat, ∃ X, s9 = .int .i64 (lo : Int) ∧ s10 = .int .i64 (hi : Int) ∧ lo ≤ hi ∧ hi ≤ n ∧ (∀ (j : Nat) (x : Ver), j < lo → l[j]? = some x → x.k < t.k) ∧ (∀ (j : Nat) (x : Ver), hi ≤ j → l[j]? = some x → t.k ≤ x.k) ∧ wr = w1.ext X) (fun s9 s10 _ => (intOf s10 - intOf s9).toNat)
  case atStart => exact ⟨0, n, ⟨#[], w1.drawn⟩, rfl, rfl, by omega, by omega, fun j x hj => by omega, fun j x hj hx => by have := (List.getElem?_eq_some_iff.1 hx).1; omega, (by simp [World.ext])⟩
  case round =>
    obtain ⟨lo, hi, X, rfl, rfl, hlh, hin, h1, h2, rfl⟩ := hrel
    by_cases hlt : lo < hi
    · obtain ⟨b, o, rfl, hbb, hc⟩ := hr.plain (by omega) (by omega)
      have hm : (lo + hi) / 2 < n := by omega
      have hcw : ∀ (j : Nat) (u : Value), (vsV l)[j]? = some u → w1.cell? ⟨b, o + j, none⟩ = some u := fun j u hu => (hb01.cell (p := ⟨b, _, none⟩) hbb).trans (hc j u hu)
      obtain ⟨x, hg⟩ : ∃ x, l[(lo + hi) / 2]? = some x := ⟨l[(lo + hi) / 2]'(by omega), List.getElem?_eq_getElem (by omega)⟩
      have hxo := hok x (List.mem_of_getElem? hg)
      have m0 : (w1).cell? ⟨b, o + ((lo + hi) / 2) * 6, none⟩ = some (.int .i64 (x).a) := hcw _ _ (vsV_get hg 0 _ rfl); have m1 : (w1).cell? ⟨b, o + ((lo + hi) / 2) * 6 + 1, none⟩ = some (.int .u32 (x).b) := hcw _ _ (vsV_get hg 1 _ rfl); have m2 : (w1).cell? ⟨b, o + ((lo + hi) / 2) * 6 + 2, none⟩ = some (.int .u32 (x).c) := hcw _ _ (vsV_get hg 2 _ rfl); have m3 : (w1).cell? ⟨b, o + ((lo + hi) / 2) * 6 + 3, none⟩ = some (.int .i64 (x).kd) := hcw _ _ (vsV_get hg 3 _ rfl); have m4 : (w1).cell? ⟨b, o + ((lo + hi) / 2) * 6 + 4, none⟩ = some (.int .i64 (x).num) := hcw _ _ (vsV_get hg 4 _ rfl); have m5 : (w1).cell? ⟨b, o + ((lo + hi) / 2) * 6 + 5, none⟩ = some (.string (x).text) := hcw _ _ (vsV_get hg 5 _ rfl)
      have cB := hB.cell
      have lB := hB.lt
      have hbw : b < w1.heap.size := by omega
      by_cases hx : cmpV x t < 0
      · have H := hide (⟨h1, h2, hg, (cmpV_lt hxo ht).1 hx⟩ : _ ∧ _ ∧ _ ∧ _)
        clear h1 h2 hc hcw hg hr hok
        have hP := pcmp_any x t
        go_wp2
        simp only [show ((lo : Int) + (hi : Int)) / 2 = (((lo + hi) / 2 : Nat) : Int) from by omega]
        have hmlo : lo ≤ (lo + hi) / 2 := by omega
        have hmhi : (lo + hi) / 2 < hi := by omega
        generalize (lo + hi) / 2 = m at *
        have hmi : (m : Int) < n := by omega
        refine First.wp_region_first_ext [4, 5] [0, 1, 2, 3, 7] [(true, false, 0), (true, false, 1), (true, false, 2), (true, false, 3), (true, true, 4), (true, true, 5), (false, false, 6), (true, false, 7)] (by kernel_rfl) (by kernel_rfl) (fun Y => ?_); simp only [List.map_cons, List.map_nil, List.getD_cons_zero, List.getD_cons_succ]
        (repeat (first | (refine First.wpF_pure (fun K hK => ?_); go_simp; first | (refine hK _ _ ?_; clear hK K) | (apply Exists.intro; refine ⟨fun _ => ?_, hK _ _ ?_⟩; fail)) | (refine First.wpF_free (fun K hK => ?_); go_simp; first | (refine hK _ _ ?_; clear hK K))))
        refine First.wpF_must (fun K hK => ?_)
        go_wp2_with (go_at_call 34; (with_reducible refine (hP _).mono ?_); rintro e w' ⟨rfl, hb⟩; obtain ⟨X, rfl⟩ := World.ext_of_below hb; clear hb)
        (refine hK _ _ (fun hnd => by first | exact Bool.noConfusion hnd | assumption | with_reducible exact grown_alloc _ _ | with_reducible exact First.Grown.refl _ | with_reducible exact First.Grown.cat _ _ _ | with_reducible exact First.Grown.ext _ _) ?_; clear hK K)
        (repeat (first | (refine First.wpF_pure (fun K hK => ?_); go_simp; first | (refine hK _ _ ?_; clear hK K) | (apply Exists.intro; refine ⟨fun _ => ?_, hK _ _ ?_⟩; fail)) | (refine First.wpF_free (fun K hK => ?_); go_simp; first | (refine hK _ _ ?_; clear hK K))))
        refine First.wpF_nil ?_
        go_wp2
        go_roundw
        obtain ⟨h1, h2, hg, hxk⟩ := H.out
        case rel =>
          refine ⟨m + 1, hi, _, by go_num, rfl, by omega, hin, fun j y hj hy => ?_, h2, rfl⟩
          rcases Nat.lt_or_ge j m with h' | h'
          · have := hs.lt h' hy hg; omega
          · obtain rfl : j = m := by omega
            rw [hg] at hy; cases hy; exact hxk
        case measure => simp [intOf]; omega
      · have H := hide (⟨h1, h2, hg, fun h => hx ((cmpV_lt hxo ht).2 h)⟩ : _ ∧ _ ∧ _ ∧ ¬ x.k < t.k)
        clear h1 h2 hc hcw hg hr hok
        have hP := pcmp_any x t
        go_wp2
        simp only [show ((lo : Int) + (hi : Int)) / 2 = (((lo + hi) / 2 : Nat) : Int) from by omega]
        have hmlo : lo ≤ (lo + hi) / 2 := by omega
        have hmhi : (lo + hi) / 2 < hi := by omega
        generalize (lo + hi) / 2 = m at *
        have hmi : (m : Int) < n := by omega
        refine First.wp_region_first_ext [4, 5] [0, 1, 2, 3, 7] [(true, false, 0), (true, false, 1), (true, false, 2), (true, false, 3), (true, true, 4), (true, true, 5), (false, false, 6), (true, false, 7)] (by kernel_rfl) (by kernel_rfl) (fun Y => ?_); simp only [List.map_cons, List.map_nil, List.getD_cons_zero, List.getD_cons_succ]
        (repeat (first | (refine First.wpF_pure (fun K hK => ?_); go_simp; first | (refine hK _ _ ?_; clear hK K) | (apply Exists.intro; refine ⟨fun _ => ?_, hK _ _ ?_⟩; fail)) | (refine First.wpF_free (fun K hK => ?_); go_simp; first | (refine hK _ _ ?_; clear hK K))))
        refine First.wpF_must (fun K hK => ?_)
        go_wp2_with (go_at_call 34; (with_reducible refine (hP _).mono ?_); rintro e w' ⟨rfl, hb⟩; obtain ⟨X, rfl⟩ := World.ext_of_below hb; clear hb)
        (refine hK _ _ (fun hnd => by first | exact Bool.noConfusion hnd | assumption | with_reducible exact grown_alloc _ _ | with_reducible exact First.Grown.refl _ | with_reducible exact First.Grown.cat _ _ _ | with_reducible exact First.Grown.ext _ _) ?_; clear hK K)
        (repeat (first | (refine First.wpF_pure (fun K hK => ?_); go_simp; first | (refine hK _ _ ?_; clear hK K) | (apply Exists.intro; refine ⟨fun _ => ?_, hK _ _ ?_⟩; fail)) | (refine First.wpF_free (fun K hK => ?_); go_simp; first | (refine hK _ _ ?_; clear hK K))))
        refine First.wpF_nil ?_
        go_wp2
        go_roundw
        obtain ⟨h1, h2, hg, hxk⟩ := H.out
        case rel =>
          refine ⟨lo, m, _, rfl, rfl, by omega, by omega, h1, fun j y hj hy => ?_, rfl⟩
          rcases Nat.lt_or_ge m j with h' | h'
          · have := hs.lt h' hg hy; omega
          · obtain rfl : j = m := by omega
            rw [hg] at hy; cases hy; omega
        case measure => simp [intOf]; omega
    · obtain rfl : lo = hi := by omega
      have hcnt : cntK l t.k = lo := cntK_of (by omega) h1 h2
      by_cases hln : lo < n
      · obtain ⟨b, o, rfl, hbb, hc⟩ := hr.plain (by omega) (by omega)
        have hcw : ∀ (j : Nat) (u : Value), (vsV l)[j]? = some u → w1.cell? ⟨b, o + j, none⟩ = some u := fun j u hu => (hb01.cell (p := ⟨b, _, none⟩) hbb).trans (hc j u hu)
        obtain ⟨x, hg⟩ : ∃ x, l[lo]? = some x := ⟨l[lo]'(by omega), List.getElem?_eq_getElem (by omega)⟩
        have hxo := hok x (List.mem_of_getElem? hg)
        have m0 : (w1).cell? ⟨b, o + lo * 6, none⟩ = some (.int .i64 (x).a) := hcw _ _ (vsV_get hg 0 _ rfl); have m1 : (w1).cell? ⟨b, o + lo * 6 + 1, none⟩ = some (.int .u32 (x).b) := hcw _ _ (vsV_get hg 1 _ rfl); have m2 : (w1).cell? ⟨b, o + lo * 6 + 2, none⟩ = some (.int .u32 (x).c) := hcw _ _ (vsV_get hg 2 _ rfl); have m3 : (w1).cell? ⟨b, o + lo * 6 + 3, none⟩ = some (.int .i64 (x).kd) := hcw _ _ (vsV_get hg 3 _ rfl); have m4 : (w1).cell? ⟨b, o + lo * 6 + 4, none⟩ = some (.int .i64 (x).num) := hcw _ _ (vsV_get hg 4 _ rfl); have m5 : (w1).cell? ⟨b, o + lo * 6 + 5, none⟩ = some (.string (x).text) := hcw _ _ (vsV_get hg 5 _ rfl)
        have cB := hB.cell
        have lB := hB.lt
        have hbw : b < w1.heap.size := by omega
        have hli : (lo : Int) < n := by omega
        have hhk : hasK l t.k = (cmpV x t == 0) := by
          rw [Bool.eq_iff_iff, beq_iff_eq, cmpV_eq hxo ht]
          simp only [hasK, List.any_eq_true, decide_eq_true_eq]
          constructor
          · rintro ⟨y, hy, e⟩
            obtain ⟨j, hj⟩ := List.getElem?_of_mem hy
            rcases Nat.lt_or_ge j lo with h' | h'
            · have := h1 j y h' hj; omega
            · rcases Nat.lt_or_ge lo j with h3 | h3
              · have := hs.lt h3 hg hj; have := h2 lo x (by omega) hg; omega
              · obtain rfl : j = lo := by omega
                rw [hg] at hj; cases hj; exact e
          · exact fun e => ⟨x, List.mem_of_getElem? hg, e⟩
        have HE := hide (⟨hcnt, hhk⟩ : _ ∧ _)
        clear h1 h2 hc hcw hg hr hok hhk hcnt
        have hP := pcmp_any x t
        go_wp2
        refine First.wp_region_first_ext [9, 10] [0, 1, 2, 3, 4, 5, 6, 7, 8, 12, 13] [(true, false, 0), (true, false, 1), (true, false, 2), (true, false, 3), (true, false, 4), (true, false, 5), (true, false, 6), (true, false, 7), (true, false, 8), (true, true, 9), (true, true, 10), (false, false, 11), (true, false, 12), (true, false, 13), (false, false, 14), (false, false, 15)] (by kernel_rfl) (by kernel_rfl) (fun Y => ?_); simp only [List.map_cons, List.map_nil, List.getD_cons_zero, List.getD_cons_succ]
        (repeat (first | (refine First.wpF_pure (fun K hK => ?_); go_simp; first | (refine hK _ _ ?_; clear hK K) | (apply Exists.intro; refine ⟨fun _ => ?_, hK _ _ ?_⟩; fail)) | (refine First.wpF_free (fun K hK => ?_); go_simp; first | (refine hK _ _ ?_; clear hK K))))
        refine First.wpF_must (fun K hK => ?_)
        go_wp2_with (go_at_call 34; (with_reducible refine (hP _).mono ?_); rintro e w' ⟨rfl, hb⟩; obtain ⟨X, rfl⟩ := World.ext_of_below hb; clear hb)
        (refine hK _ _ (fun hnd => by first | exact Bool.noConfusion hnd | assumption | with_reducible exact grown_alloc _ _ | with_reducible exact First.Grown.refl _ | with_reducible exact First.Grown.cat _ _ _ | with_reducible exact First.Grown.ext _ _) ?_; clear hK K)
        (repeat (first | (refine First.wpF_pure (fun K hK => ?_); go_simp; first | (refine hK _ _ ?_; clear hK K) | (apply Exists.intro; refine ⟨fun _ => ?_, hK _ _ ?_⟩; fail)) | (refine First.wpF_free (fun K hK => ?_); go_simp; first | (refine hK _ _ ?_; clear hK K))))
        refine First.wpF_must (fun K hK => ?_)
        go_wp2
        (refine hK _ _ (fun hnd => by first | exact Bool.noConfusion hnd | assumption | with_reducible exact grown_alloc _ _ | with_reducible exact First.Grown.refl _ | with_reducible exact First.Grown.cat _ _ _ | with_reducible exact First.Grown.ext _ _) ?_; clear hK K)
        refine First.wpF_must (fun K hK => ?_)
        go_wp2
        (refine hK _ _ (fun hnd => by first | exact Bool.noConfusion hnd | assumption | with_reducible exact grown_alloc _ _ | with_reducible exact First.Grown.refl _ | with_reducible exact First.Grown.cat _ _ _ | with_reducible exact First.Grown.ext _ _) ?_; clear hK K)
        refine First.wpF_nil ?_
        go_wp2
        go_ret2
        exact ⟨by rw [HE.out.1, HE.out.2] <;> rfl, by rw [hq]; exact hb01.trans ((World.below_ext _ _).mono (Nat.le_of_lt hB.lt))⟩
      · obtain rfl : lo = n := by omega
        have hhk : hasK l t.k = false := by
          simp only [hasK, List.any_eq_false, decide_eq_true_eq]
          intro y hy e
          obtain ⟨j, hj⟩ := List.getElem?_of_mem hy
          have := h1 j y (by have := (List.getElem?_eq_some_iff.1 hj).1; omega) hj
          omega
        have HE := hide (⟨hcnt, hhk⟩ : _ ∧ _)
        clear h1 h2 hr hok hhk hcnt
        go_wp2
        refine First.wp_region_first_ext [9, 10] [0, 1, 2, 3, 4, 5, 6, 7, 8, 12, 13] [(true, false, 0), (true, false, 1), (true, false, 2), (true, false, 3), (true, false, 4), (true, false, 5), (true, false, 6), (true, false, 7), (true, false, 8), (true, true, 9), (true, true, 10), (false, false, 11), (true, false, 12), (true, false, 13), (false, false, 14), (false, false, 15)] (by kernel_rfl) (by kernel_rfl) (fun Y => ?_); simp only [List.map_cons, List.map_nil, List.getD_cons_zero, List.getD_cons_succ]
        (repeat (first | (refine First.wpF_pure (fun K hK => ?_); go_simp; first | (refine hK _ _ ?_; clear hK K) | (apply Exists.intro; refine ⟨fun _ => ?_, hK _ _ ?_⟩; fail)) | (refine First.wpF_free (fun K hK => ?_); go_simp; first | (refine hK _ _ ?_; clear hK K))))
        refine First.wpF_must (fun K hK => ?_)
        go_wp2
        (refine hK _ _ (fun hnd => by first | exact Bool.noConfusion hnd | assumption | with_reducible exact grown_alloc _ _ | with_reducible exact First.Grown.refl _ | with_reducible exact First.Grown.cat _ _ _ | with_reducible exact First.Grown.ext _ _) ?_; clear hK K)
        (repeat (first | (refine First.wpF_pure (fun K hK => ?_); go_simp; first | (refine hK _ _ ?_; clear hK K) | (apply Exists.intro; refine ⟨fun _ => ?_, hK _ _ ?_⟩; fail)) | (refine First.wpF_free (fun K hK => ?_); go_simp; first | (refine hK _ _ ?_; clear hK K))))
        refine First.wpF_must (fun K hK => ?_)
        go_wp2
        (refine hK _ _ (fun hnd => by first | exact Bool.noConfusion hnd | assumption | with_reducible exact grown_alloc _ _ | with_reducible exact First.Grown.refl _ | with_reducible exact First.Grown.cat _ _ _ | with_reducible exact First.Grown.ext _ _) ?_; clear hK K)
        refine First.wpF_must (fun K hK => ?_)
        go_wp2
        (refine hK _ _ (fun hnd => by first | exact Bool.noConfusion hnd | assumption | with_reducible exact grown_alloc _ _ | with_reducible exact First.Grown.refl _ | with_reducible exact First.Grown.cat _ _ _ | with_reducible exact First.Grown.ext _ _) ?_; clear hK K)
        refine First.wpF_nil ?_
        go_wp2
        go_ret2
        exact ⟨by rw [HE.out.1, HE.out.2] <;> rfl, by rw [hq]; exact hb01.trans ((World.below_ext _ _).mono (Nat.le_of_lt hB.lt))⟩
end Go.Proofs.Ytghinjnhcepaeaa
