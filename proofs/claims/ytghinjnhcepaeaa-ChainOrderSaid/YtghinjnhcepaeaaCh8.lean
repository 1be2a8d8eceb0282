import Derived.Test.YtghinjnhcepaeaaCh7
/-! The program's chain: Cut. -/
namespace Go.Proofs.Ytghinjnhcepaeaa
open Go.RowKit
set_option linter.unusedVariables false
set_option linter.unusedSimpArgs false
theorem reads_drop {w : World} {B b o n i : Nat} {l : List Ver} (h : Reads w B 6 (some ⟨b, o, none⟩) n (vsV l)) (hi : i ≤ n) : Reads w B 6 (some ⟨b, o + i * 6, none⟩) (n - i) (vsV (l.drop i)) := by
  have hl := vreads_len h
  refine ⟨by rw [vsV_length, List.length_drop, hl], fun hn => ?_⟩
  obtain ⟨ad, e, hb, hc⟩ := h.2 (by omega)
  cases e
  refine ⟨_, rfl, hb, fun j u hu => ?_⟩
  rw [vsV_drop, List.getElem?_drop] at hu
  have := hc _ u hu
  rw [add_plain] at this ⊢
  rwa [Nat.add_assoc]
theorem reads_zero {w : World} {B n : Nat} {A : Option Addr} {l : List Ver} (h : l.length ≤ n) : Reads w B 6 A 0 (vsV (l.drop n)) := by
  rw [List.drop_of_length_le h]
  exact ⟨rfl, fun h => absurd h (by omega)⟩
set_option maxRecDepth 100000 in
set_option maxHeartbeats 4000000 in
theorem vcut_any (A : Option Addr) (n c : Nat) (l : List Ver) (t : Ver) (w : World) (hr : Reads w w.heap.size 6 A n (vsV l)) (hA : A = none ∧ c = 0 ∨ ∃ b o, A = some ⟨b, o, none⟩) (hnc : n ≤ c) (hn : n * 48 ≤ 140737488355328) (hs : Srt l) (hok : ∀ x ∈ l, x.ok) (ht : t.ok) :
    Calls Try.prog 19 #[.slice A n c, .agg #[.int .i64 t.a, .int .u32 t.b, .int .u32 t.c]] w fun e w' => (∃ u, e = .returned u ∧ w'.ownsRow w.heap.size 31 6 u (n - cutI l t.k) (vsV (cutV l t.k))) ∧ Below w.heap.size w w' := by
  have hl := vreads_len hr
  have hr1 := (hr.alloc (Nat.le_refl _) (.cells #[.int .i64 t.a, .int .u32 t.b, .int .u32 t.c] 29)).more (B' := (w.alloc (.cells #[.int .i64 t.a, .int .u32 t.b, .int .u32 t.c] 29)).heap.size) (by simp)
  have hQ := place_any A n c l t _ hr1 (by omega) hs hok ht
  have hC0 := fun (X : Ext) (i : Nat) (A' : Option Addr) (hr' : Reads ((w.alloc (.cells #[.int .i64 t.a, .int .u32 t.b, .int .u32 t.c] 29)).ext X) ((w.alloc (.cells #[.int .i64 t.a, .int .u32 t.b, .int .u32 t.c] 29)).ext X).heap.size 6 A' (n - i) (vsV (l.drop i))) => vclone_any A' (n - i) (c - i) (l.drop i) _ hr' (by omega)
  have hD : ∀ (X : Ext) (i : Nat) (b o : Nat), A = some ⟨b, o, none⟩ → i ≤ n → Reads ((w.alloc (.cells #[.int .i64 t.a, .int .u32 t.b, .int .u32 t.c] 29)).ext X) ((w.alloc (.cells #[.int .i64 t.a, .int .u32 t.b, .int .u32 t.c] 29)).ext X).heap.size 6 (some ⟨b, o + i * 6, none⟩) (n - i) (vsV (l.drop i)) := fun X i b o e hi => by
    subst e
    exact reads_drop (Reads.grown hr1 X) hi
  rcases hm : cntLe l t.k with _ | m
  · have hk : hasK l t.k = false := by
      cases h : hasK l t.k with
      | false => rfl
      | true => have := cntLe_yes hs h; omega
    have hc := cntLe_no hk
    have hcut : cutI l t.k = 0 := by simp [cutI, stand_zero hm, hm]
    rw [cutV, hcut]
    rw [hk, ← hc, hm] at hQ
    have hC := fun X A' hr' => hC0 X 0 A' hr'
    simp only [Nat.sub_zero] at hC hD
    rcases hA with ⟨rfl, rfl⟩ | ⟨b, o, rfl⟩
    · have hn0 : n = 0 := by omega
      subst hn0
      have hC := fun X => hC X none (reads_zero (by omega))
      clear hr hr1 hs hok hC0 hD
      go_enter Try.func19, Try.ntmps19
      go_wp2_with (first | (go_at_call 27; (with_reducible refine (hQ).mono ?_); rintro e w' ⟨rfl, hb⟩; obtain ⟨X, rfl⟩ := World.ext_of_below hb; clear hb) | (go_at_call 30; (with_reducible refine (hC X).mono ?_); rintro e w2 ⟨⟨u, rfl, ho2⟩, hb2⟩))
      go_ret
      have hbx : Below w.heap.size w ((w.alloc (.cells #[.int .i64 t.a, .int .u32 t.b, .int .u32 t.c] 29)).ext X) := by (repeat' (first | with_reducible exact Below.refl _ _ | with_reducible refine Below.ext ?_ ?_ _ | with_reducible refine Below.alloc ?_ ?_ _ | with_reducible refine Below.setCell ?_ ?_ _ | with_reducible refine Below.drew ?_ | with_reducible assumption | (simp [World.size_ext]; done) | (simp [World.size_ext]; omega)))
      exact ⟨⟨_, rfl, own_base ho2 hbx.size⟩, hbx.trans (hb2.mono hbx.size)⟩
    · have hC1 := fun X => hC X _ (hD X 0 b o rfl (by omega))
      by_cases hc0 : c = 0
      · subst hc0
        have hn0 : n = 0 := by omega
        subst hn0
        have hC := fun X => hC X (some ⟨b, o, none⟩) (reads_zero (by omega))
        clear hr hr1 hs hok hC0 hD hC1
        go_enter Try.func19, Try.ntmps19
        go_wp2_with (first | (go_at_call 27; (with_reducible refine (hQ).mono ?_); rintro e w' ⟨rfl, hb⟩; obtain ⟨X, rfl⟩ := World.ext_of_below hb; clear hb) | (go_at_call 30; (with_reducible refine (hC X).mono ?_); rintro e w2 ⟨⟨u, rfl, ho2⟩, hb2⟩))
        go_ret
        have hbx : Below w.heap.size w ((w.alloc (.cells #[.int .i64 t.a, .int .u32 t.b, .int .u32 t.c] 29)).ext X) := by (repeat' (first | with_reducible exact Below.refl _ _ | with_reducible refine Below.ext ?_ ?_ _ | with_reducible refine Below.alloc ?_ ?_ _ | with_reducible refine Below.setCell ?_ ?_ _ | with_reducible refine Below.drew ?_ | with_reducible assumption | (simp [World.size_ext]; done) | (simp [World.size_ext]; omega)))
        exact ⟨⟨_, rfl, own_base ho2 hbx.size⟩, hbx.trans (hb2.mono hbx.size)⟩
      · have hC := hC1
        simp only [Nat.zero_mul, Nat.add_zero] at hC
        clear hr hr1 hs hok hC0 hD hC1
        go_enter Try.func19, Try.ntmps19
        go_wp2_with (first | (go_at_call 27; (with_reducible refine (hQ).mono ?_); rintro e w' ⟨rfl, hb⟩; obtain ⟨X, rfl⟩ := World.ext_of_below hb; clear hb) | (go_at_call 30; (with_reducible refine (hC X).mono ?_); rintro e w2 ⟨⟨u, rfl, ho2⟩, hb2⟩))
        go_ret
        have hbx : Below w.heap.size w ((w.alloc (.cells #[.int .i64 t.a, .int .u32 t.b, .int .u32 t.c] 29)).ext X) := by (repeat' (first | with_reducible exact Below.refl _ _ | with_reducible refine Below.ext ?_ ?_ _ | with_reducible refine Below.alloc ?_ ?_ _ | with_reducible refine Below.setCell ?_ ?_ _ | with_reducible refine Below.drew ?_ | with_reducible assumption | (simp [World.size_ext]; done) | (simp [World.size_ext]; omega)))
        exact ⟨⟨_, rfl, own_base ho2 hbx.size⟩, hbx.trans (hb2.mono hbx.size)⟩
  · obtain ⟨x, hx⟩ : ∃ x, l[m]? = some x := ⟨l[m]'(by have := cntLe_le l t.k; omega), List.getElem?_eq_getElem _⟩
    have hmn : m < n := by have := cntLe_le l t.k; omega
    have hmi : (m : Int) < n := by omega
    obtain ⟨b, o, rfl, hbb, hcw⟩ := hr.plain (by omega) (by omega)
    have m0 : (w).cell? ⟨b, o + m * 6, none⟩ = some (.int .i64 (x).a) := hcw _ _ (vsV_get hx 0 _ rfl); have m1 : (w).cell? ⟨b, o + m * 6 + 1, none⟩ = some (.int .u32 (x).b) := hcw _ _ (vsV_get hx 1 _ rfl); have m2 : (w).cell? ⟨b, o + m * 6 + 2, none⟩ = some (.int .u32 (x).c) := hcw _ _ (vsV_get hx 2 _ rfl); have m3 : (w).cell? ⟨b, o + m * 6 + 3, none⟩ = some (.int .i64 (x).kd) := hcw _ _ (vsV_get hx 3 _ rfl); have m4 : (w).cell? ⟨b, o + m * 6 + 4, none⟩ = some (.int .i64 (x).num) := hcw _ _ (vsV_get hx 4 _ rfl); have m5 : (w).cell? ⟨b, o + m * 6 + 5, none⟩ = some (.string (x).text) := hcw _ _ (vsV_get hx 5 _ rfl)
    have hb1 : b < w.heap.size + 1 := by omega
    have hcm : ¬ c = m := by omega
    have hmn' : m ≤ n := by omega
    have hmn2 : m + 1 ≤ n := by omega
    have hmi2 : (m : Int) + 1 ≤ n := by omega
    have hmi3 : (m : Int) ≤ n := by omega
    have hmi0 : (0 : Int) ≤ (m : Int) + 1 := by omega
    have hmt : ((m : Int) + 1).toNat = m + 1 := by omega
    have hC2 := fun X => hC0 X m _ (hD X m b o rfl (by omega))
    have hC3 := fun X => hC0 X (m + 1) _ (hD X (m + 1) b o rfl (by omega))
    cases hk : hasK l t.k with
    | true =>
      have hc := cntLe_yes hs hk
      have hc' : cntK l t.k = m := by omega
      rw [hk, hc'] at hQ
      by_cases h3 : x.kd = 3
      · have hcut : cutI l t.k = m + 1 := by simp [cutI, stand_some hm hx, h3, hm]
        rw [cutV, hcut]
        rw [h3] at m3
        by_cases hcc : c = m + 1
        · subst hcc
          obtain rfl : n = m + 1 := by omega
          have hC := fun X => hC0 X (m + 1) (some ⟨b, o, none⟩) (by rw [Nat.sub_self]; exact reads_zero (by omega))
          clear hr hr1 hs hok hC0 hD hC2 hC3 hcw
          simp only [Nat.sub_self] at hC ⊢
          go_enter Try.func19, Try.ntmps19
          go_wp2_with (first | (go_at_call 27; (with_reducible refine (hQ).mono ?_); rintro e w' ⟨rfl, hb⟩; obtain ⟨X, rfl⟩ := World.ext_of_below hb; clear hb) | (go_at_call 30; (with_reducible refine (hC X).mono ?_); rintro e w2 ⟨⟨u, rfl, ho2⟩, hb2⟩))
          go_ret
          have hbx : Below w.heap.size w ((w.alloc (.cells #[.int .i64 t.a, .int .u32 t.b, .int .u32 t.c] 29)).ext X) := by (repeat' (first | with_reducible exact Below.refl _ _ | with_reducible refine Below.ext ?_ ?_ _ | with_reducible refine Below.alloc ?_ ?_ _ | with_reducible refine Below.setCell ?_ ?_ _ | with_reducible refine Below.drew ?_ | with_reducible assumption | (simp [World.size_ext]; done) | (simp [World.size_ext]; omega)))
          exact ⟨⟨_, rfl, own_base ho2 hbx.size⟩, hbx.trans (hb2.mono hbx.size)⟩
        · have hC := hC3
          clear hr hr1 hs hok hC0 hD hC2 hC3 hcw
          go_enter Try.func19, Try.ntmps19
          go_wp2_with (first | (go_at_call 27; (with_reducible refine (hQ).mono ?_); rintro e w' ⟨rfl, hb⟩; obtain ⟨X, rfl⟩ := World.ext_of_below hb; clear hb) | (go_at_call 30; (with_reducible refine (hC X).mono ?_); rintro e w2 ⟨⟨u, rfl, ho2⟩, hb2⟩))
          go_ret
          have hbx : Below w.heap.size w ((w.alloc (.cells #[.int .i64 t.a, .int .u32 t.b, .int .u32 t.c] 29)).ext X) := by (repeat' (first | with_reducible exact Below.refl _ _ | with_reducible refine Below.ext ?_ ?_ _ | with_reducible refine Below.alloc ?_ ?_ _ | with_reducible refine Below.setCell ?_ ?_ _ | with_reducible refine Below.drew ?_ | with_reducible assumption | (simp [World.size_ext]; done) | (simp [World.size_ext]; omega)))
          exact ⟨⟨_, rfl, own_base ho2 hbx.size⟩, hbx.trans (hb2.mono hbx.size)⟩
      · have hcut : cutI l t.k = m := by simp [cutI, stand_some hm hx, h3, hm]
        rw [cutV, hcut]
        have h3' : (x.kd == 3) = false := by simpa using h3
        have hC := hC2
        clear hr hr1 hs hok hC0 hD hC2 hC3 hcw
        go_enter Try.func19, Try.ntmps19
        go_wp2_with (first | (go_at_call 27; (with_reducible refine (hQ).mono ?_); rintro e w' ⟨rfl, hb⟩; obtain ⟨X, rfl⟩ := World.ext_of_below hb; clear hb) | (go_at_call 30; (with_reducible refine (hC X).mono ?_); rintro e w2 ⟨⟨u, rfl, ho2⟩, hb2⟩))
        go_ret
        have hbx : Below w.heap.size w ((w.alloc (.cells #[.int .i64 t.a, .int .u32 t.b, .int .u32 t.c] 29)).ext X) := by (repeat' (first | with_reducible exact Below.refl _ _ | with_reducible refine Below.ext ?_ ?_ _ | with_reducible refine Below.alloc ?_ ?_ _ | with_reducible refine Below.setCell ?_ ?_ _ | with_reducible refine Below.drew ?_ | with_reducible assumption | (simp [World.size_ext]; done) | (simp [World.size_ext]; omega)))
        exact ⟨⟨_, rfl, own_base ho2 hbx.size⟩, hbx.trans (hb2.mono hbx.size)⟩
    | false =>
      have hc := cntLe_no hk
      have hc' : cntK l t.k = m + 1 := by omega
      rw [hk, hc'] at hQ
      by_cases h3 : x.kd = 3
      · have hcut : cutI l t.k = m + 1 := by simp [cutI, stand_some hm hx, h3, hm]
        rw [cutV, hcut]
        rw [h3] at m3
        by_cases hcc : c = m + 1
        · subst hcc
          obtain rfl : n = m + 1 := by omega
          have hC := fun X => hC0 X (m + 1) (some ⟨b, o, none⟩) (by rw [Nat.sub_self]; exact reads_zero (by omega))
          clear hr hr1 hs hok hC0 hD hC2 hC3 hcw
          simp only [Nat.sub_self] at hC ⊢
          go_enter Try.func19, Try.ntmps19
          go_wp2_with (first | (go_at_call 27; (with_reducible refine (hQ).mono ?_); rintro e w' ⟨rfl, hb⟩; obtain ⟨X, rfl⟩ := World.ext_of_below hb; clear hb) | (go_at_call 30; (with_reducible refine (hC X).mono ?_); rintro e w2 ⟨⟨u, rfl, ho2⟩, hb2⟩))
          go_ret
          have hbx : Below w.heap.size w ((w.alloc (.cells #[.int .i64 t.a, .int .u32 t.b, .int .u32 t.c] 29)).ext X) := by (repeat' (first | with_reducible exact Below.refl _ _ | with_reducible refine Below.ext ?_ ?_ _ | with_reducible refine Below.alloc ?_ ?_ _ | with_reducible refine Below.setCell ?_ ?_ _ | with_reducible refine Below.drew ?_ | with_reducible assumption | (simp [World.size_ext]; done) | (simp [World.size_ext]; omega)))
          exact ⟨⟨_, rfl, own_base ho2 hbx.size⟩, hbx.trans (hb2.mono hbx.size)⟩
        · have hC := hC3
          clear hr hr1 hs hok hC0 hD hC2 hC3 hcw
          go_enter Try.func19, Try.ntmps19
          go_wp2_with (first | (go_at_call 27; (with_reducible refine (hQ).mono ?_); rintro e w' ⟨rfl, hb⟩; obtain ⟨X, rfl⟩ := World.ext_of_below hb; clear hb) | (go_at_call 30; (with_reducible refine (hC X).mono ?_); rintro e w2 ⟨⟨u, rfl, ho2⟩, hb2⟩))
          go_ret
          have hbx : Below w.heap.size w ((w.alloc (.cells #[.int .i64 t.a, .int .u32 t.b, .int .u32 t.c] 29)).ext X) := by (repeat' (first | with_reducible exact Below.refl _ _ | with_reducible refine Below.ext ?_ ?_ _ | with_reducible refine Below.alloc ?_ ?_ _ | with_reducible refine Below.setCell ?_ ?_ _ | with_reducible refine Below.drew ?_ | with_reducible assumption | (simp [World.size_ext]; done) | (simp [World.size_ext]; omega)))
          exact ⟨⟨_, rfl, own_base ho2 hbx.size⟩, hbx.trans (hb2.mono hbx.size)⟩
      · have hcut : cutI l t.k = m := by simp [cutI, stand_some hm hx, h3, hm]
        rw [cutV, hcut]
        have h3' : (x.kd == 3) = false := by simpa using h3
        have hC := hC2
        clear hr hr1 hs hok hC0 hD hC2 hC3 hcw
        go_enter Try.func19, Try.ntmps19
        go_wp2_with (first | (go_at_call 27; (with_reducible refine (hQ).mono ?_); rintro e w' ⟨rfl, hb⟩; obtain ⟨X, rfl⟩ := World.ext_of_below hb; clear hb) | (go_at_call 30; (with_reducible refine (hC X).mono ?_); rintro e w2 ⟨⟨u, rfl, ho2⟩, hb2⟩))
        go_ret
        have hbx : Below w.heap.size w ((w.alloc (.cells #[.int .i64 t.a, .int .u32 t.b, .int .u32 t.c] 29)).ext X) := by (repeat' (first | with_reducible exact Below.refl _ _ | with_reducible refine Below.ext ?_ ?_ _ | with_reducible refine Below.alloc ?_ ?_ _ | with_reducible refine Below.setCell ?_ ?_ _ | with_reducible refine Below.drew ?_ | with_reducible assumption | (simp [World.size_ext]; done) | (simp [World.size_ext]; omega)))
        exact ⟨⟨_, rfl, own_base ho2 hbx.size⟩, hbx.trans (hb2.mono hbx.size)⟩
end Go.Proofs.Ytghinjnhcepaeaa
