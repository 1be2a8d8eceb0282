import Derived.Test.YtjhcgnmibnjocaaGA
import Derived.Deep.AppendSrc
import Derived.Test.YtjhcgnmibnjocaaGB
/-! Several texts in one. -/
/-! A view; a control in memory. -/
namespace Go.Proofs.Ytjhcgnmibnjocaa
open Go.RowKit
set_option linter.unusedVariables false
set_option linter.unusedSimpArgs false
def okN (l : List Int) (i : Nat) : Bool := ((l[i]?).map fun x => decide (0 ≤ x) && decide (x < 8) && (i == 0 || ((l[i - 1]?).map fun y => decide (y < x)).getD false)).getD false
def upB (l : List Int) : Bool := (List.range l.length).all (okN l)
def risingB (l : List Int) : Bool := upB l && decide (0 < l.length)
theorem upB_of {l : List Int} (h : ∀ i, i < l.length → okN l i = true) : upB l = true := by
  unfold upB
  rw [List.all_eq_true]
  exact fun i hi => h i (by simpa using hi)
theorem upB_not {l : List Int} {i : Nat} (hi : i < l.length) (h : okN l i = false) : upB l = false := by
  unfold upB
  rw [List.all_eq_false]
  exact ⟨i, by simpa using hi, by rw [h]; decide⟩
theorem okN_zero {l : List Int} {x : Int} (h : l[0]? = some x) : okN l 0 = (decide (0 ≤ x) && decide (x < 8)) := by unfold okN; rw [h]; simp
theorem okN_succ {l : List Int} {x y : Int} {m : Nat} (h : l[m + 1]? = some x) (h' : l[m]? = some y) : okN l (m + 1) = (decide (0 ≤ x) && decide (x < 8) && decide (y < x)) := by unfold okN; rw [h]; simp [h']
theorem okN_lo {l : List Int} {x : Int} {j : Nat} (h : l[j]? = some x) (hp : ¬(0 ≤ x ∧ x < 8)) : okN l j = false := by
  unfold okN
  rw [h]
  by_cases h1 : 0 ≤ x
  · have : ¬x < 8 := fun h2 => hp ⟨h1, h2⟩
    simp [this]
  · simp [h1]
set_option maxRecDepth 100000 in
set_option maxHeartbeats 1000000 in
theorem rising_any (A : Option Addr) (n c : Nat) (l : List Int) (w : World) (hr : Reads w w.heap.size 1 A n (ints l)) (hn : n ≤ 9223372036854775807) :
    Calls Try.prog 89 #[.slice A n c] w fun e w' => e = .returned (.bool (risingB l)) ∧ w' = w := by
  have hl := reads_len hr
  go_enter Try.func89, Try.ntmps89
  go_wp2
  go_loopw [7] (fun s wr => ∃ j : Nat, j ≤ n ∧ s = .int .i64 (j : Int) ∧ (∀ i, i < j → okN l i = true) ∧ wr = w) (fun s _ => ((n : Int) - intOf s).toNat)
  case atStart => exact ⟨0, by omega, rfl, fun i hi => by omega, rfl⟩
  case round =>
    obtain ⟨j, hj, rfl, hok, rfl⟩ := hrel
    obtain ⟨wo, rfl⟩ : ∃ wo : World, wo = wr := ⟨_, rfl⟩
    by_cases hlt : j < n
    · obtain ⟨b, o, rfl, hbb, hc⟩ := hr.plain (by omega) (by omega)
      have hg : l[j]? = some l[j] := List.getElem?_eq_getElem (by omega)
      have m1 := hc _ _ (ints_get hg)
      have hlj : (j : Int) < n := by omega
      generalize l[j] = x at *
      by_cases h1 : 0 ≤ x
      · have c1 : decide (x < 0) = false := by simp; omega
        by_cases h2 : x < 8
        · have c2 : decide (8 ≤ x) = false := by simp; omega
          rcases Nat.eq_zero_or_pos j with h0 | h0
          · subst h0
            simp only [Nat.zero_mul, Nat.add_zero] at m1
            rw [show ((0 : Nat) : Int) = 0 from rfl]
            have HO : Hid (∀ i, i < 1 → okN l i = true) := show ∀ i, i < 1 → okN l i = true from fun i hi => by
              obtain rfl : i = 0 := by omega
              rw [okN_zero hg]
              simp [h1, h2]
            clear hc hok hr hg h1 h2
            go_wp2
            go_roundw
            case rel => exact ⟨1, by omega, rfl, HO.out, by trivial⟩
            case measure => simp [intOf]; omega
          · obtain ⟨m, rfl⟩ : ∃ m, j = m + 1 := ⟨j - 1, by omega⟩
            have hg' : l[m]? = some l[m] := List.getElem?_eq_getElem (by omega)
            have m3 := hc _ _ (ints_get hg')
            have HO := hide (okN_succ hg hg')
            have hml : m < l.length := by omega
            generalize l[m] = y at *
            by_cases h3 : y < x
            · have c3 : decide (x ≤ y) = false := by simp; omega
              have HK : Hid (∀ i, i < m + 1 + 1 → okN l i = true) := show ∀ i, i < m + 1 + 1 → okN l i = true from fun i hi => by
                rcases Nat.lt_or_ge i (m + 1) with h' | h'
                · exact hok i h'
                · obtain rfl : i = m + 1 := by omega
                  rw [HO.out]
                  simp [h1, h2, h3]
              clear hc hok hr hg hg' h1 h2 HO
              go_wp2
              go_roundw
              case rel => exact ⟨m + 1 + 1, by omega, by go_num, HK.out, by trivial⟩
              case measure => simp [intOf]; omega
            · have c3 : decide (x ≤ y) = true := by simp; omega
              have HF : Hid (risingB l = false) := show risingB l = false from by
                unfold risingB
                rw [upB_not (i := m + 1) (by omega) (by rw [HO.out]; simp [h3])]
                rfl
              clear hc hok hr hg hg' h1 h2 HO
              go_wp2
              go_ret
              exact ⟨by rw [HF.out] <;> rfl, rfl⟩
        · have c2 : decide (8 ≤ x) = true := by simp; omega
          have HF : Hid (risingB l = false) := show risingB l = false from by
            unfold risingB
            rw [upB_not (i := j) (by omega) (okN_lo hg (by omega))]
            rfl
          clear hc hok hr hg h1 h2
          go_wp2
          go_ret
          exact ⟨by rw [HF.out] <;> rfl, rfl⟩
      · have c1 : decide (x < 0) = true := by simp; omega
        have HF : Hid (risingB l = false) := show risingB l = false from by
          unfold risingB
          rw [upB_not (i := j) (by omega) (okN_lo hg (by omega))]
          rfl
        clear hc hok hr hg h1
        go_wp2
        go_ret
        exact ⟨by rw [HF.out] <;> rfl, rfl⟩
    · obtain rfl : j = n := by omega
      have HF : Hid (risingB l = decide (0 < (j : Int))) := show risingB l = decide (0 < (j : Int)) from by
        unfold risingB
        rw [upB_of (fun i hi => hok i (by omega)), hl]
        simp
      clear hok
      go_wp2
      go_ret
      exact ⟨by rw [HF.out]; simp, rfl⟩
/-- A row of ints that lies whole in a block. -/
def RowAt (w : World) (b : Nat) (l : List Int) (cap : Nat) : Prop := ∃ cs, Blk w b 3 cs ∧ cs.size = cap ∧ l.length ≤ cap ∧ cap ≤ maxLen ∧ cs.toList.take l.length = ints l
theorem RowAt.own {w : World} {b base cap : Nat} {l : List Int} (h : RowAt w b l cap) (hb : base ≤ b) : w.ownsRow base 3 1 (.slice (some ⟨b, 0, none⟩) l.length cap) l.length (ints l) := by
  obtain ⟨cs, h1, h2, h3, h4, h5⟩ := h
  exact h1.own hb h3 h4 (by omega) (by rw [Nat.mul_one]; exact h5) (by simp [ints_length])
theorem RowAt.reads {w : World} {b cap : Nat} {l : List Int} (h : RowAt w b l cap) : Reads w w.heap.size 1 (some ⟨b, 0, none⟩) l.length (ints l) := Reads.of_own (h.own (Nat.zero_le _))
theorem RowAt.lt {w : World} {b cap : Nat} {l : List Int} (h : RowAt w b l cap) : b < w.heap.size := by obtain ⟨cs, h1, _⟩ := h; exact h1.lt
theorem RowAt.keep {w w' : World} {b cap : Nat} {l : List Int} (h : RowAt w b l cap) (hk : w'.heap[b]? = w.heap[b]?) : RowAt w' b l cap := by obtain ⟨cs, h1, h2⟩ := h; exact ⟨cs, hk.trans h1, h2⟩
theorem RowAt.of_own {w : World} {base : Nat} {v : Value} {l : List Int} (h : w.ownsRow base 3 1 v l.length (ints l)) (h0 : 0 < l.length) : ∃ b cap, v = .slice (some ⟨b, 0, none⟩) l.length cap ∧ base ≤ b ∧ RowAt w b l cap := by
  rcases h.2 with ⟨_, h'⟩ | ⟨g, cap, cur, rfl, hb, hh, hnc, hm, hsz, htk⟩
  · omega
  · exact ⟨g, cap, rfl, hb, cur, hh, by omega, hnc, hm, by rw [Nat.mul_one] at htk; exact htk⟩
theorem RowAt.of_own' {w : World} {base n : Nat} {v : Value} {l : List Int} (h : w.ownsRow base 3 1 v n (ints l)) (h0 : 0 < n) (hl : l.length = n) : ∃ b cap, v = .slice (some ⟨b, 0, none⟩) n cap ∧ base ≤ b ∧ RowAt w b l cap := by
  subst hl
  exact RowAt.of_own h h0
theorem RowAt.ext {w : World} {b cap : Nat} {l : List Int} (h : RowAt w b l cap) (X : Ext) : RowAt (w.ext X) b l cap := h.keep (World.heap_ext h.lt)
theorem RowAt.alloc {w : World} {b cap : Nat} {l : List Int} (h : RowAt w b l cap) (o : Obj) : RowAt (w.alloc o) b l cap := h.keep (Below.heap_alloc w o b h.lt)
theorem RowAt.set_ {w : World} {b cap : Nat} {l : List Int} (h : RowAt w b l cap) {p : Addr} (hp : b ≠ p.block) (u : Value) : RowAt (w.setCell p u) b l cap := h.keep (Below.heap_setCell w p u b hp)
theorem vgrown_alloc (w : World) (o : Obj) : First.Grown w (w.alloc o) := World.ext_of_below (Below.alloc (Below.refl _ _) (Nat.le_refl _) o)
structure Vw where
  e : Int
  p : Int
  ms : List Int
  ss : List Int
def Ctl (w : World) (g bm bs : Nat) (k : Vw) : Prop := ∃ cm cs, Blk w g 151 #[.int .i64 k.e, .int .i64 k.p, .slice (some ⟨bm, 0, none⟩) k.ms.length cm, .slice (some ⟨bs, 0, none⟩) k.ss.length cs] ∧ RowAt w bm k.ms cm ∧ RowAt w bs k.ss cs ∧ g ≠ bm ∧ g ≠ bs ∧ bm ≠ bs
theorem Ctl.keep {w w' : World} {g bm bs : Nat} {k : Vw} (h : Ctl w g bm bs k) (hg : w'.heap[g]? = w.heap[g]?) (hm : w'.heap[bm]? = w.heap[bm]?) (hs : w'.heap[bs]? = w.heap[bs]?) : Ctl w' g bm bs k := by
  obtain ⟨cm, cs, h1, h2, h3, h4⟩ := h
  exact ⟨cm, cs, hg.trans h1, h2.keep hm, h3.keep hs, h4⟩
theorem Ctl.lt {w : World} {g bm bs : Nat} {k : Vw} (h : Ctl w g bm bs k) : g < w.heap.size ∧ bm < w.heap.size ∧ bs < w.heap.size := by
  obtain ⟨cm, cs, h1, h2, h3, h4⟩ := h
  exact ⟨h1.lt, h2.lt, h3.lt⟩
theorem Ctl.below {w w' : World} {g bm bs : Nat} {k : Vw} (h : Ctl w g bm bs k) (hb : Below w.heap.size w w') : Ctl w' g bm bs k :=
  h.keep (hb.block _ h.lt.1) (hb.block _ h.lt.2.1) (hb.block _ h.lt.2.2)
structure Vw.ok (k : Vw) : Prop where
  e : 1 ≤ k.e ∧ k.e ≤ 4611686018427387904
  up : risingB k.ms = true
  p : k.p ∈ k.ms
  ps : k.p ∈ k.ss
  sub : ∀ x ∈ k.ss, x ∈ k.ms
  mb : k.ms.length * 8 ≤ 140737488355328
  sb : k.ss.length * 8 ≤ 140737488355328
theorem own_keep {w w' : World} {base size n : Nat} {e : TypeId} {v : Value} {xs : List Value} (h : w.ownsRow base e size v n xs) (hk : ∀ k, base ≤ k → k < w.heap.size → w'.heap[k]? = w.heap[k]?) : w'.ownsRow base e size v n xs := by
  refine ⟨h.1, ?_⟩
  rcases h.2 with h' | ⟨g, cap, cur, hv, hb, hh, r⟩
  · exact .inl h'
  · exact .inr ⟨g, cap, cur, hv, hb, (hk g hb (Blk.lt hh)).trans hh, r⟩
theorem own_sl {base : Nat} {e : TypeId} {size n : Nat} {w : World} {v : Value} {xs : List Value} (h : w.ownsRow base e size v n xs) : ∃ A cap, v = .slice A n cap ∧ n ≤ cap := by
  rcases h.2 with ⟨rfl, rfl⟩ | ⟨g, cap, cur, rfl, _, _, hnc, _⟩
  · exact ⟨_, _, rfl, Nat.le_refl _⟩
  · exact ⟨_, _, rfl, hnc⟩
theorem own_set {w : World} {base size n : Nat} {e : TypeId} {v : Value} {xs : List Value} (h : w.ownsRow base e size v n xs) {p : Addr} (hp : p.block < base) (u : Value) : (w.setCell p u).ownsRow base e size v n xs :=
  own_keep h fun k hk _ => Below.heap_setCell w p u k (by omega)
theorem own_ext {w : World} {base size n : Nat} {e : TypeId} {v : Value} {xs : List Value} (h : w.ownsRow base e size v n xs) (X : Ext) : (w.ext X).ownsRow base e size v n xs :=
  own_keep h fun k _ hk => World.heap_ext hk
theorem own_alloc {w : World} {base size n : Nat} {e : TypeId} {v : Value} {xs : List Value} (h : w.ownsRow base e size v n xs) (o : Obj) : (w.alloc o).ownsRow base e size v n xs :=
  own_keep h fun k _ hk => Below.heap_alloc w o k hk
theorem own_low {w : World} {base base' size n : Nat} {e : TypeId} {v : Value} {xs : List Value} (h : w.ownsRow base e size v n xs) (hb : base' ≤ base) : w.ownsRow base' e size v n xs := by
  refine ⟨h.1, ?_⟩
  rcases h.2 with h' | ⟨g, cap, cur, hv, hg, r⟩
  · exact .inl h'
  · exact .inr ⟨g, cap, cur, hv, by omega, r⟩
theorem twin_any (e p : Int) (A : Option Addr) (n c : Nat) (l : List Int) (w : World) (hr : Reads w w.heap.size 1 A n (ints l)) (hn : n * 8 ≤ 140737488355328) :
    Calls Try.prog 88 #[.agg #[.int .i64 e, .int .i64 p, .slice A n c]] w fun r w' => (∃ v, r = .returned (.agg #[.int .i64 e, .int .i64 p, v]) ∧ w'.ownsRow w.heap.size 3 1 v n (ints l)) ∧ Below w.heap.size w w' := by
  have hk : ∀ o1 o2, _ := fun o1 o2 => clone_any A n c l ((w.alloc o1).alloc o2) (((hr.alloc (Nat.le_refl _) o1).alloc (by simp) o2).more (by simp; omega)) hn
  go_enter Try.func88, Try.ntmps88
  go_wp2_with ((go_at_call 40; (with_reducible refine (hk _ _).mono ?_); rintro e w1 ⟨⟨v, rfl, ho⟩, hb1⟩; obtain ⟨A1, cap, rfl, hcap⟩ := own_sl ho; obtain ⟨X, rfl⟩ := World.ext_of_below hb1; clear hb1))
  refine bodyPost_cell Try.results88 rfl (Blk.three (Blk.far (Blk.ext (Blk.made w _ _ _) X) (by simp) _)) Try.underlying39 rfl (by kernel_rfl) rfl ⟨⟨_, rfl, ?_⟩, by (repeat' (first | with_reducible exact Below.refl _ _ | with_reducible refine Below.ext ?_ ?_ _ | with_reducible refine Below.alloc ?_ ?_ _ | with_reducible refine Below.setCell ?_ ?_ _ | with_reducible refine Below.drew ?_ | with_reducible assumption | (simp [World.size_ext]; done) | (simp [World.size_ext]; omega)))⟩
  exact own_low (own_set (own_set (own_set (own_set ho (by simp; omega) _) (by simp) _) (by simp) _) (by simp) _) (by simp; omega)
theorem now_nil (w : World) :
    Calls Try.prog 37 #[.pointer none] w fun r w' => r = .returned (.agg #[.int .i64 0, .int .i64 0, .slice none 0 0]) ∧ Below w.heap.size w w' := by
  go_enter Try.func37, Try.ntmps37
  go_wp2
  refine bodyPost_cell Try.results37 rfl (Blk.new w _ _) Try.underlying39 rfl (by kernel_rfl) rfl ⟨rfl, by (repeat' (first | with_reducible exact Below.refl _ _ | with_reducible refine Below.ext ?_ ?_ _ | with_reducible refine Below.alloc ?_ ?_ _ | with_reducible refine Below.setCell ?_ ?_ _ | with_reducible refine Below.drew ?_ | with_reducible assumption | (simp [World.size_ext]; done) | (simp [World.size_ext]; omega)))⟩
theorem now_any (g bm bs : Nat) (k : Vw) (w : World) (h : Ctl w g bm bs k) (hn : k.ms.length * 8 ≤ 140737488355328) :
    Calls Try.prog 37 #[.pointer (some ⟨g, 0, none⟩)] w fun r w' => (∃ v, r = .returned (.agg #[.int .i64 k.e, .int .i64 k.p, v]) ∧ w'.ownsRow w.heap.size 3 1 v k.ms.length (ints k.ms)) ∧ Below w.heap.size w w' := by
  obtain ⟨cm, cs, h1, h2, h3, h4⟩ := h
  have c1 := h1.cell
  have l1 := h1.lt
  have hr := h2.reads
  have hk : ∀ o1, _ := fun o1 => twin_any k.e k.p _ _ cm k.ms (w.alloc o1) ((hr.alloc (Nat.le_refl _) o1).more (by simp)) hn
  clear hr h2 h3 h4 h1
  go_enter Try.func37, Try.ntmps37
  go_wp2_with (go_at_call 88; (with_reducible refine (hk _).mono ?_); rintro e w1 ⟨⟨v, rfl, ho⟩, hb1⟩; obtain ⟨A1, cap, rfl, hcap⟩ := own_sl ho; obtain ⟨X, rfl⟩ := World.ext_of_below hb1; clear hb1)
  refine bodyPost_cell Try.results37 rfl (Blk.three (Blk.ext (Blk.new w _ _) X)) Try.underlying39 rfl (by kernel_rfl) rfl ⟨⟨_, rfl, ?_⟩, by (repeat' (first | with_reducible exact Below.refl _ _ | with_reducible refine Below.ext ?_ ?_ _ | with_reducible refine Below.alloc ?_ ?_ _ | with_reducible refine Below.setCell ?_ ?_ _ | with_reducible refine Below.drew ?_ | with_reducible assumption | (simp [World.size_ext]; done) | (simp [World.size_ext]; omega)))⟩
  exact own_low (own_set (own_set (own_set ho (by simp) _) (by simp) _) (by simp) _) (by simp)
theorem safe_nil (w : World) :
    Calls Try.prog 39 #[.pointer none] w fun r w' => r = .returned (.slice none 0 0) ∧ w' = w := by
  go_enter Try.func39, Try.ntmps39
  go_wp2
  go_ret
  exact ⟨rfl, rfl⟩
theorem safe_any (g bm bs : Nat) (k : Vw) (w : World) (h : Ctl w g bm bs k) (hn : k.ss.length * 8 ≤ 140737488355328) :
    Calls Try.prog 39 #[.pointer (some ⟨g, 0, none⟩)] w fun r w' => (∃ v, r = .returned v ∧ w'.ownsRow w.heap.size 3 1 v k.ss.length (ints k.ss)) ∧ Below w.heap.size w w' := by
  obtain ⟨cm, cs, h1, h2, h3, h4⟩ := h
  have c1 := h1.cell
  have l1 := h1.lt
  have hk := clone_any _ _ cs k.ss w h3.reads hn
  clear h2 h3 h4 h1
  go_enter Try.func39, Try.ntmps39
  go_wp2_with (go_at_call 40; (with_reducible refine hk.mono ?_); rintro e w1 ⟨⟨v, rfl, ho⟩, hb1⟩)
  go_ret
  exact ⟨⟨v, rfl, ho⟩, hb1⟩
theorem new_no (A : Option Addr) (n c : Nat) (l : List Int) (w : World) (hr : Reads w w.heap.size 1 A n (ints l)) (hn : n * 8 ≤ 140737488355328) (hu : risingB l = false) :
    Calls Try.prog 83 #[.slice A n c] w fun r w' => r = .returned (.tuple #[.pointer none, .int .i64 1]) ∧ w' = w := by
  have hk := rising_any A n c l w hr (by omega)
  rw [hu] at hk
  go_enter Try.func83, Try.ntmps83
  go_wp2_with (go_at_call 89; (with_reducible refine hk.mono ?_); rintro e w1 ⟨rfl, rfl⟩)
  refine bodyPost_ret (v := .tuple #[.pointer none, .int .i64 1]) (by simp [results, Try.results83, go_sem] <;> rfl) rfl ⟨rfl, rfl⟩
theorem new_yes (A : Option Addr) (n c : Nat) (x : Int) (l : List Int) (w : World) (hr : Reads w w.heap.size 1 A n (ints (x :: l))) (hn : n * 8 ≤ 140737488355328) (hu : risingB (x :: l) = true) :
    Calls Try.prog 83 #[.slice A n c] w fun r w' => (∃ g bm bs, r = .returned (.tuple #[.pointer (some ⟨g, 0, none⟩), .int .i64 0]) ∧ Ctl w' g bm bs ⟨1, x, x :: l, x :: l⟩ ∧ w.heap.size ≤ g ∧ w.heap.size ≤ bm ∧ w.heap.size ≤ bs) ∧ Below w.heap.size w w' := by
  have hk := rising_any A n c (x :: l) w hr (by omega)
  rw [hu] at hk
  have hl := hide (reads_len hr)
  have hn0 : 0 < n := by have := hl.out; simp at this; omega
  have hn0' : (0 : Int) < n := by omega
  have hcl : ∀ X, _ := fun X => clone_any A _ c (x :: l) (w.ext X) ((hr.ext (Nat.le_refl _) X).more (by simp [World.size_ext])) hn
  have hrk := hr
  obtain ⟨b, o, rfl, hbb, hc⟩ := hr.plain hn0 (by omega)
  have m1 := hc 0 _ (by rfl : (ints (x :: l))[0]? = some _)
  rw [Nat.add_zero] at m1
  clear hc hr
  go_enter Try.func83, Try.ntmps83
  go_wp2_with (go_at_call 89; (with_reducible refine hk.mono ?_); rintro e w1 ⟨rfl, rfl⟩)
  refine First.wp_region_first_ext [2] [0, 1, 3, 5, 6, 8] [(true, false, 0), (true, false, 1), (true, true, 2), (true, false, 3), (true, false, 6), (false, true, 4), (true, false, 5), (false, true, 7), (true, false, 8), (false, true, 9), (false, false, 10), (false, false, 11)] (by kernel_rfl) (by kernel_rfl) (fun X => ?_); simp only [List.map_cons, List.map_nil, List.getD_cons_zero, List.getD_cons_succ]
  (repeat (first | (refine First.wpF_pure (fun K hK => ?_); go_simp; first | (refine hK _ _ ?_; clear hK K) | (apply Exists.intro; refine ⟨fun _ => ?_, hK _ _ ?_⟩; fail)) | (refine First.wpF_free (fun K hK => ?_); go_simp; first | (refine hK _ _ ?_; clear hK K))))
  refine First.wpF_must (fun K hK => ?_)
  go_wp2_with (go_at_call 40; (with_reducible refine (hcl _).mono ?_); rintro e w2 ⟨⟨v, rfl, ho1⟩, hb1⟩; obtain ⟨b1, k1, rfl, hg1, hR1⟩ := RowAt.of_own' ho1 hn0 hl.out; obtain ⟨Y, rfl⟩ := World.ext_of_below hb1; clear hb1 ho1)
  (refine hK _ _ (fun hnd => by first | exact Bool.noConfusion hnd | assumption | with_reducible exact grown_alloc _ _ | with_reducible exact First.Grown.refl _ | with_reducible exact First.Grown.cat _ _ _ | with_reducible exact First.Grown.ext _ _) ?_; clear hK K)
  (repeat (first | (refine First.wpF_pure (fun K hK => ?_); go_simp; first | (refine hK _ _ ?_; clear hK K) | (apply Exists.intro; refine ⟨fun _ => ?_, hK _ _ ?_⟩; fail)) | (refine First.wpF_free (fun K hK => ?_); go_simp; first | (refine hK _ _ ?_; clear hK K))))
  refine First.wpF_must (fun K hK => ?_)
  go_wp2_with (go_at_call 40; (with_reducible refine (hcl _).mono ?_); rintro e w2 ⟨⟨v, rfl, ho2⟩, hb2⟩; obtain ⟨b2, k2, rfl, hg2, hR2⟩ := RowAt.of_own' ho2 hn0 hl.out; obtain ⟨Z, rfl⟩ := World.ext_of_below hb2; clear hb2 ho2)
  (refine hK _ _ (fun hnd => by first | exact Bool.noConfusion hnd | assumption | with_reducible exact grown_alloc _ _ | with_reducible exact First.Grown.refl _ | with_reducible exact First.Grown.cat _ _ _ | with_reducible exact First.Grown.ext _ _) ?_; clear hK K)
  (repeat (first | (refine First.wpF_pure (fun K hK => ?_); go_simp; first | (refine hK _ _ ?_; clear hK K) | (apply Exists.intro; refine ⟨fun _ => ?_, hK _ _ ?_⟩; fail)) | (refine First.wpF_free (fun K hK => ?_); go_simp; first | (refine hK _ _ ?_; clear hK K))))
  refine First.wpF_must (fun K hK => ?_)
  go_wp2
  (refine hK _ _ (fun hnd => vgrown_alloc _ _) ?_; clear hK K)
  (repeat (first | (refine First.wpF_pure (fun K hK => ?_); go_simp; first | (refine hK _ _ ?_; clear hK K) | (apply Exists.intro; refine ⟨fun _ => ?_, hK _ _ ?_⟩; fail)) | (refine First.wpF_free (fun K hK => ?_); go_simp; first | (refine hK _ _ ?_; clear hK K))))
  refine First.wpF_must (fun K hK => ?_)
  go_wp2
  (refine hK _ _ (fun hnd => by first | exact Bool.noConfusion hnd | assumption | with_reducible exact grown_alloc _ _ | with_reducible exact First.Grown.refl _ | with_reducible exact First.Grown.cat _ _ _ | with_reducible exact First.Grown.ext _ _) ?_; clear hK K)
  refine First.wpF_must (fun K hK => ?_)
  go_wp2
  (refine hK _ _ (fun hnd => by first | exact Bool.noConfusion hnd | assumption | with_reducible exact grown_alloc _ _ | with_reducible exact First.Grown.refl _ | with_reducible exact First.Grown.cat _ _ _ | with_reducible exact First.Grown.ext _ _) ?_; clear hK K)
  refine First.wpF_nil ?_
  go_wp2
  refine bodyPost_ret (v := .tuple #[.pointer (some ⟨w1.heap.size + (X.blocks.size + Y.blocks.size + Z.blocks.size), 0, none⟩), .int .i64 0]) (by simp [results, Try.results83, go_sem] <;> rfl) rfl ⟨⟨_, b1, b2, rfl, ⟨k1, k2, ?_, ?_, ?_, ?_, ?_, ?_⟩, ?_, ?_, ?_⟩, ?_⟩
  · have h := Blk.new (w1.ext ((X.cat Y).cat Z)) 151 #[.int .i64 1, .int .i64 x, .slice (some ⟨b1, 0, none⟩) n k1, .slice (some ⟨b2, 0, none⟩) n k2]
    rw [World.size_ext, Ext.size_cat, Ext.size_cat] at h
    show Blk _ _ _ #[.int .i64 1, .int .i64 x, .slice (some ⟨b1, 0, none⟩) (x :: l).length k1, .slice (some ⟨b2, 0, none⟩) (x :: l).length k2]
    rw [hl.out]
    exact h
  · have h := (hR1.ext Z).alloc (.cells #[.int .i64 1, .int .i64 x, .slice (some ⟨b1, 0, none⟩) n k1, .slice (some ⟨b2, 0, none⟩) n k2] 151)
    rw [World.ext_ext w1 X Y, World.ext_ext w1 (X.cat Y) Z] at h
    exact h
  · have h := hR2.alloc (.cells #[.int .i64 1, .int .i64 x, .slice (some ⟨b1, 0, none⟩) n k1, .slice (some ⟨b2, 0, none⟩) n k2] 151)
    rw [World.ext_ext] at h
    exact h
  all_goals have q1 := hR1.lt
  all_goals have q2 := hR2.lt
  all_goals simp only [World.size_ext, Ext.size_cat] at q1 q2 hg1 hg2
  · omega
  · omega
  · omega
  · omega
  · omega
  · omega
  · (repeat' (first | with_reducible exact Below.refl _ _ | with_reducible refine Below.ext ?_ ?_ _ | with_reducible refine Below.alloc ?_ ?_ _ | with_reducible refine Below.setCell ?_ ?_ _ | with_reducible refine Below.drew ?_ | with_reducible assumption | (simp [World.size_ext]; done) | (simp [World.size_ext]; omega)))
end Go.Proofs.Ytjhcgnmibnjocaa

/-! Whether a view may be; a control that is told that a view is active. -/
namespace Go.Proofs.Ytjhcgnmibnjocaa
open Go.RowKit
set_option linter.unusedVariables false
set_option linter.unusedSimpArgs false
def rightV (e p : Int) (l : List Int) : Bool := decide (1 ≤ e) && decide (e ≤ 4611686018427387904) && risingB l && hasB l p
set_option maxHeartbeats 1000000 in
theorem vright_any (e p : Int) (A : Option Addr) (n c : Nat) (l : List Int) (w : World) (hr : Reads w w.heap.size 1 A n (ints l)) (hn : n ≤ 9223372036854775807) :
    Calls Try.prog 41 #[.agg #[.int .i64 e, .int .i64 p, .slice A n c]] w fun r w' => r = .returned (.bool (rightV e p l)) ∧ Below w.heap.size w w' := by
  have hr' : ∀ o, Reads (w.alloc o) (w.alloc o).heap.size 1 A n (ints l) := fun o => (hr.alloc (Nat.le_refl _) o).more (by simp)
  have hR : ∀ o, _ := fun o => rising_any A n c l (w.alloc o) (hr' o) hn
  have hH : ∀ o, _ := fun o => has_any A n c l p (w.alloc o) (hr' o) hn
  clear hr' hr
  unfold rightV
  by_cases h1 : 1 ≤ e
  · by_cases h2 : e ≤ 4611686018427387904
    · cases hu : risingB l with
      | true =>
        rw [hu] at hR
        rw [decide_eq_true h1, decide_eq_true h2]
        go_enter Try.func41, Try.ntmps41
        go_wp2_with (first | (go_at_call 89; (with_reducible refine (hR _).mono ?_); rintro e w1 ⟨rfl, rfl⟩) | (go_at_call 52; (with_reducible refine (hH _).mono ?_); rintro e w1 ⟨rfl, rfl⟩))
        go_ret
        exact ⟨rfl, by (repeat' (first | with_reducible exact Below.refl _ _ | with_reducible refine Below.ext ?_ ?_ _ | with_reducible refine Below.alloc ?_ ?_ _ | with_reducible refine Below.setCell ?_ ?_ _ | with_reducible refine Below.drew ?_ | with_reducible assumption | (simp [World.size_ext]; done) | (simp [World.size_ext]; omega)))⟩
      | false =>
        rw [hu] at hR
        rw [decide_eq_true h1, decide_eq_true h2]
        go_enter Try.func41, Try.ntmps41
        go_wp2_with (first | (go_at_call 89; (with_reducible refine (hR _).mono ?_); rintro e w1 ⟨rfl, rfl⟩))
        go_ret
        exact ⟨rfl, by (repeat' (first | with_reducible exact Below.refl _ _ | with_reducible refine Below.ext ?_ ?_ _ | with_reducible refine Below.alloc ?_ ?_ _ | with_reducible refine Below.setCell ?_ ?_ _ | with_reducible refine Below.drew ?_ | with_reducible assumption | (simp [World.size_ext]; done) | (simp [World.size_ext]; omega)))⟩
    · rw [decide_eq_true h1, decide_eq_false h2]
      go_enter Try.func41, Try.ntmps41
      go_wp2
      go_ret
      exact ⟨rfl, by (repeat' (first | with_reducible exact Below.refl _ _ | with_reducible refine Below.ext ?_ ?_ _ | with_reducible refine Below.alloc ?_ ?_ _ | with_reducible refine Below.setCell ?_ ?_ _ | with_reducible refine Below.drew ?_ | with_reducible assumption | (simp [World.size_ext]; done) | (simp [World.size_ext]; omega)))⟩
  · rw [decide_eq_false h1]
    go_enter Try.func41, Try.ntmps41
    go_wp2
    go_ret
    exact ⟨rfl, by (repeat' (first | with_reducible exact Below.refl _ _ | with_reducible refine Below.ext ?_ ?_ _ | with_reducible refine Below.alloc ?_ ?_ _ | with_reducible refine Below.setCell ?_ ?_ _ | with_reducible refine Below.drew ?_ | with_reducible assumption | (simp [World.size_ext]; done) | (simp [World.size_ext]; omega)))⟩
/-- Two old blocks are changed at most. -/
structure Both2 (w w' : World) (g s : Nat) : Prop where
  os : w'.os = w.os
  tape : w'.tape = w.tape
  output : w'.output = w.output
  size : w.heap.size ≤ w'.heap.size
  block : ∀ k, k < w.heap.size → k ≠ g → k ≠ s → w'.heap[k]? = w.heap[k]?
theorem Both2.refl (w : World) (g s : Nat) : Both2 w w g s := ⟨rfl, rfl, rfl, Nat.le_refl _, fun _ _ _ _ => rfl⟩
theorem Both2.of_below {w w' : World} {g s : Nat} (h : Below w.heap.size w w') : Both2 w w' g s := ⟨h.os, h.tape, h.output, h.size, fun k hk _ _ => h.block k hk⟩
theorem Both2.of_only {w w' : World} {g s : Nat} (h : Only w w' g) : Both2 w w' g s := ⟨h.os, h.tape, h.output, h.size, fun k hk h1 _ => h.block k hk h1⟩
theorem Both2.trans {w w' w'' : World} {g s : Nat} (h : Both2 w w' g s) (k : Both2 w' w'' g s) : Both2 w w'' g s :=
  ⟨k.os.trans h.os, k.tape.trans h.tape, k.output.trans h.output, Nat.le_trans h.size k.size, fun i hi h1 h2 => (k.block i (Nat.lt_of_lt_of_le hi h.size) h1 h2).trans (h.block i hi h1 h2)⟩
theorem Both2.below {w w' : World} {g s B : Nat} (h : Both2 w w' g s) (hg : B ≤ g) (hs : B ≤ s) (hB : B ≤ w.heap.size) : Below B w w' := ⟨h.os, h.tape, h.output, h.size, fun k hk => h.block k (by omega) (by omega) (by omega)⟩
def activeE (k : Vw) (n : Int) : Int := if n < 1 ∨ k.e < n then 1 else 0
def activeK (k : Vw) (n : Int) : Vw := if n < 1 ∨ k.e < n then k else if n = k.e then { k with ss := k.ms } else k
theorem active_nil (n : Int) (w : World) :
    Calls Try.prog 87 #[.pointer none, .int .i64 n] w fun r w' => r = .returned (.int .i64 2) ∧ w' = w := by
  go_enter Try.func87, Try.ntmps87
  go_wp2
  go_ret
  exact ⟨rfl, rfl⟩
set_option maxHeartbeats 1000000 in
theorem active_any (g bm bs : Nat) (k : Vw) (n : Int) (w : World) (h : Ctl w g bm bs k) (hn : k.ms.length * 8 ≤ 140737488355328) (h0 : 0 < k.ms.length) :
    Calls Try.prog 87 #[.pointer (some ⟨g, 0, none⟩), .int .i64 n] w fun r w' => r = .returned (.int .i64 (activeE k n)) ∧ (∃ bs', Ctl w' g bm bs' (activeK k n) ∧ (bs' = bs ∨ w.heap.size ≤ bs')) ∧ Both2 w w' g bs := by
  have hC := h
  obtain ⟨cm, cs, h1, h2, h3, h4⟩ := h
  have c1 := h1.cell
  have f1 := h1.frozen
  have l1 := h1.lt
  unfold activeE activeK
  by_cases q1 : n < 1
  · rw [if_pos (.inl q1), if_pos (.inl q1)]
    clear h1 h2 h3
    have HC := hide hC
    clear hC
    go_enter Try.func87, Try.ntmps87
    go_wp2
    go_ret
    exact ⟨rfl, ⟨bs, HC.out, .inl rfl⟩, Both2.refl _ _ _⟩
  · have d1 : decide (n < 1) = false := decide_eq_false q1
    by_cases q2 : k.e < n
    · rw [if_pos (.inr q2), if_pos (.inr q2)]
      clear h1 h2 h3
      have HC := hide hC
      clear hC
      go_enter Try.func87, Try.ntmps87
      go_wp2
      go_ret
      exact ⟨rfl, ⟨bs, HC.out, .inl rfl⟩, Both2.refl _ _ _⟩
    · have d2 : decide (k.e < n) = false := decide_eq_false q2
      rw [if_neg (by omega), if_neg (by omega)]
      by_cases q3 : n = k.e
      · rw [if_pos q3]
        have hk := clone_any _ _ cm k.ms w h2.reads hn
        have H := hide (⟨h1, h2, h4⟩ : _ ∧ _ ∧ _)
        clear h1 h2 h3 hC h4
        subst q3
        go_enter Try.func87, Try.ntmps87
        go_wp2_with (go_at_call 40; (with_reducible refine hk.mono ?_); rintro e w1 ⟨⟨v, rfl, ho1⟩, hb1⟩; obtain ⟨b1, k1, rfl, hg1, hR1⟩ := RowAt.of_own' ho1 h0 rfl; obtain ⟨Y, rfl⟩ := World.ext_of_below hb1; clear hb1 ho1)
        go_ret
        obtain ⟨h1, h2, h4⟩ := H.out
        have q2 := h2.lt
        exact ⟨rfl, ⟨b1, ⟨cm, k1, Blk.set_to (Blk.ext h1 Y) rfl, (h2.ext Y).set_ (by exact fun e => h4.1 e.symm) _, hR1.set_ (by show b1 ≠ g; omega) _, h4.1, by omega, by omega⟩, .inr hg1⟩, Both2.of_only (by (repeat' (first | with_reducible exact h1 | with_reducible exact Only.refl _ _ | with_reducible refine Only.set_ ?_ ?_ _ | with_reducible refine Only.alloc ?_ _ | with_reducible refine Only.ext ?_ _ | exact .inl rfl | (right; first | omega | (simp [World.size_ext]; done) | (simp [World.size_ext]; omega)))))⟩
      · rw [if_neg q3]
        have d3 : (n == k.e) = false := by simpa using q3
        have HC := hide hC
        clear hC h1 h2 h3
        go_enter Try.func87, Try.ntmps87
        go_wp2
        go_ret
        exact ⟨rfl, ⟨bs, HC.out, .inl rfl⟩, Both2.refl _ _ _⟩
end Go.Proofs.Ytjhcgnmibnjocaa

/-! slices.IndexFunc, DeleteFunc at a control's own closure. -/
namespace Go.Proofs.Ytjhcgnmibnjocaa
open Go.RowKit
set_option linter.unusedVariables false
set_option linter.unusedSimpArgs false
theorem only_setCells {g : Nat} : ∀ (vs : List Value) (o : Nat) (w : World), Only w (w.setCells g o vs) g
  | [], o, w => Only.refl w g
  | v :: vs, o, w => (Only.setCell w g o v).trans (only_setCells vs (o + 1) (w.setCell ⟨g, o, none⟩ v))
theorem blk_setCells {g : Nat} {t : TypeId} : ∀ (vs : List Value) (o : Nat) (w : World) (cs : Array Value), Blk w g t cs → ∃ cs', Blk (w.setCells g o vs) g t cs' ∧ cs'.size = cs.size ∧ ∀ i, i < o → cs'[i]? = cs[i]?
  | [], o, w, cs, h => ⟨cs, h, rfl, fun _ _ => rfl⟩
  | v :: vs, o, w, cs, h => by
    obtain ⟨cs', h1, h2, h3⟩ := blk_setCells vs (o + 1) (w.setCell ⟨g, o, none⟩ v) _ (h.set_ o v)
    refine ⟨cs', h1, by simpa using h2, fun i hi => (h3 i (by omega)).trans ?_⟩
    rw [Array.getElem?_setIfInBounds_ne (by omega)]
theorem keep_any (q : Nat) (A : Option Addr) (m c : Nat) (ms : List Int) (x : Int) (w : World) (hq : w.cell? ⟨q, 0, none⟩ = some (.slice A m c)) (hr : Reads w w.heap.size 1 A m (ints ms)) (hm : m ≤ 9223372036854775807) :
    Calls Try.prog 114 #[.int .i64 x, .pointer (some ⟨q, 0, none⟩)] w fun e w' => e = .returned (.bool (!hasB ms x)) ∧ w' = w := by
  have hH := has_any A m c ms x w hr hm
  clear hr
  go_enter Try.func114, Try.ntmps114
  go_wp2_with (go_at_call 52; (with_reducible refine hH.mono ?_); rintro e w1 ⟨rfl, rfl⟩)
  go_ret
  exact ⟨rfl, rfl⟩
set_option maxHeartbeats 1000000 in
theorem indexf_any (q b n c : Nat) (l : List Int) (cs : Array Value) (A : Option Addr) (m d : Nat) (ms : List Int) (w : World) (hb : Blk w b 3 cs) (hcs : ∀ (t : Nat) (y : Int), l[t]? = some y → cs[t]? = some (Value.int .i64 y)) (hl : l.length = n) (hn : n ≤ 9223372036854775807)
    (hq : w.cell? ⟨q, 0, none⟩ = some (.slice A m d)) (hr : Reads w w.heap.size 1 A m (ints ms)) (hm : m ≤ 9223372036854775807) :
    Calls Try.prog 116 #[.slice (some ⟨b, 0, none⟩) n c, .func (.func 114) #[] #[.pointer (some ⟨q, 0, none⟩)]] w fun e w' => ((∃ k : Nat, k < n ∧ e = .returned (.int .i64 (k : Int)) ∧ (∀ y, l[k]? = some y → hasB ms y = false) ∧ ∀ i y, i < k → l[i]? = some y → hasB ms y = true) ∨ (e = .returned (.int .i64 (-1)) ∧ ∀ (i : Nat) y, l[i]? = some y → hasB ms y = true)) ∧ w' = w := by
  have hK : ∀ x, _ := fun x => keep_any q A m d ms x w hq hr hm
  clear hq hr
  have c1 := hb.cell
  have l1 := hb.lt
  go_enter Try.func116, Try.ntmps116
  go_wp2
  go_loopw [8] (fun s wr => ∃ j : Nat, j ≤ n ∧ s = .int .i64 (j : Int) ∧ (∀ (i : Nat) (y : Int), i < j → l[i]? = some y → hasB ms y = true) ∧ wr = w) (fun s _ => ((n : Int) - intOf s).toNat)
  case atStart => exact ⟨0, by omega, rfl, fun i y hi => by omega, rfl⟩
  case round =>
    obtain ⟨j, hj, rfl, hno, rfl⟩ := hrel
    obtain ⟨wo, rfl⟩ : ∃ wo : World, wo = wr := ⟨_, rfl⟩
    by_cases hlt : j < n
    · have hg : l[j]? = some l[j] := List.getElem?_eq_getElem (by omega)
      have m1 : wo.cell? ⟨b, j, none⟩ = some (.int .i64 l[j]) := (c1 j).trans (hcs j _ hg)
      have hlj : (j : Int) < n := by omega
      generalize l[j] = x at *
      cases hx : hasB ms x with
      | false =>
        have H := hide (⟨hg, hno, hx⟩ : _ ∧ _ ∧ _)
        have hK := hK x
        rw [hx] at hK
        clear hno hg hcs hx c1
        go_wp2_with (go_at_call 114; (with_reducible refine hK.mono ?_); rintro e w1 ⟨rfl, rfl⟩)
        go_ret
        obtain ⟨hg, hno, hx⟩ := H.out
        exact ⟨.inl ⟨j, hlt, rfl, fun y hy => by rw [hg] at hy; cases hy; exact hx, hno⟩, rfl⟩
      | true =>
        have hK := hK x
        rw [hx] at hK
        have HN := hide (fun (i : Nat) (y : Int) (hi : i < j + 1) (h : l[i]? = some y) => show hasB ms y = true from by
          rcases Nat.lt_or_ge i j with h' | h'
          · exact hno i y h' h
          · obtain rfl : i = j := by omega
            rw [hg] at h; cases h; exact hx)
        clear hno hg hcs hx c1
        go_wp2_with (go_at_call 114; (with_reducible refine hK.mono ?_); rintro e w1 ⟨rfl, rfl⟩)
        go_roundw
        case rel => exact ⟨j + 1, by omega, by go_num, HN.out, by trivial⟩
        case measure => simp [intOf]; omega
    · obtain rfl : j = n := by omega
      have HN := hide hno
      clear hno
      go_wp2
      go_ret
      refine ⟨.inr ⟨rfl, fun i y h => HN.out i y ?_ h⟩, rfl⟩
      have := (List.getElem?_eq_some_iff.1 h).1
      omega
def keptL (ms l : List Int) (j : Nat) : List Int := (l.take j).filter (hasB ms)
theorem keptL_le (ms l : List Int) (j : Nat) : (keptL ms l j).length ≤ j := Nat.le_trans (List.length_filter_le _ _) (by rw [List.length_take]; omega)
theorem keptL_yes {ms l : List Int} {j : Nat} {x : Int} (h : l[j]? = some x) (hx : hasB ms x = true) : keptL ms l (j + 1) = keptL ms l j ++ [x] := by
  unfold keptL
  rw [List.take_add_one, h, List.filter_append]
  simp [hx]
theorem keptL_no {ms l : List Int} {j : Nat} {x : Int} (h : l[j]? = some x) (hx : hasB ms x = false) : keptL ms l (j + 1) = keptL ms l j := by
  unfold keptL
  rw [List.take_add_one, h, List.filter_append]
  simp [hx]
theorem keptL_all {ms l : List Int} : ∀ {j : Nat}, j ≤ l.length → (∀ i y, i < j → l[i]? = some y → hasB ms y = true) → keptL ms l j = l.take j
  | 0, _, _ => by simp [keptL]
  | j + 1, hj, h => by
    have hg : l[j]? = some l[j] := List.getElem?_eq_getElem (by omega)
    rw [keptL_yes hg (h j _ (by omega) hg), keptL_all (by omega) (fun i y hi => h i y (by omega)), List.take_add_one, hg]
    rfl
theorem keptL_mono {ms l : List Int} : ∀ {i j : Nat}, i ≤ j → (keptL ms l j).length ≤ (keptL ms l i).length + (j - i)
  | i, 0, h => by obtain rfl : i = 0 := by omega
                  omega
  | i, j + 1, h => by
    rcases Nat.lt_or_ge j i with h' | h'
    · obtain rfl : i = j + 1 := by omega
      omega
    · have := keptL_mono (ms := ms) (l := l) h'
      have h2 : (keptL ms l (j + 1)).length ≤ (keptL ms l j).length + 1 := by
        unfold keptL
        rw [List.take_add_one, List.filter_append, List.length_append]
        have : (List.filter (hasB ms) l[j]?.toList).length ≤ 1 := by
          refine Nat.le_trans (List.length_filter_le _ _) ?_
          cases l[j]? <;> simp
        omega
      omega
theorem Only.cell {w w' : World} {g : Nat} (h : Only w w' g) {p : Addr} (hp : p.block < w.heap.size) (hne : p.block ≠ g) : w'.cell? p = w.cell? p := by
  unfold World.cell?
  rw [h.block p.block hp hne]
theorem Reads.only {w w' : World} {g size n : Nat} {A : Option Addr} {xs : List Value} (h : Reads w w.heap.size size A n xs) (ho : Only w w' g) (hA : 0 < n → ∀ a, A = some a → a.block ≠ g) : Reads w' w'.heap.size size A n xs :=
  ⟨h.1, fun hn => by
    obtain ⟨ad, e, hb, hc⟩ := h.2 hn
    exact ⟨ad, e, Nat.lt_of_lt_of_le hb ho.size, fun j u hu => (ho.cell (by rw [block_of_add]; exact hb) (by rw [block_of_add]; exact hA hn _ e)).trans (hc j u hu)⟩⟩
set_option maxRecDepth 100000 in
set_option maxHeartbeats 4000000 in
theorem delete_any (q b c n : Nat) (l : List Int) (A : Option Addr) (m d : Nat) (ms : List Int) (w : World) (hb : RowAt w b l c) (hnl : l.length = n) (hn : n * 8 ≤ 140737488355328)
    (hq : w.cell? ⟨q, 0, none⟩ = some (.slice A m d)) (hqb : q ≠ b) (hql : q < w.heap.size) (hr : Reads w w.heap.size 1 A m (ints ms)) (hAb : 0 < m → ∀ a, A = some a → a.block ≠ b) (hm : m ≤ 9223372036854775807) :
    Calls Try.prog 91 #[.slice (some ⟨b, 0, none⟩) n c, .func (.func 114) #[] #[.pointer (some ⟨q, 0, none⟩)]] w fun e w' => e = .returned (.slice (some ⟨b, 0, none⟩) (keptL ms l n).length c) ∧ RowAt w' b (keptL ms l n) c ∧ Only w w' b := by
  have hB := hb
  obtain ⟨cs, h1, h2, h3, h4, h5⟩ := hb
  have hcs : ∀ (t : Nat) (y : Int), l[t]? = some y → cs[t]? = some (Value.int .i64 y) := fun t y h => by
    have ht := (List.getElem?_eq_some_iff.1 h).1
    have := congrArg (fun z => z[t]?) h5
    simp only [ints_get h, List.getElem?_take, ht, if_true] at this
    simpa using this
  have hI := indexf_any q b n c l cs A m d ms w h1 hcs hnl (by omega) hq hr hm
  have hK : ∀ w', Only w w' b → ∀ x, _ := fun w' ho x => keep_any q A m d ms x w' ((ho.cell (p := ⟨q, 0, none⟩) hql hqb).trans hq) (Reads.only hr ho hAb) hm
  clear hq hr
  by_cases hall : ∀ (i : Nat) (y : Int), l[i]? = some y → hasB ms y = true
  · have hI' : Calls Try.prog 116 #[.slice (some ⟨b, 0, none⟩) n c, .func (.func 114) #[] #[.pointer (some ⟨q, 0, none⟩)]] w fun e w' => e = .returned (.int .i64 (-1)) ∧ w' = w := hI.mono fun e w' h => by
      obtain ⟨h | h, rfl⟩ := h
      · obtain ⟨k, hk, _, hno, _⟩ := h
        have := hno _ (List.getElem?_eq_getElem (by omega))
        rw [hall k _ (List.getElem?_eq_getElem (by omega))] at this
        cases this
      · exact ⟨h.1, rfl⟩
    have hkl : keptL ms l n = l := by rw [keptL_all (by omega) (fun i y _ => hall i y), ← hnl, List.take_length]
    rw [hkl, hnl]
    clear hI hcs h5 h1 hkl
    have hB := hide hB
    go_enter Try.func91, Try.ntmps91
    go_wp2_with (go_at_call 116; (with_reducible refine hI'.mono ?_); rintro e w1 ⟨rfl, rfl⟩)
    go_ret
    exact ⟨rfl, hB.out, Only.refl _ _⟩
  · have hI' : Calls Try.prog 116 #[.slice (some ⟨b, 0, none⟩) n c, .func (.func 114) #[] #[.pointer (some ⟨q, 0, none⟩)]] w fun e w' => (∃ k : Nat, k < n ∧ e = .returned (.int .i64 (k : Int)) ∧ (∀ y, l[k]? = some y → hasB ms y = false) ∧ ∀ i y, i < k → l[i]? = some y → hasB ms y = true) ∧ w' = w := hI.mono fun e w' h => by
      obtain ⟨h | h, rfl⟩ := h
      · exact ⟨h, rfl⟩
      · exact absurd h.2 hall
    clear hI hall
    go_enter Try.func91, Try.ntmps91
    go_wp2_with (go_at_call 116; (with_reducible refine hI'.mono ?_); rintro e w1 ⟨⟨k, hk, rfl, hno, hyes⟩, rfl⟩; have hk1 : ((k : Int) == -1) = false := (by simp))
    have hlt : (keptL ms l n).length < n := by
      have h1 : (keptL ms l n).length ≤ (keptL ms l (k + 1)).length + (n - (k + 1)) := keptL_mono (by omega)
      have h2 := keptL_no (l := l) (j := k) (List.getElem?_eq_getElem (by omega)) (hno _ (List.getElem?_eq_getElem (by omega)))
      have h3 := keptL_le ms l k
      rw [h2] at h1
      omega
    have hF : keptL ms l (k + 1) = l.take k := by
      rw [keptL_no (List.getElem?_eq_getElem (by omega)) (hno _ (List.getElem?_eq_getElem (by omega)))]
      exact keptL_all (by omega) hyes
    go_loopw [5, 6] (fun vi vj wr => ∃ (j : Nat) (cs : Array Value), j ≤ n ∧ vj = .int .i64 (j : Int) ∧ vi = .int .i64 ((keptL ms l j).length : Int) ∧ (keptL ms l j).length < j ∧ Blk wr b 3 cs ∧ cs.size = c ∧ (∀ (t : Nat) (y : Int), (keptL ms l j)[t]? = some y → cs[t]? = some (Value.int .i64 y)) ∧ (∀ (t : Nat) (y : Int), j ≤ t → l[t]? = some y → cs[t]? = some (Value.int .i64 y)) ∧ Only w1 wr b) (fun _ vj _ => ((n : Int) - intOf vj).toNat)
    case atStart =>
      refine ⟨k + 1, cs, by omega, by go_num, by rw [hF, List.length_take]; congr 2; omega, by rw [hF, List.length_take]; omega, h1, h2, fun t y h => ?_, fun t y _ h => hcs t y h, Only.refl _ _⟩
      rw [hF, List.getElem?_take] at h
      split at h
      · exact hcs t y h
      · cases h
    case round =>
      obtain ⟨j, cr, hj, rfl, rfl, hij, hBr, hsz, hlo, hhi, ho⟩ := hrel
      obtain ⟨wo, rfl⟩ : ∃ wo : World, wo = wr := ⟨_, rfl⟩
      have cB := Blk.cell hBr
      have fB := Blk.frozen hBr
      have lB := Blk.lt hBr
      have hcn : c ≤ 9223372036854775807 := by unfold maxLen at h4; exact h4
      by_cases hjn : j < n
      · have hg : l[j]? = some l[j] := List.getElem?_eq_getElem (by omega)
        have m1 : wo.cell? ⟨b, j, none⟩ = some (.int .i64 l[j]) := (cB j).trans (hhi j _ (Nat.le_refl _) hg)
        have hlj : (j : Int) < n := by omega
        generalize l[j] = x at *
        cases hx : hasB ms x with
        | false =>
          have hKx := hK wo ho x
          rw [hx] at hKx
          have hN := keptL_no hg hx
          have H := hide (⟨hN, hlo, fun (t : Nat) (y : Int) (ht : j + 1 ≤ t) => hhi t y (by omega)⟩ : _ ∧ _ ∧ _)
          clear hlo hhi hN hF hno hyes hcs hI' hK cB
          go_wp2_with (go_at_call 114; (with_reducible refine hKx.mono ?_); rintro e w1 ⟨rfl, rfl⟩)
          go_roundw
          case rel =>
            obtain ⟨hN, hlo, hhi⟩ := H.out
            exact ⟨j + 1, cr, by omega, by go_num, by rw [hN], by rw [hN]; omega, hBr, hsz, by rw [hN]; exact hlo, hhi, ho⟩
          case measure => simp [intOf]; omega
        | true =>
          have hKx := hK wo ho x
          rw [hx] at hKx
          have hN := keptL_yes hg hx
          generalize hi : (keptL ms l j).length = i at *
          have hil : (i : Int) < n := by omega
          have hib : i < cr.size := by omega
          have H := hide (⟨hN, hlo, hhi⟩ : _ ∧ _ ∧ _)
          have m0 : wo.cell? ⟨b, i, none⟩ = some cr[i] := (cB i).trans (Array.getElem?_eq_getElem hib)
          generalize cr[i] = u0 at *
          clear hlo hhi hN hF hno hyes hcs hI' hK cB
          go_wp2_with (go_at_call 114; (with_reducible refine hKx.mono ?_); rintro e w1 ⟨rfl, rfl⟩)
          go_roundw
          case rel =>
            obtain ⟨hN, hlo, hhi⟩ := H.out
            have hjl : (keptL ms l (j + 1)).length = i + 1 := by rw [hN, List.length_append, hi]; rfl
            refine ⟨j + 1, cr.setIfInBounds i (.int .i64 x), by omega, by go_num, by rw [hjl]; go_num, by rw [hjl]; omega, Blk.set_ hBr i _, by simpa using hsz, fun t y h => ?_, fun t y ht h => ?_, ho.trans (Only.setCell _ b i _)⟩
            · rw [hN, List.getElem?_append] at h
              split at h
              · rw [Array.getElem?_setIfInBounds_ne (by omega)]
                exact hlo t y h
              · have ht : t - (keptL ms l j).length < 1 := (List.getElem?_eq_some_iff.1 h).1
                obtain rfl : t = i := by omega
                rw [hi, Nat.sub_self] at h
                cases h
                rw [Array.getElem?_setIfInBounds_self, if_pos hib]
            · rw [Array.getElem?_setIfInBounds_ne (by omega)]
              exact hhi t y (by omega) h
          case measure => simp [intOf]; omega
      · obtain rfl : j = n := by omega
        generalize hi : (keptL ms l j).length = i at *
        have hil : (i : Int) ≤ j := by omega
        have hic : (i : Int) ≤ c := by omega
        have hjc : (j : Int) ≤ c := by omega
        have hcl : ∀ ty, (Builtin.clear_ #[29] ty #[.slice (some ⟨b, i, none⟩) (j - i) (c - i)]).run Try.prog wo = .ok (.tuple #[]) (wo.setCells b i (List.replicate (j - i) (.int .i64 0))) := fun ty =>
          Lib.run_clear_slice wo _ _ ty (.int .i64 0) Try.underlying29 (fun w => by rfl) rfl rfl b i (j - i) (c - i) (by omega) (fun t ht => by rw [cB, Array.getElem?_eq_getElem (by omega)]; rfl) (fun t ht => fB _)
        have H := hide hlo
        clear hlo hhi hF hno hyes hcs hI' hK cB
        go_wp2
        refine bodyPost_ret (v := .slice (some ⟨b, 0, none⟩) i c) (by simp [results, Try.results91, go_sem] <;> rfl) rfl ?_
        obtain ⟨cs', k1, k2, k3⟩ := blk_setCells (List.replicate (j - i) (.int .i64 0)) i wo cr hBr
        refine ⟨by rw [hi], ⟨cs', k1, by omega, by omega, h4, ?_⟩, ho.trans (only_setCells _ i wo)⟩
        rw [hi]
        refine List.ext_getElem? fun t => ?_
        rw [List.getElem?_take]
        by_cases ht : t < i
        · have hg : (keptL ms l j)[t]? = some ((keptL ms l j)[t]'(by omega)) := List.getElem?_eq_getElem (by omega)
          rw [if_pos ht, ints_get hg, Array.getElem?_toList, k3 t ht]
          exact H.out t _ hg
        · rw [if_neg ht, List.getElem?_eq_none (by rw [ints_length]; omega)]
end Go.Proofs.Ytjhcgnmibnjocaa

/-! Another view. -/
namespace Go.Proofs.Ytjhcgnmibnjocaa
open Go.RowKit
set_option linter.unusedVariables false
set_option linter.unusedSimpArgs false
theorem change_nil (n : Int) (A : Option Addr) (m c : Nat) (w : World) :
    Calls Try.prog 86 #[.pointer none, .int .i64 n, .slice A m c] w fun r w' => r = .returned (.tuple #[.agg #[.int .i64 0, .int .i64 0, .slice none 0 0], .int .i64 2]) ∧ Below w.heap.size w w' := by
  go_enter Try.func86, Try.ntmps86
  go_wp2
  refine bodyPost_cell_tmp Try.results86 rfl (Blk.made w _ _ _) Try.underlying39 rfl (by kernel_rfl) rfl ⟨rfl, by (repeat' (first | with_reducible exact Below.refl _ _ | with_reducible refine Below.ext ?_ ?_ _ | with_reducible refine Below.alloc ?_ ?_ _ | with_reducible refine Below.setCell ?_ ?_ _ | with_reducible refine Below.drew ?_ | with_reducible assumption | (simp [World.size_ext]; done) | (simp [World.size_ext]; omega)))⟩
def changeE (k : Vw) (n : Int) (ms : List Int) : Int := if (risingB ms && hasB ms n) = false then 1 else if hasB k.ss n = false then 111 else if 4611686018427387904 ≤ k.e then 20 else 0
set_option maxHeartbeats 2000000 in
theorem change_no (g bm bs : Nat) (k : Vw) (n : Int) (A : Option Addr) (m c : Nat) (ms : List Int) (w : World) (h : Ctl w g bm bs k) (hr : Reads w w.heap.size 1 A m (ints ms)) (hm : m ≤ 9223372036854775807) (hs : k.ss.length ≤ 9223372036854775807) (he : changeE k n ms ≠ 0) :
    Calls Try.prog 86 #[.pointer (some ⟨g, 0, none⟩), .int .i64 n, .slice A m c] w fun r w' => r = .returned (.tuple #[.agg #[.int .i64 0, .int .i64 0, .slice none 0 0], .int .i64 (changeE k n ms)]) ∧ Below w.heap.size w w' := by
  obtain ⟨cm, cs, h1, h2, h3, h4⟩ := h
  have hr' : ∀ o1 o2, Reads ((w.alloc o1).alloc o2) ((w.alloc o1).alloc o2).heap.size 1 A m (ints ms) := fun o1 o2 => ((hr.alloc (Nat.le_refl _) o1).alloc (by simp) o2).more (by simp; omega)
  have hR : ∀ o1 o2, _ := fun o1 o2 => rising_any A m c ms ((w.alloc o1).alloc o2) (hr' o1 o2) hm
  have hH : ∀ o1 o2, _ := fun o1 o2 => has_any A m c ms n ((w.alloc o1).alloc o2) (hr' o1 o2) hm
  have hS : ∀ o1 o2, _ := fun o1 o2 => has_any _ _ cs k.ss n ((w.alloc o1).alloc o2) (((h3.alloc o1).alloc o2).reads) hs
  have c1 := h1.cell
  have l1 := h1.lt
  clear hr hr' h1 h2 h3
  unfold changeE at *
  cases hu : risingB ms with
  | false =>
    rw [hu] at hR
    simp only [hu, Bool.false_and, if_true] at he ⊢
    go_enter Try.func86, Try.ntmps86
    go_wp2_with (first | (go_at_call 89; (with_reducible refine (hR _ _).mono ?_); rintro e w1 ⟨rfl, rfl⟩))
    refine bodyPost_cell_tmp Try.results86 rfl (Blk.made w _ _ _) Try.underlying39 rfl (by kernel_rfl) rfl ⟨rfl, by (repeat' (first | with_reducible exact Below.refl _ _ | with_reducible refine Below.ext ?_ ?_ _ | with_reducible refine Below.alloc ?_ ?_ _ | with_reducible refine Below.setCell ?_ ?_ _ | with_reducible refine Below.drew ?_ | with_reducible assumption | (simp [World.size_ext]; done) | (simp [World.size_ext]; omega)))⟩
  | true =>
    rw [hu] at hR
    cases hh : hasB ms n with
    | false =>
      rw [hh] at hH
      simp only [hu, hh, Bool.and_false, if_true] at he ⊢
      go_enter Try.func86, Try.ntmps86
      go_wp2_with (first | (go_at_call 89; (with_reducible refine (hR _ _).mono ?_); rintro e w1 ⟨rfl, rfl⟩) | (go_at_call 52; (with_reducible refine (hH _ _).mono ?_); rintro e w1 ⟨rfl, rfl⟩))
      refine bodyPost_cell_tmp Try.results86 rfl (Blk.made w _ _ _) Try.underlying39 rfl (by kernel_rfl) rfl ⟨rfl, by (repeat' (first | with_reducible exact Below.refl _ _ | with_reducible refine Below.ext ?_ ?_ _ | with_reducible refine Below.alloc ?_ ?_ _ | with_reducible refine Below.setCell ?_ ?_ _ | with_reducible refine Below.drew ?_ | with_reducible assumption | (simp [World.size_ext]; done) | (simp [World.size_ext]; omega)))⟩
    | true =>
      rw [hh] at hH
      cases hs : hasB k.ss n with
      | false =>
        rw [hs] at hS
        simp only [hu, hh, hs, Bool.and_true, if_true, Bool.true_eq_false, if_false] at he ⊢
        go_enter Try.func86, Try.ntmps86
        go_wp2_with (first | (go_at_call 89; (with_reducible refine (hR _ _).mono ?_); rintro e w1 ⟨rfl, rfl⟩) | (go_at_call 52; (with_reducible refine (hH _ _).mono ?_); rintro e w1 ⟨rfl, rfl⟩) | (go_at_call 52; (with_reducible refine (hS _ _).mono ?_); rintro e w1 ⟨rfl, rfl⟩))
        refine bodyPost_cell_tmp Try.results86 rfl (Blk.made w _ _ _) Try.underlying39 rfl (by kernel_rfl) rfl ⟨rfl, by (repeat' (first | with_reducible exact Below.refl _ _ | with_reducible refine Below.ext ?_ ?_ _ | with_reducible refine Below.alloc ?_ ?_ _ | with_reducible refine Below.setCell ?_ ?_ _ | with_reducible refine Below.drew ?_ | with_reducible assumption | (simp [World.size_ext]; done) | (simp [World.size_ext]; omega)))⟩
      | true =>
        rw [hs] at hS
        simp only [hu, hh, hs, Bool.and_true, if_true, Bool.true_eq_false, if_false] at he ⊢
        by_cases hb : 4611686018427387904 ≤ k.e
        · rw [if_pos hb]
          go_enter Try.func86, Try.ntmps86
          go_wp2_with (first | (go_at_call 89; (with_reducible refine (hR _ _).mono ?_); rintro e w1 ⟨rfl, rfl⟩) | (go_at_call 52; (with_reducible refine (hH _ _).mono ?_); rintro e w1 ⟨rfl, rfl⟩) | (go_at_call 52; (with_reducible refine (hS _ _).mono ?_); rintro e w1 ⟨rfl, rfl⟩))
          refine bodyPost_cell_tmp Try.results86 rfl (Blk.made w _ _ _) Try.underlying39 rfl (by kernel_rfl) rfl ⟨rfl, by (repeat' (first | with_reducible exact Below.refl _ _ | with_reducible refine Below.ext ?_ ?_ _ | with_reducible refine Below.alloc ?_ ?_ _ | with_reducible refine Below.setCell ?_ ?_ _ | with_reducible refine Below.drew ?_ | with_reducible assumption | (simp [World.size_ext]; done) | (simp [World.size_ext]; omega)))⟩
        · rw [if_neg hb] at he
          exact absurd rfl he
end Go.Proofs.Ytjhcgnmibnjocaa

/-! A view that is let hold. -/
namespace Go.Proofs.Ytjhcgnmibnjocaa
open Go.RowKit
set_option linter.unusedVariables false
set_option linter.unusedSimpArgs false
theorem RowAt.only {w w' : World} {b g cap : Nat} {l : List Int} (h : RowAt w b l cap) (ho : Only w w' g) (hne : b ≠ g) : RowAt w' b l cap := h.keep (ho.block b h.lt hne)
theorem RowAt.below {w w' : World} {b cap : Nat} {l : List Int} (h : RowAt w b l cap) (hb : Below w.heap.size w w') : RowAt w' b l cap := h.keep (hb.block b h.lt)
theorem own_only {w w' : World} {base size n g : Nat} {e : TypeId} {v : Value} {xs : List Value} (h : w.ownsRow base e size v n xs) (ho : Only w w' g) (hg : g < base) : w'.ownsRow base e size v n xs :=
  own_keep h fun k hk hlt => ho.block k hlt (by omega)
theorem Both2.set_ {w W : World} {g s : Nat} (h : Both2 w W g s) {p : Addr} (hp : p.block = g ∨ p.block = s ∨ w.heap.size ≤ p.block) (u : Value) : Both2 w (W.setCell p u) g s :=
  ⟨h.os, h.tape, h.output, by simpa using h.size, fun k hk hg hs => (Below.heap_setCell W p u k (by omega)).trans (h.block k hk hg hs)⟩
theorem Both2.alloc {w W : World} {g s : Nat} (h : Both2 w W g s) (o : Obj) : Both2 w (W.alloc o) g s := h.trans (Both2.of_below (Below.alloc (Below.refl _ _) (Nat.le_refl _) o))
theorem Both2.ext {w W : World} {g s : Nat} (h : Both2 w W g s) (X : Ext) : Both2 w (W.ext X) g s := h.trans (Both2.of_below (World.below_ext W X))
theorem Both2.of_only' {w w' : World} {g s : Nat} (h : Only w w' s) : Both2 w w' g s := ⟨h.os, h.tape, h.output, h.size, fun k hk _ h2 => h.block k hk h2⟩
theorem RowAt.reads' {w : World} {b cap n : Nat} {l : List Int} (h : RowAt w b l cap) (hl : l.length = n) : Reads w w.heap.size 1 (some ⟨b, 0, none⟩) n (ints l) := by
  subst hl
  exact h.reads
theorem Reads.both {w w' : World} {g s size n : Nat} {A : Option Addr} {xs : List Value} (h : Reads w w.heap.size size A n xs) (ho : Both2 w w' g s) (hg : 0 < n → ∀ a, A = some a → a.block ≠ g) (hs : 0 < n → ∀ a, A = some a → a.block ≠ s) : Reads w' w'.heap.size size A n xs :=
  ⟨h.1, fun hn => by
    obtain ⟨ad, e, hb, hc⟩ := h.2 hn
    refine ⟨ad, e, Nat.lt_of_lt_of_le hb ho.size, fun j u hu => ?_⟩
    have : w'.cell? (ad.add j) = w.cell? (ad.add j) := by
      unfold World.cell?
      rw [ho.block (ad.add j).block (by rw [block_of_add]; exact hb) (by rw [block_of_add]; exact hg hn _ e) (by rw [block_of_add]; exact hs hn _ e)]
    exact this.trans (hc j u hu)⟩
set_option maxRecDepth 100000 in
set_option maxHeartbeats 4000000 in
theorem change_yes (g bm bs : Nat) (k : Vw) (n : Int) (A : Option Addr) (m c : Nat) (ms : List Int) (w : World) (h : Ctl w g bm bs k) (hr : Reads w w.heap.size 1 A m (ints ms)) (hm : m * 8 ≤ 140737488355328) (hs : k.ss.length * 8 ≤ 140737488355328) (he : changeE k n ms = 0) (he1 : 1 ≤ k.e)
    (hAg : 0 < m → ∀ a, A = some a → a.block ≠ g) (hAs : 0 < m → ∀ a, A = some a → a.block ≠ bs) :
    Calls Try.prog 86 #[.pointer (some ⟨g, 0, none⟩), .int .i64 n, .slice A m c] w fun r w' => (∃ v bm' B5, r = .returned (.tuple #[.agg #[.int .i64 (k.e + 1), .int .i64 n, v], .int .i64 0]) ∧ w'.ownsRow B5 3 1 v m (ints ms) ∧ Ctl w' g bm' bs ⟨k.e + 1, n, ms, k.ss.filter (hasB ms)⟩ ∧ w.heap.size ≤ bm' ∧ bm' < B5) ∧ Both2 w w' g bs := by
  obtain ⟨cm, cs, h1, h2, h3, h4, h5, h6⟩ := h
  have hml := reads_len hr
  have hr' : ∀ o1 o2 X, Reads (((w.alloc o1).alloc o2).ext X) (((w.alloc o1).alloc o2).ext X).heap.size 1 A m (ints ms) := fun o1 o2 X => (((hr.alloc (Nat.le_refl _) o1).alloc (by simp) o2).ext (by simp; omega) X).more (by simp [World.size_ext]; omega)
  have hr2 : ∀ o1 o2, Reads ((w.alloc o1).alloc o2) ((w.alloc o1).alloc o2).heap.size 1 A m (ints ms) := fun o1 o2 => ((hr.alloc (Nat.le_refl _) o1).alloc (by simp) o2).more (by simp; omega)
  have hR : ∀ o1 o2, _ := fun o1 o2 => rising_any A m c ms ((w.alloc o1).alloc o2) (hr2 o1 o2) (by omega)
  have hH : ∀ o1 o2, _ := fun o1 o2 => has_any A m c ms n ((w.alloc o1).alloc o2) (hr2 o1 o2) (by omega)
  have hS : ∀ o1 o2, _ := fun o1 o2 => has_any _ _ cs k.ss n ((w.alloc o1).alloc o2) (((h3.alloc o1).alloc o2).reads) (by omega)
  have hC : ∀ o1 o2 X, _ := fun o1 o2 X => clone_any A m c ms (((w.alloc o1).alloc o2).ext X) (hr' o1 o2 X) hm
  have hms : hasB ms n = true := by
    unfold changeE at he
    split at he
    · simp at he
    · rename_i h; simp at h; exact h.2
  have hu : risingB ms = true := by
    unfold changeE at he
    split at he
    · simp at he
    · rename_i h; simp at h; exact h.1
  have hss : hasB k.ss n = true := by
    unfold changeE at he
    split at he
    · simp at he
    · split at he
      · simp at he
      · rename_i h; simpa using h
  have hb' : ¬4611686018427387904 ≤ k.e := by
    unfold changeE at he
    split at he
    · simp at he
    · split at he
      · simp at he
      · split at he
        · simp at he
        · assumption
  have hb : decide (4611686018427387904 ≤ k.e) = false := decide_eq_false hb'
  rw [hms] at hH
  rw [hu] at hR
  rw [hss] at hS
  have hm0 : 0 < m := by
    rw [← hml]
    exact List.length_pos_of_mem (hasB_mem.1 hms)
  have c1 := h1.cell
  have l1 := h1.lt
  have f1 := h1.frozen
  have H := hide (⟨h1, h2, h3⟩ : _ ∧ _ ∧ _)
  have hrH := hide hr
  clear hr hr' hr2 h1 h2 h3 he hms hss hu
  go_enter Try.func86, Try.ntmps86
  go_wp2_with (first | (go_at_call 89; (with_reducible refine (hR _ _).mono ?_); rintro e w1 ⟨rfl, rfl⟩) | (go_at_call 52; (with_reducible refine (hH _ _).mono ?_); rintro e w1 ⟨rfl, rfl⟩) | (go_at_call 52; (with_reducible refine (hS _ _).mono ?_); rintro e w1 ⟨rfl, rfl⟩))
  refine First.wp_region_first_ext [5, 8] [0, 1, 2, 3, 4, 6, 7, 10, 11, 12] [(true, false, 0), (true, false, 1), (true, false, 2), (true, false, 3), (true, false, 4), (true, true, 5), (true, false, 6), (true, false, 7), (true, true, 8), (false, true, 9), (true, false, 10), (true, false, 11), (true, false, 12), (false, false, 13)] (by kernel_rfl) (by kernel_rfl) (fun X => ?_); simp only [List.map_cons, List.map_nil, List.getD_cons_zero, List.getD_cons_succ]
  (repeat (first | (refine First.wpF_pure (fun K hK => ?_); go_simp; first | (refine hK _ _ ?_; clear hK K) | (apply Exists.intro; refine ⟨fun _ => ?_, hK _ _ ?_⟩; fail)) | (refine First.wpF_free (fun K hK => ?_); go_simp; first | (refine hK _ _ ?_; clear hK K))))
  refine First.wpF_must (fun K hK => ?_)
  go_wp2_with (go_at_call 40; (with_reducible refine (hC _ _ _).mono ?_); rintro e w2 ⟨⟨v, rfl, ho1⟩, hb1⟩; obtain ⟨b1, k1, rfl, hg1, hR1⟩ := RowAt.of_own' ho1 hm0 hml; obtain ⟨Y, rfl⟩ := World.ext_of_below hb1; clear hb1 ho1)
  (refine hK _ _ (fun hnd => by first | exact Bool.noConfusion hnd | assumption | with_reducible exact grown_alloc _ _ | with_reducible exact First.Grown.refl _ | with_reducible exact First.Grown.cat _ _ _ | with_reducible exact First.Grown.ext _ _) ?_; clear hK K)
  (repeat (first | (refine First.wpF_pure (fun K hK => ?_); go_simp; first | (refine hK _ _ ?_; clear hK K) | (apply Exists.intro; refine ⟨fun _ => ?_, hK _ _ ?_⟩; fail)) | (refine First.wpF_free (fun K hK => ?_); go_simp; first | (refine hK _ _ ?_; clear hK K))))
  refine First.wpF_must (fun K hK => ?_)
  go_wp2
  (refine hK _ _ (fun hnd => by first | exact Bool.noConfusion hnd | assumption | with_reducible exact grown_alloc _ _ | with_reducible exact First.Grown.refl _ | with_reducible exact First.Grown.cat _ _ _ | with_reducible exact First.Grown.ext _ _) ?_; clear hK K)
  refine First.wpF_nil ?_
  obtain ⟨h1, h2, h3⟩ := H.out
  have hr := hrH.out
  have q1 := h1.lt
  have q2 := h2.lt
  have q3 := h3.lt
  have p1 := hR1.lt
  simp only [World.size_ext, World.size_alloc, Ext.size_cat] at p1 hg1
  have hgq : g ≠ w.heap.size := by omega
  have hgr : g ≠ w.heap.size + 1 := by omega
  have hsq : bs ≠ w.heap.size := by omega
  have hsr : bs ≠ w.heap.size + 1 := by omega
  have h1g : b1 ≠ g := by omega
  have h1s : b1 ≠ bs := by omega
  have h1q : b1 ≠ w.heap.size := by omega
  have h1r : b1 ≠ w.heap.size + 1 := by omega
  have hqr : w.heap.size ≠ w.heap.size + 1 := by omega
  have h1w : w.heap.size ≤ b1 := by omega
  have HB : Both2 w ((((((w.alloc (.cells #[.slice A m c] 29)).alloc (.cells #[.int .i64 0, .int .i64 0, .slice none 0 0] 39)).ext (X.cat Y)).setCell ⟨g, 0, none⟩ (.int .i64 (k.e + 1))).setCell ⟨g, 1, none⟩ (.int .i64 n)).setCell ⟨g, 2, none⟩ (.slice (some ⟨b1, 0, none⟩) m k1)) g bs :=
    (((((((Both2.refl w g bs).alloc _).alloc _).ext _).set_ (.inl rfl) _).set_ (.inl rfl) _).set_ (.inl rfl) _)
  refine abstr (fun W => Blk W g 151 #[.int .i64 (k.e + 1), .int .i64 n, .slice (some ⟨b1, 0, none⟩) m k1, .slice (some ⟨bs, 0, none⟩) k.ss.length cs] ∧ RowAt W b1 ms k1 ∧ RowAt W bs k.ss cs ∧ Blk W w.heap.size 29 #[.slice A m c] ∧ Blk W (w.heap.size + 1) 39 #[.int .i64 0, .int .i64 0, .slice none 0 0] ∧ Reads W W.heap.size 1 A m (ints ms) ∧ Both2 w W g bs)
    ⟨((((((Blk.ext ((h1.alloc _).alloc _) _).set_ 0 _).set_ 1 _).set_ 2 _))), ?_, ?_, ?_, ?_, Reads.both hr HB hAg hAs, HB⟩ (fun W hW => ?_)
  · rw [World.ext_ext] at hR1
    exact ((hR1.set_ (by exact h1g) _).set_ (by exact h1g) _).set_ (by exact h1g) _
  · exact (((((h3.alloc _).alloc _).ext _).set_ (by exact fun e => h5 e.symm) _).set_ (by exact fun e => h5 e.symm) _).set_ (by exact fun e => h5 e.symm) _
  · exact (((((Blk.new w _ _).alloc _).ext _).far (by exact hgq.symm) _).far (by exact hgq.symm) _).far (by exact hgq.symm) _
  · exact ((((Blk.made w _ _ _).ext _).far (by exact hgr.symm) _).far (by exact hgr.symm) _).far (by exact hgr.symm) _
  clear hr hrH H h1 h2 h3 HB hR1 hC hR hH hS c1 f1 l1 hg1 p1
  obtain ⟨hG, hR1, hRs, hQ, hZ, hr, hB⟩ := hW
  have cG := hG.cell
  have fG := hG.frozen
  have lG := hG.lt
  have cQ := hQ.cell 0
  have lQ := hQ.lt
  have hB0 := hB.size
  have hD := delete_any w.heap.size bs cs k.ss.length k.ss A m c ms W hRs rfl hs cQ hsq.symm lQ hr hAs (by omega)
  rw [show keptL ms k.ss k.ss.length = k.ss.filter (hasB ms) from by unfold keptL; rw [List.take_length]] at hD
  have H := hide (⟨hG, hR1, hZ, hB⟩ : _ ∧ _ ∧ _ ∧ _)
  have hqr' := hqr.symm
  have hgq' := hgq.symm
  have hgr' := hgr.symm
  have h5' := h5.symm
  have hzr : w.heap.size + 1 < W.heap.size := hZ.lt
  clear hr hQ hRs cQ
  go_wp2_with (first | (go_at_call 91; (with_reducible refine hD.mono ?_); rintro e w3 ⟨rfl, hRd, ho3⟩; have hS3 := ho3.size; have hG3 := Blk.only H.out.1 ho3 h5; have cG3 := hG3.cell; have fG3 := hG3.frozen; have lG3 := hG3.lt; have hR3 := RowAt.only H.out.2.1 ho3 h1s) | (go_at_call 88; (with_reducible refine (twin_any _ _ _ _ _ ms _ (RowAt.reads' (RowAt.set_ hR3 (by exact h1g) _) hml) hm).mono ?_); rintro e w4 ⟨⟨v, rfl, ho⟩, hb4⟩; obtain ⟨A1, cap, rfl, hcap⟩ := own_sl ho; have hZ3 := Blk.below (Blk.far (Blk.only H.out.2.2.1 ho3 hsr.symm) (p := ⟨g, 3, none⟩) (by exact hgr.symm) _) hb4 (by simp; omega); have cZ := hZ3.cell; have fZ := hZ3.frozen; have lZ := hZ3.lt))
  obtain ⟨-, -, -, hB⟩ := H.out
  have hs4 := hb4.size
  simp only [World.size_setCell] at hs4
  have hG4 := Blk.below (hG3.set_ 3 (.slice (some ⟨bs, 0, none⟩) (k.ss.filter (hasB ms)).length cs)) hb4 (by simpa using hG3.lt)
  have hR4 := RowAt.below (RowAt.set_ hR3 (p := ⟨g, 3, none⟩) (by exact h1g) (.slice (some ⟨bs, 0, none⟩) (k.ss.filter (hasB ms)).length cs)) hb4
  have hS4 := RowAt.below (RowAt.set_ hRd (p := ⟨g, 3, none⟩) (by exact h5.symm) (.slice (some ⟨bs, 0, none⟩) (k.ss.filter (hasB ms)).length cs)) hb4
  refine bodyPost_cell_tmp Try.results86 rfl (Blk.three hZ3) Try.underlying39 rfl (by kernel_rfl) rfl ⟨⟨_, b1, _, rfl, own_set (own_set (own_set ho (by simp; omega) _) (by simp; omega) _) (by simp; omega) _, ⟨k1, cs, ?_, ?_, ?_, h1g.symm, h5, h1s⟩, h1w, by have := hR3.lt; simpa using this⟩, ?_⟩
  · have := ((hG4.far (p := ⟨w.heap.size + 1, 0, none⟩) (by exact hgr) (.int .i64 (k.e + 1))).far (p := ⟨w.heap.size + 1, 1, none⟩) (by exact hgr) (.int .i64 n)).far (p := ⟨w.heap.size + 1, 2, none⟩) (by exact hgr) (.slice A1 m cap)
    simp only [hml]
    exact this
  · exact ((hR4.set_ (by exact h1r) _).set_ (by exact h1r) _).set_ (by exact h1r) _
  · exact ((hS4.set_ (by exact hsr) _).set_ (by exact hsr) _).set_ (by exact hsr) _
  · exact (((((hB.trans (Both2.of_only' ho3)).set_ (.inl rfl) _).trans (Both2.of_below hb4)).set_ (.inr (.inr (by simp))) _).set_ (.inr (.inr (by simp))) _).set_ (.inr (.inr (by simp))) _
end Go.Proofs.Ytjhcgnmibnjocaa

/-! The document's views: Has, Right, SameList, Same, From. -/
namespace Go.Proofs.Ytjhcgnmibnjocaa
open Go.RowKit
set_option linter.unusedVariables false
set_option linter.unusedSimpArgs false
set_option maxHeartbeats 1000000 in
theorem rhas_any (A : Option Addr) (n c : Nat) (l : List Int) (x : Int) (w : World) (hr : Reads w w.heap.size 1 A n (ints l)) (hn : n ≤ 9223372036854775807) :
    Calls Try.prog 38 #[.slice A n c, .int .i64 x] w fun e w' => e = .returned (.bool (hasB l x)) ∧ w' = w := by
  have hl := reads_len hr
  go_enter Try.func38, Try.ntmps38
  go_wp2
  go_loopw [5] (fun s wr => ∃ j : Nat, j ≤ n ∧ s = .int .i64 (j : Int) ∧ (∀ (i : Nat) (y : Int), i < j → l[i]? = some y → y ≠ x) ∧ wr = w) (fun s _ => ((n : Int) - intOf s).toNat)
  case atStart => exact ⟨0, by omega, rfl, fun i y hi => by omega, rfl⟩
  case round =>
    obtain ⟨j, hj, rfl, hno, rfl⟩ := hrel
    by_cases hlt : j < n
    · obtain ⟨b, o, rfl, hbb, hc⟩ := hr.plain (by omega) (by omega)
      have hg : l[j]? = some l[j] := List.getElem?_eq_getElem (by omega)
      have m1 := hc _ _ (ints_get hg)
      have hlj : (j : Int) < n := by omega
      by_cases hx : l[j] = x
      · have hH : hasB l x = true := hasB_mem.2 (hx ▸ List.getElem_mem _)
        rw [hx] at m1
        have hH := hide hH
        clear hc hr hno hg
        go_wp2
        go_ret
        exact ⟨by rw [hH.out] <;> rfl, rfl⟩
      · have HN := hide (fun (i : Nat) (y : Int) (hi : i < j + 1) (h : l[i]? = some y) => show y ≠ x from by
          rcases Nat.lt_or_ge i j with h' | h'
          · exact hno i y h' h
          · obtain rfl : i = j := by omega
            rw [hg] at h; cases h; exact hx)
        clear hno hg hc
        generalize l[j] = y at *
        have hb' : (y == x) = false := by simpa using hx
        go_wp2
        go_roundw
        case rel => exact ⟨j + 1, by omega, by go_num, HN.out, by trivial⟩
        case measure => simp [intOf]; omega
    · obtain rfl : j = n := by omega
      have hH : hasB l x = false := hasB_not.2 fun hm => by
        obtain ⟨i, hi, h⟩ := List.getElem_of_mem hm
        exact hno i _ (by omega) (List.getElem?_eq_getElem hi) h
      have hH := hide hH
      clear hno
      go_wp2
      go_ret
      exact ⟨by rw [hH.out] <;> rfl, rfl⟩
theorem samel_any (A A' : Option Addr) (n c c' : Nat) (l : List Int) (w : World) (hr : Reads w w.heap.size 1 A n (ints l)) (hr' : Reads w w.heap.size 1 A' n (ints l)) (hn : n ≤ 9223372036854775807) :
    Calls Try.prog 107 #[.slice A n c, .slice A' n c'] w fun e w' => e = .returned (.bool true) ∧ Below w.heap.size w w' := by
  have hl := reads_len hr
  go_enter Try.func107, Try.ntmps107
  go_wp2
  go_loopw [5] (fun s wr => ∃ j : Nat, j ≤ n ∧ s = .int .i64 (j : Int) ∧ Below w.heap.size w wr) (fun s _ => ((n : Int) - intOf s).toNat)
  case atStart => exact ⟨0, by omega, rfl, Below.refl _ _⟩
  case round =>
    obtain ⟨j, hj, rfl, hb⟩ := hrel
    obtain ⟨wo, rfl⟩ : ∃ wo : World, wo = wr := ⟨_, rfl⟩
    have hs := hb.size
    by_cases hlt : j < n
    · obtain ⟨b, o, rfl, hbb, hc⟩ := hr.plain (by omega) (by omega)
      obtain ⟨b', o', rfl, hbb', hc'⟩ := hr'.plain (by omega) (by omega)
      have hg : l[j]? = some l[j] := List.getElem?_eq_getElem (by omega)
      have m1 : wo.cell? ⟨b, o + j, none⟩ = some (.int .i64 l[j]) := by rw [hb.cell (p := ⟨b, _, none⟩) hbb]; exact hc _ _ (ints_get hg)
      have m3 : wo.cell? ⟨b', o' + j, none⟩ = some (.int .i64 l[j]) := by rw [hb.cell (p := ⟨b', _, none⟩) hbb']; exact hc' _ _ (ints_get hg)
      have hbw : b < wo.heap.size := by omega
      have hbw' : b' < wo.heap.size := by omega
      have hlj : (j : Int) < n := by omega
      clear hc hc' hr hr'
      generalize l[j] = p at *
      go_wp2
      refine wp_region_ext_lit (by kernel_rfl) (by kernel_rfl) ?_
      (repeat (quiet_step (fail)))
      refine wpQuiet_nil ?_; intro _ hw'; obtain ⟨Y, hw''⟩ := hw'; subst hw''
      go_wp2
      go_roundw
      case rel => exact ⟨j + 1, by omega, by go_num, by (repeat' (first | with_reducible exact Below.refl _ _ | with_reducible refine Below.ext ?_ ?_ _ | with_reducible refine Below.alloc ?_ ?_ _ | with_reducible refine Below.setCell ?_ ?_ _ | with_reducible refine Below.drew ?_ | with_reducible assumption | (simp [World.size_ext]; done) | (simp [World.size_ext]; omega)))⟩
      case measure => simp [intOf]; omega
    · obtain rfl : j = n := by omega
      go_wp2
      go_ret
      exact ⟨rfl, hb⟩
theorem same_any (e p : Int) (A A' : Option Addr) (n c c' : Nat) (l : List Int) (w : World) (hr : Reads w w.heap.size 1 A n (ints l)) (hr' : Reads w w.heap.size 1 A' n (ints l)) (hn : n ≤ 9223372036854775807) :
    Calls Try.prog 72 #[.agg #[.int .i64 e, .int .i64 p, .slice A n c], .agg #[.int .i64 e, .int .i64 p, .slice A' n c']] w fun r w' => r = .returned (.bool true) ∧ Below w.heap.size w w' := by
  have hS : ∀ o1 o2, _ := fun o1 o2 => samel_any A A' n c c' l ((w.alloc o1).alloc o2) (((hr.alloc (Nat.le_refl _) o1).alloc (by simp) o2).more (by simp; omega)) (((hr'.alloc (Nat.le_refl _) o1).alloc (by simp) o2).more (by simp; omega)) hn
  clear hr hr'
  go_enter Try.func72, Try.ntmps72
  go_wp2_with (go_at_call 107; (with_reducible refine (hS _ _).mono ?_); rintro e w1 ⟨rfl, hb1⟩)
  go_ret
  exact ⟨rfl, ((Below.alloc (Below.alloc (Below.refl _ _) (Nat.le_refl _) _) (by simp) _)).trans (hb1.mono (by simp; omega))⟩
theorem vfrom_any (e p : Int) (A : Option Addr) (n c : Nat) (w : World) :
    Calls Try.prog 74 #[.agg #[.int .i64 e, .int .i64 p, .slice A n c]] w fun r w' => r = .returned (.agg #[.int .i64 e, .int .i64 p, .slice A n c]) ∧ Below w.heap.size w w' := by
  go_enter Try.func74, Try.ntmps74
  go_wp2
  refine bodyPost_cell Try.results74 rfl (Blk.made w _ _ _) Try.underlying31 rfl (by kernel_rfl) rfl ⟨rfl, by (repeat' (first | with_reducible exact Below.refl _ _ | with_reducible refine Below.ext ?_ ?_ _ | with_reducible refine Below.alloc ?_ ?_ _ | with_reducible refine Below.setCell ?_ ?_ _ | with_reducible refine Below.drew ?_ | with_reducible assumption | (simp [World.size_ext]; done) | (simp [World.size_ext]; omega)))⟩
end Go.Proofs.Ytjhcgnmibnjocaa

/-! The document's example; a nil control. -/
namespace Go.Proofs.Ytjhcgnmibnjocaa
open Go.RowKit
set_option linter.unusedVariables false
set_option linter.unusedSimpArgs false
theorem Ctl.alloc {w : World} {g bm bs : Nat} {k : Vw} (h : Ctl w g bm bs k) (o : Obj) : Ctl (w.alloc o) g bm bs k := h.below (Below.alloc (Below.refl _ _) (Nat.le_refl _) o)
theorem reads_new (w : World) (l : List Int) (hl : l.length ≤ maxLen) : Reads (w.alloc (.cells (ints l).toArray 3)) (w.alloc (.cells (ints l).toArray 3)).heap.size 1 (some ⟨w.heap.size, 0, none⟩) l.length (ints l) :=
  Reads.of_own ((Blk.new w 3 (ints l).toArray).own (b := 0) (size := 1) (n := l.length) (cap := l.length) (Nat.zero_le _) (Nat.le_refl _) hl (by simp [ints_length]) (by simp [ints_length, List.take_of_length_le]) (by simp [ints_length]))
end Go.Proofs.Ytjhcgnmibnjocaa

/-! Steps of a control that were handed in. -/
namespace Go.Proofs.Ytjhcgnmibnjocaa
open Go.RowKit
set_option linter.unusedVariables false
set_option linter.unusedSimpArgs false
structure VOp where
  kind : Int
  n : Int
  A : Option Addr
  m : Nat
  c : Nat
  ms : List Int
  deriving Inhabited
def VOp.cells (x : VOp) : List Value := [.int .i64 x.kind, .int .i64 x.n, .slice x.A x.m x.c]
def VOp.ok (W : World) (x : VOp) : Prop := Reads W W.heap.size 1 x.A x.m (ints x.ms) ∧ -9223372036854775808 ≤ x.n ∧ x.n ≤ 9223372036854775807 ∧ x.m * 8 ≤ 140737488351232
theorem VOp.len (x : VOp) : x.cells.length = 3 := rfl
end Go.Proofs.Ytjhcgnmibnjocaa

/-! Who is safe. -/
namespace Go.Proofs.Ytjhcgnmibnjocaa
open Go.RowKit
set_option linter.unusedVariables false
set_option linter.unusedSimpArgs false
theorem own_addr {w : World} {base size n c : Nat} {e : TypeId} {A : Option Addr} {xs : List Value} (h : w.ownsRow base e size (.slice A n c) n xs) : ∀ a, A = some a → base ≤ a.block ∧ a.block < w.heap.size := fun a ha => by
  rcases h.2 with ⟨h', _⟩ | ⟨g, cap, cur, hv, hb, hh, r⟩
  · cases h'; cases ha
  · cases hv; cases ha; exact ⟨hb, Blk.lt hh⟩
theorem changeE_zero {k : Vw} {n : Int} {ms : List Int} (h : changeE k n ms = 0) : risingB ms = true ∧ hasB ms n = true ∧ hasB k.ss n = true ∧ k.e < 4611686018427387904 := by
  unfold changeE at h
  split at h
  · simp at h
  · split at h
    · simp at h
    · split at h
      · simp at h
      · rename_i h1 h2 h3
        simp only [Bool.not_eq_false, Bool.and_eq_true] at h1 h2
        exact ⟨h1.1, h1.2, h2, by omega⟩
theorem changeK_ok {k : Vw} (hk : k.ok) {n : Int} {ms : List Int} (h : changeE k n ms = 0) (hm : ms.length * 8 ≤ 140737488355328) : Vw.ok ⟨k.e + 1, n, ms, k.ss.filter (hasB ms)⟩ := by
  obtain ⟨h1, h2, h3, h4⟩ := changeE_zero h
  have he := hk.e
  exact ⟨⟨by simp only; omega, by simp only; omega⟩, h1, hasB_mem.1 h2, List.mem_filter.2 ⟨hasB_mem.1 h3, h2⟩, fun x hx => hasB_mem.1 (List.mem_filter.1 hx).2, hm, by
    have := List.length_filter_le (hasB ms) k.ss
    have := hk.sb
    simp only
    omega⟩
theorem activeK_ok {k : Vw} (hk : k.ok) (n : Int) : (activeK k n).ok := by
  unfold activeK
  split
  · exact hk
  · split
    · exact ⟨hk.e, hk.up, hk.p, hk.p, fun x hx => hx, hk.mb, hk.mb⟩
    · exact hk
theorem Vw.ok.pos {k : Vw} (hk : k.ok) : 0 < k.ms.length := List.length_pos_of_mem hk.p
theorem change_safe (g bm bs : Nat) (k : Vw) (n : Int) (A : Option Addr) (m c : Nat) (ms : List Int) (w : World) (h : Ctl w g bm bs k) (hk : k.ok) (hr : Reads w w.heap.size 1 A m (ints ms)) (hm : m * 8 ≤ 140737488355328)
    (hAg : 0 < m → ∀ a, A = some a → a.block ≠ g) (hAs : 0 < m → ∀ a, A = some a → a.block ≠ bs) :
    Calls Try.prog 86 #[.pointer (some ⟨g, 0, none⟩), .int .i64 n, .slice A m c] w fun r w' => (∃ u, r = .returned u) ∧ (∃ bm' k', Ctl w' g bm' bs k' ∧ k'.ok ∧ (∀ x ∈ k'.ss, x ∈ k.ss) ∧ (bm' = bm ∨ w.heap.size ≤ bm')) ∧ Both2 w w' g bs := by
  by_cases he : changeE k n ms = 0
  · refine (change_yes g bm bs k n A m c ms w h hr hm hk.sb he hk.e.1 hAg hAs).mono ?_
    rintro r w' ⟨⟨v, bm', B5, rfl, _, hC, hb, _⟩, hO⟩
    exact ⟨⟨_, rfl⟩, ⟨bm', _, hC, changeK_ok hk he (by rw [reads_len hr]; exact hm), fun x hx => (List.mem_filter.1 hx).1, .inr hb⟩, hO⟩
  · refine (change_no g bm bs k n A m c ms w h hr (by omega) (by have := hk.sb; omega) he).mono ?_
    rintro r w' ⟨rfl, hb⟩
    exact ⟨⟨_, rfl⟩, ⟨bm, k, h.below hb, hk, fun x hx => hx, .inl rfl⟩, Both2.of_below hb⟩
theorem active_safe (g bm bs : Nat) (k : Vw) (n : Int) (w : World) (h : Ctl w g bm bs k) (hk : k.ok) :
    Calls Try.prog 87 #[.pointer (some ⟨g, 0, none⟩), .int .i64 n] w fun r w' => (∃ u, r = .returned u) ∧ (∃ bs' k', Ctl w' g bm bs' k' ∧ k'.ok ∧ (bs' = bs ∨ w.heap.size ≤ bs')) ∧ Both2 w w' g bs := by
  refine (active_any g bm bs k n w h hk.mb hk.pos).mono ?_
  rintro r w' ⟨rfl, ⟨bs', hC, hb⟩, hO⟩
  exact ⟨⟨_, rfl⟩, ⟨bs', _, hC, activeK_ok hk n, hb⟩, hO⟩
theorem vright_yes (k : Vw) (hk : k.ok) (A : Option Addr) (n c : Nat) (w : World) (hr : Reads w w.heap.size 1 A n (ints k.ms)) (hn : n ≤ 9223372036854775807) :
    Calls Try.prog 41 #[.agg #[.int .i64 k.e, .int .i64 k.p, .slice A n c]] w fun r w' => r = .returned (.bool true) ∧ Below w.heap.size w w' := by
  have h := vright_any k.e k.p A n c k.ms w hr hn
  have h2 : rightV k.e k.p k.ms = true := by
    have he := hk.e
    simp [rightV, he.1, he.2, hk.up, hasB_mem.2 hk.p]
  rw [h2] at h
  exact h
theorem rhas_yes (A : Option Addr) (n c : Nat) (l : List Int) (x : Int) (w : World) (hr : Reads w w.heap.size 1 A n (ints l)) (hn : n ≤ 9223372036854775807) (hx : x ∈ l) :
    Calls Try.prog 38 #[.slice A n c, .int .i64 x] w fun e w' => e = .returned (.bool true) ∧ w' = w := by
  have h := rhas_any A n c l x w hr hn
  rw [hasB_mem.2 hx] at h
  exact h
end Go.Proofs.Ytjhcgnmibnjocaa

/-! The document's Right, New, Active. -/
namespace Go.Proofs.Ytjhcgnmibnjocaa
open Go.RowKit
set_option linter.unusedVariables false
set_option linter.unusedSimpArgs false
theorem Blk.four {w : World} {g : Nat} {t : TypeId} {a b c d u v x y : Value} (h : Blk w g t #[a, b, c, d]) : Blk ((((w.setCell ⟨g, 0, none⟩ u).setCell ⟨g, 1, none⟩ v).setCell ⟨g, 2, none⟩ x).setCell ⟨g, 3, none⟩ y) g t #[u, v, x, y] := (((h.set_ 0 u).set_ 1 v).set_ 2 x).set_ 3 y
theorem bodyPost_tc {P : Program} {fn : Func} {R : Ending → World → Prop} {a : Act} {w : World} {p u g : Nat} {t ty : TypeId} {cs : Array Value} {d : TypeDesc} (h : fn.results = #[.tmp u, .cell p ty])
    (hp : a.tmps.getD p undef = .pointer (some ⟨g, 0, none⟩)) (hB : Blk w g t cs) (hu : P.underlying ty = some d) (hd : (match d with | .struct _ | .array _ _ => true | _ => false) = true) (hi : (P.info? ty).map (·.size) = some cs.size)
    (hdf : a.defers = []) (hR : R (.returned (.tuple #[a.tmps.getD u undef, .agg cs])) w) : bodyPost P fn R .ret a w :=
  bodyPost_ret (by
    have hp' := hp
    rw [Array.getD_eq_getD_getElem?] at hp'
    simp only [results, h]
    simp [hp', asAddr, run_loadVar_row w g t ty cs (0, 0) d hB hu hd hi, Array.getD_eq_getD_getElem?]) hdf hR
theorem rightV_up (e p : Int) (l : List Int) : rightV e p l = (upB l && (decide (1 ≤ e) && decide (e ≤ 4611686018427387904) && hasB l p)) := by
  unfold rightV risingB
  cases h : hasB l p with
  | true =>
    have : 0 < l.length := List.length_pos_of_mem (hasB_mem.1 h)
    simp [this, Bool.and_comm]
  | false => simp
theorem rightV_not {e p : Int} {l : List Int} (h : upB l = false) : rightV e p l = false := by rw [rightV_up, h]; rfl
set_option maxRecDepth 100000 in
set_option maxHeartbeats 4000000 in
theorem rvright_any (e p : Int) (A : Option Addr) (n c : Nat) (l : List Int) (w : World) (hr : Reads w w.heap.size 1 A n (ints l)) (hn : n ≤ 9223372036854775807) :
    Calls Try.prog 108 #[.agg #[.int .i64 e, .int .i64 p, .slice A n c]] w fun r w' => r = .returned (.bool (rightV e p l)) ∧ Below w.heap.size w w' := by
  have hl := reads_len hr
  have hB0 := Blk.new w 31 #[.int .i64 e, .int .i64 p, .slice A n c]
  have hb0 : Below w.heap.size w (w.alloc (.cells #[.int .i64 e, .int .i64 p, .slice A n c] 31)) := Below.alloc (Below.refl _ _) (Nat.le_refl _) _
  go_enter Try.func108, Try.ntmps108
  go_wp2
  go_loopw [3] (fun s wr => ∃ j : Nat, j ≤ n ∧ s = .int .i64 (j : Int) ∧ (∀ i, i < j → okN l i = true) ∧ Blk wr w.heap.size 31 #[.int .i64 e, .int .i64 p, .slice A n c] ∧ Below w.heap.size w wr) (fun s _ => ((n : Int) - intOf s).toNat)
  case atStart => exact ⟨0, by omega, rfl, fun i hi => by omega, hB0, hb0⟩
  case round =>
    clear hB0 hb0
    obtain ⟨j, hj, rfl, hok, hB, hb⟩ := hrel
    obtain ⟨wo, rfl⟩ : ∃ wo : World, wo = wr := ⟨_, rfl⟩
    have hs := hb.size
    have cB := hB.cell
    have lB := hB.lt
    by_cases hlt : j < n
    · obtain ⟨b, o, rfl, hbb, hc⟩ := hr.plain (by omega) (by omega)
      have hg : l[j]? = some l[j] := List.getElem?_eq_getElem (by omega)
      have m1 : wo.cell? ⟨b, o + j, none⟩ = some (.int .i64 l[j]) := by rw [hb.cell (p := ⟨b, _, none⟩) hbb]; exact hc _ _ (ints_get hg)
      have hbw : b < wo.heap.size := by omega
      have hlj : (j : Int) < n := by omega
      generalize l[j] = x at *
      by_cases h1 : 0 ≤ x
      · have c1 : decide (x < 0) = false := by simp; omega
        by_cases h2 : x < 8
        · have c2 : decide (8 ≤ x) = false := by simp; omega
          rcases Nat.eq_zero_or_pos j with h0 | h0
          · subst h0
            simp only [Nat.zero_mul, Nat.add_zero] at m1
            rw [show ((0 : Nat) : Int) = 0 from rfl]
            have HO : Hid (∀ i, i < 1 → okN l i = true) := show ∀ i, i < 1 → okN l i = true from fun i hi => by
              obtain rfl : i = 0 := by omega
              rw [okN_zero hg]
              simp [h1, h2]
            clear hc hok hr hg h1 h2
            go_wp2
            refine wp_region_ext_lit (by kernel_rfl) (by kernel_rfl) ?_
            (repeat (first | ((with_reducible refine wpQuiet_step (fun K hK => ?_)); go_simp; first | ((with_reducible refine hK _ ?_); clear hK K) | (apply Exists.intro; (with_reducible refine ⟨fun _ => ?_, hK _ ?_⟩); skip; clear hK K)) | ((with_reducible refine quiet_skipN ?_ (fun K hK => ?_)); (rfl); go_simp; (with_reducible refine hK _ ?_); clear hK K)))
            (with_reducible refine wpQuiet_nil ?_); intro _ hw'; obtain ⟨Y, hw''⟩ := hw'; subst hw''
            go_wp2
            go_roundw
            case rel => exact ⟨1, by omega, rfl, HO.out, by (repeat' (first | with_reducible exact hB | with_reducible refine Blk.ext ?_ _ | with_reducible refine Blk.alloc ?_ _ | with_reducible apply Blk.set_to | with_reducible refine Blk.far ?_ ?_ _ | rfl | (simp [World.size_ext]; done) | (simp [World.size_ext]; omega))), by (repeat' (first | with_reducible exact Below.refl _ _ | with_reducible refine Below.ext ?_ ?_ _ | with_reducible refine Below.alloc ?_ ?_ _ | with_reducible refine Below.setCell ?_ ?_ _ | with_reducible refine Below.drew ?_ | with_reducible assumption | (simp [World.size_ext]; done) | (simp [World.size_ext]; omega)))⟩
            case measure => simp [intOf]; omega
          · obtain ⟨m, rfl⟩ : ∃ m, j = m + 1 := ⟨j - 1, by omega⟩
            have hg' : l[m]? = some l[m] := List.getElem?_eq_getElem (by omega)
            have m3 : wo.cell? ⟨b, o + m, none⟩ = some (.int .i64 l[m]) := by rw [hb.cell (p := ⟨b, _, none⟩) hbb]; exact hc _ _ (ints_get hg')
            have HO := hide (okN_succ hg hg')
            generalize l[m] = y at *
            have c5 : decide ((0 : Int) < (m : Int) + 1) = true := by simp only [decide_eq_true_eq]; omega
            have c6 : (0 : Int) < (m : Int) + 1 := by omega
            have k1 : IntKind.i64.wrap (m : Int) = (m : Int) := IntWalk.i64_in _ (by omega)
            have k3 : (m : Int) < n := by omega
            have k5 : m < n := by omega
            have k6 : (m : Int) + 1 < n := by omega
            have k7 : m + 1 < n := by omega
            have k8 : (0 : Int) ≤ (m : Int) + 1 := by omega
            have k9 : ((m : Int) + 1).toNat = m + 1 := by omega
            by_cases h3 : y < x
            · have c3 : decide (x ≤ y) = false := by simp; omega
              have HK : Hid (∀ i, i < m + 1 + 1 → okN l i = true) := show ∀ i, i < m + 1 + 1 → okN l i = true from fun i hi => by
                rcases Nat.lt_or_ge i (m + 1) with h' | h'
                · exact hok i h'
                · obtain rfl : i = m + 1 := by omega
                  rw [HO.out]
                  simp [h1, h2, h3]
              clear hc hok hr hg hg' h1 h2 HO
              go_wp2
              refine wp_region_ext_lit (by kernel_rfl) (by kernel_rfl) ?_
              (repeat (first | ((with_reducible refine wpQuiet_step (fun K hK => ?_)); go_simp; first | ((with_reducible refine hK _ ?_); clear hK K) | (apply Exists.intro; (with_reducible refine ⟨fun _ => ?_, hK _ ?_⟩); skip; clear hK K)) | ((with_reducible refine quiet_skipN ?_ (fun K hK => ?_)); (rfl); go_simp; (with_reducible refine hK _ ?_); clear hK K)))
              (with_reducible refine wpQuiet_nil ?_); intro _ hw'; obtain ⟨Y, hw''⟩ := hw'; subst hw''
              go_wp2
              go_roundw
              case rel => exact ⟨m + 1 + 1, by omega, by go_num, HK.out, by (repeat' (first | with_reducible exact hB | with_reducible refine Blk.ext ?_ _ | with_reducible refine Blk.alloc ?_ _ | with_reducible apply Blk.set_to | with_reducible refine Blk.far ?_ ?_ _ | rfl | (simp [World.size_ext]; done) | (simp [World.size_ext]; omega))), by (repeat' (first | with_reducible exact Below.refl _ _ | with_reducible refine Below.ext ?_ ?_ _ | with_reducible refine Below.alloc ?_ ?_ _ | with_reducible refine Below.setCell ?_ ?_ _ | with_reducible refine Below.drew ?_ | with_reducible assumption | (simp [World.size_ext]; done) | (simp [World.size_ext]; omega)))⟩
              case measure => simp [intOf]; omega
            · have c3 : decide (x ≤ y) = true := by simp; omega
              have HF : Hid (rightV e p l = false) := rightV_not (upB_not (i := m + 1) (by omega) (by rw [HO.out]; simp [h3]))
              clear hc hok hr hg hg' h1 h2 HO
              go_wp2
              refine wp_region_ext_lit (by kernel_rfl) (by kernel_rfl) ?_
              (repeat (first | ((with_reducible refine wpQuiet_step (fun K hK => ?_)); go_simp; first | ((with_reducible refine hK _ ?_); clear hK K) | (apply Exists.intro; (with_reducible refine ⟨fun _ => ?_, hK _ ?_⟩); skip; clear hK K)) | ((with_reducible refine quiet_skipN ?_ (fun K hK => ?_)); (rfl); go_simp; (with_reducible refine hK _ ?_); clear hK K)))
              (with_reducible refine wpQuiet_nil ?_); intro _ hw'; obtain ⟨Y, hw''⟩ := hw'; subst hw''
              go_wp2
              go_ret
              exact ⟨by rw [HF.out] <;> rfl, by (repeat' (first | with_reducible exact Below.refl _ _ | with_reducible refine Below.ext ?_ ?_ _ | with_reducible refine Below.alloc ?_ ?_ _ | with_reducible refine Below.setCell ?_ ?_ _ | with_reducible refine Below.drew ?_ | with_reducible assumption | (simp [World.size_ext]; done) | (simp [World.size_ext]; omega)))⟩
        · have c2 : decide (8 ≤ x) = true := by simp; omega
          have HF : Hid (rightV e p l = false) := rightV_not (upB_not (i := j) (by omega) (okN_lo hg (by omega)))
          clear hc hok hr hg h1 h2
          go_wp2
          refine wp_region_ext_lit (by kernel_rfl) (by kernel_rfl) ?_
          (repeat (first | ((with_reducible refine wpQuiet_step (fun K hK => ?_)); go_simp; first | ((with_reducible refine hK _ ?_); clear hK K) | (apply Exists.intro; (with_reducible refine ⟨fun _ => ?_, hK _ ?_⟩); skip; clear hK K)) | ((with_reducible refine quiet_skipN ?_ (fun K hK => ?_)); (rfl); go_simp; (with_reducible refine hK _ ?_); clear hK K)))
          (with_reducible refine wpQuiet_nil ?_); intro _ hw'; obtain ⟨Y, hw''⟩ := hw'; subst hw''
          go_wp2
          go_ret
          exact ⟨by rw [HF.out] <;> rfl, by (repeat' (first | with_reducible exact Below.refl _ _ | with_reducible refine Below.ext ?_ ?_ _ | with_reducible refine Below.alloc ?_ ?_ _ | with_reducible refine Below.setCell ?_ ?_ _ | with_reducible refine Below.drew ?_ | with_reducible assumption | (simp [World.size_ext]; done) | (simp [World.size_ext]; omega)))⟩
      · have c1 : decide (x < 0) = true := by simp; omega
        have HF : Hid (rightV e p l = false) := rightV_not (upB_not (i := j) (by omega) (okN_lo hg (by omega)))
        clear hc hok hr hg h1
        go_wp2
        refine wp_region_ext_lit (by kernel_rfl) (by kernel_rfl) ?_
        (repeat (first | ((with_reducible refine wpQuiet_step (fun K hK => ?_)); go_simp; first | ((with_reducible refine hK _ ?_); clear hK K) | (apply Exists.intro; (with_reducible refine ⟨fun _ => ?_, hK _ ?_⟩); skip; clear hK K)) | ((with_reducible refine quiet_skipN ?_ (fun K hK => ?_)); (rfl); go_simp; (with_reducible refine hK _ ?_); clear hK K)))
        (with_reducible refine wpQuiet_nil ?_); intro _ hw'; obtain ⟨Y, hw''⟩ := hw'; subst hw''
        go_wp2
        go_ret
        exact ⟨by rw [HF.out] <;> rfl, by (repeat' (first | with_reducible exact Below.refl _ _ | with_reducible refine Below.ext ?_ ?_ _ | with_reducible refine Below.alloc ?_ ?_ _ | with_reducible refine Below.setCell ?_ ?_ _ | with_reducible refine Below.drew ?_ | with_reducible assumption | (simp [World.size_ext]; done) | (simp [World.size_ext]; omega)))⟩
    · obtain rfl : j = n := by omega
      have HF : Hid (rightV e p l = (decide (1 ≤ e) && decide (e ≤ 4611686018427387904) && hasB l p)) := show rightV e p l = _ from by
        rw [rightV_up, upB_of (fun i hi => hok i (by omega)), Bool.true_and]
      have hH := rhas_any A j c l p wo ((hr.below hb).more hs) hn
      clear hok hr
      by_cases q1 : 1 ≤ e
      · by_cases q2 : e ≤ 4611686018427387904
        · have d1 : decide (1 ≤ e) = true := decide_eq_true q1
          have d2 : decide (e ≤ 4611686018427387904) = true := decide_eq_true q2
          go_wp2_with (go_at_call 38; (with_reducible refine hH.mono ?_); rintro e w1 ⟨rfl, rfl⟩)
          go_ret
          exact ⟨by rw [HF.out, d1, d2] <;> rfl, hb⟩
        · have d2 : decide (e ≤ 4611686018427387904) = false := decide_eq_false q2
          have d1 : decide (1 ≤ e) = true := decide_eq_true q1
          go_wp2
          go_ret
          exact ⟨by rw [HF.out, d1, d2] <;> rfl, hb⟩
      · have d1 : decide (1 ≤ e) = false := decide_eq_false q1
        go_wp2
        go_ret
        exact ⟨by rw [HF.out, d1] <;> rfl, hb⟩
theorem rightV_one {n : Int} {ms : List Int} : rightV 1 n ms = (risingB ms && hasB ms n) := by simp [rightV]
end Go.Proofs.Ytjhcgnmibnjocaa

/-! The document's Active, Change. -/
namespace Go.Proofs.Ytjhcgnmibnjocaa
open Go.RowKit
set_option linter.unusedVariables false
set_option linter.unusedSimpArgs false
end Go.Proofs.Ytjhcgnmibnjocaa

/-! A copy of ints by append; what lies behind writes into one slice. -/
namespace Go.Proofs.Ytjhcgnmibnjocaa
open Go.RowKit
set_option linter.unusedVariables false
set_option linter.unusedSimpArgs false
theorem run_copy (w : World) (A : Option Addr) (n c : Nat) (l : List Int) (hr : Reads w w.heap.size 1 A n (ints l)) (hn : n * 8 ≤ 140737488355328) :
    ∃ v w', (Builtin.append_ #[29, 29] 29 #[.slice (some ⟨w.heap.size, 0, none⟩) 0 0, .slice A n c]).run Try.prog (w.alloc (.cells #[] 3)) = .ok v w' ∧ w'.ownsRow w.heap.size 3 1 v n (ints l) ∧ Below w.heap.size w w' := by
  obtain ⟨i0, hi, hz0, hz1, hz2⟩ := info_parts infoI64
  have hl := reads_len hr
  have hb := Below.alloc (Below.refl w.heap.size w) (Nat.le_refl _) (.cells #[] 3)
  cases A with
  | none =>
    have h0 : n = 0 := by
      rcases Nat.eq_zero_or_pos n with h | h
      · exact h
      · obtain ⟨_, e, _⟩ := hr.2 h; cases e
    subst h0
    have hl0 : l = [] := List.eq_nil_of_length_eq_zero hl
    subst hl0
    have h := run_append_room_src (P := Try.prog) (w.alloc (.cells #[] 3)) 29 29 29 3 i0 Try.underlying29 hi w.heap.size 0 0 0 (.slice none 0 c) 0 [] (Src.ofNil (w.alloc (.cells #[] 3)) Try.underlying29 c) (Nat.le_refl _) (fun j hj => by cases hj) (fun j hj => by cases hj)
    exact ⟨_, _, h, World.ownsRow_made w #[] 0 (Nat.le_refl _) (Nat.zero_le _) rfl, hb⟩
  | some ad =>
    obtain ⟨v, w', h1, h2, h3, _⟩ := run_append_own (P := Try.prog) (w.alloc (.cells #[] 3)) w.heap.size 29 29 3 i0 (.int .i64 0) 1 8 Try.underlying29 hi hz0 hz1 hz2 rfl (by decide) (.slice (some ⟨w.heap.size, 0, none⟩) 0 0) 0 [] (World.ownsRow_made w #[] 0 (Nat.le_refl _) (Nat.zero_le _) rfl) ad n c (ints l) (by simp [ints_length, hl])
      (fun j u hu => by
        have hn0 : 0 < n := by
          have := (List.getElem?_eq_some_iff.1 hu).1
          rw [ints_length] at this
          omega
        obtain ⟨ad', e, hb', h⟩ := hr.2 hn0
        cases e
        rw [World.cell?_alloc_lt w _ _ (by rw [block_of_add]; exact hb')]
        exact h j u hu)
      (fun u hu => by simp only [ints, List.mem_map] at hu; obtain ⟨x, _, rfl⟩ := hu; rfl) (by unfold maxLen; omega) (by omega) (by simp)
    exact ⟨v, w', h1, by simpa using h2, hb.grown h3 (by simp) (by intro k hk; simp [Value.ownBlock] at hk; omega)⟩
theorem wpList_append_run {P : Program} {ops : Array Oper} {rest : List Oper} {o : Oper} {a : Act} {w w' : World} {v sv xv : Value} {Q : Exit → Act → World → Prop} (hgd : o.guard = none) (s x : Operand) (t : TypeId)
    (ho : o.op = .call { callee := .builtin .append, args := #[s, x], argTypes := #[t, t] }) (hs : a.eval s = sv) (hx : a.eval x = xv) (hr : (Builtin.append_ #[t, t] o.type #[sv, xv]).run P w = .ok v w')
    (h : wpList P ops Q rest (a.put o.dst v) w') : wpList P ops Q (o :: rest) a w :=
  wpList_plain hgd fun _ hK => by
    unfold Oper.wp execOp
    simp only [ho, resolve, invoke, builtin, Sem.run_bind, Sem.run_pure, Result.andThen_ok, List.map_toArray, List.map_cons, List.map_nil, hs, hx, hr]
    exact hK _ _ h
/-- Nothing but the block behind a slice is changed. -/
structure Scr (A : Option Addr) (w w' : World) : Prop where
  os : w'.os = w.os
  tape : w'.tape = w.tape
  output : w'.output = w.output
  size : w.heap.size ≤ w'.heap.size
  block : ∀ k, k < w.heap.size → (∀ a, A = some a → k ≠ a.block) → w'.heap[k]? = w.heap[k]?
theorem Scr.refl (A : Option Addr) (w : World) : Scr A w w := ⟨rfl, rfl, rfl, Nat.le_refl _, fun _ _ _ => rfl⟩
theorem Scr.set_ {A : Option Addr} {w W : World} (h : Scr A w W) {p : Addr} (hp : ∃ a, A = some a ∧ p.block = a.block) (u : Value) : Scr A w (W.setCell p u) := by
  obtain ⟨a, ha, hpa⟩ := hp
  exact ⟨h.os, h.tape, h.output, by simpa using h.size, fun k hk hg => (Below.heap_setCell W p u k (by rw [hpa]; exact hg a ha)).trans (h.block k hk hg)⟩
section
variable {A : Option Addr} {w w' : World}
theorem Blk.scr {b : Nat} {t : TypeId} {cs : Array Value} (h : Blk w b t cs) (hs : Scr A w w') (hne : ∀ a, A = some a → b ≠ a.block) : Blk w' b t cs := (hs.block b h.lt hne).trans h
theorem Ctl.scr {g bm bs : Nat} {k : Vw} (h : Ctl w g bm bs k) (hs : Scr A w w') (hg : ∀ a, A = some a → g ≠ a.block) (hm : ∀ a, A = some a → bm ≠ a.block) (hb : ∀ a, A = some a → bs ≠ a.block) : Ctl w' g bm bs k :=
  h.keep (hs.block _ h.lt.1 hg) (hs.block _ h.lt.2.1 hm) (hs.block _ h.lt.2.2 hb)
theorem Reads.scr {B : Option Addr} {size n : Nat} {xs : List Value} (h : Reads w w.heap.size size B n xs) (hs : Scr A w w') (hne : ∀ a, A = some a → ∀ b, B = some b → b.block ≠ a.block) : Reads w' w'.heap.size size B n xs :=
  ⟨h.1, fun hn => by
    obtain ⟨ad, e, hb, hc⟩ := h.2 hn
    refine ⟨ad, e, Nat.lt_of_lt_of_le hb hs.size, fun j u hu => ?_⟩
    have : w'.cell? (ad.add j) = w.cell? (ad.add j) := by
      unfold World.cell?
      rw [hs.block (ad.add j).block (by rw [block_of_add]; exact hb) (fun a ha => by rw [block_of_add]; exact hne a ha _ e)]
    exact this.trans (hc j u hu)⟩
theorem Scr.below {B : Nat} (hs : Scr A w w') (hB : B ≤ w.heap.size) (h : ∀ a, A = some a → B ≤ a.block) : Below B w w' :=
  ⟨hs.os, hs.tape, hs.output, hs.size, fun k hk => hs.block k (by omega) (fun a ha => by have := h a ha; omega)⟩
end
/-- The row behind a slice may be written. -/
def Wr (w : World) (A : Option Addr) (m : Nat) : Prop := 0 < m → ∃ b cs, A = some ⟨b, 0, none⟩ ∧ Blk w b 3 cs ∧ m ≤ cs.size
theorem Wr.of_own {w : World} {base n c : Nat} {A : Option Addr} {xs : List Value} (h : w.ownsRow base 3 1 (.slice A n c) n xs) : Wr w A n := fun hn => by
  rcases h.2 with ⟨_, h'⟩ | ⟨g, cap, cur, hv, hb, hh, hnc, hm, hsz, htk⟩
  · omega
  · cases hv
    exact ⟨g, cur, rfl, hh, by omega⟩
theorem Wr.keep {w w' : World} {A : Option Addr} {m : Nat} (h : Wr w A m) (hk : ∀ a, A = some a → a.block < w.heap.size → w'.heap[a.block]? = w.heap[a.block]?) : Wr w' A m := fun hm => by
  obtain ⟨b, cs, e, hB, hc⟩ := h hm
  exact ⟨b, cs, e, (hk _ e hB.lt).trans hB, hc⟩
theorem Wr.below {w w' : World} {A : Option Addr} {m : Nat} (h : Wr w A m) (hb : Below w.heap.size w w') : Wr w' A m := h.keep fun a _ hl => hb.block _ hl
theorem Wr.nil (w : World) (A : Option Addr) : Wr w A 0 := fun h => absurd h (by omega)
end Go.Proofs.Ytjhcgnmibnjocaa

/-! A view off a reader: the program's. -/
namespace Go.Proofs.Ytjhcgnmibnjocaa
open Go.RowKit
set_option linter.unusedVariables false
set_option linter.unusedSimpArgs false
/-- Numbers off bytes. -/
def glP : Nat → Rest → List Int × Rest
  | 0, r => ([], r)
  | j + 1, r => ((glP j r).1 ++ [zag (numP (glP j r).2).1], (numP (glP j r).2).2)
theorem glP_length : ∀ (j : Nat) (r : Rest), (glP j r).1.length = j
  | 0, _ => rfl
  | j + 1, r => by simp [glP, glP_length j r]
structure Gv where
  e : Int
  p : Int
  l : List Int
  r : Rest
def gvP (r : Rest) : Gv := ⟨zag (numP r).1, zag (numP (numP r).2).1, (glP (countP 8 (numP (numP r).2).2).1 (countP 8 (numP (numP r).2).2).2).1, (glP (countP 8 (numP (numP r).2).2).1 (countP 8 (numP (numP r).2).2).2).2⟩
def getV (r : Rest) : Gv := if (gvP r).r.e ≠ 0 then ⟨0, 0, [], (gvP r).r⟩ else gvP r
theorem count8_le (r : Rest) : (countP 8 r).1 ≤ 8 := by
  unfold countP
  split
  · simp
  · rename_i h
    have : ¬(8 : Int).toNat < (numP r).1 := fun h' => h (.inl h')
    simpa using this
theorem ri_any (g b : Nat) (r : Rest) (w : World) (h : Rdr w g b r.xs r.e) :
    Calls Try.prog 56 #[.pointer (some ⟨g, 0, none⟩)] w fun e' w' => e' = .returned (.int .i64 (zag (numP r).1)) ∧ Rdr w' g b (numP r).2.xs (numP r).2.e ∧ Only w w' g := rdint_any g b r.xs r.e w h
theorem rc_any (g b : Nat) (r : Rest) (w : World) (h : Rdr w g b r.xs r.e) :
    Calls Try.prog 97 #[.pointer (some ⟨g, 0, none⟩), .int .i64 8] w fun e' w' => e' = .returned (.int .i64 ((countP 8 r).1 : Nat)) ∧ Rdr w' g b (countP 8 r).2.xs (countP 8 r).2.e ∧ Only w w' g := rdcount_any g b r.xs r.e 8 w h (by unfold I64; omega)
theorem gvP_eq {r r1 r2 r3 : Rest} {n1 n2 n3 : Nat} (h1 : numP r = (n1, r1)) (h2 : numP r1 = (n2, r2)) (h3 : countP 8 r2 = (n3, r3)) : gvP r = ⟨zag n1, zag n2, (glP n3 r3).1, (glP n3 r3).2⟩ := by
  unfold gvP
  simp only [h1, h2, h3]
theorem Rdr.low {w w' : World} {B g b : Nat} {xs : List Nat} {e : Int} (h : Rdr w g b xs e) (hb : Below B w w') (h1 : g < B) (h2 : b < B) : Rdr w' g b xs e := by
  have hl := h.lt
  obtain ⟨⟨A, c, k1, k2, k3, k4⟩, hn⟩ := h
  exact ⟨⟨A, c, k1.below hb h1, k2.keep (Nat.lt_of_lt_of_le hl.2 hb.size) (hb.block b h2), k3, k4⟩, hn⟩
theorem Only.low {w w' w'' : World} {g B : Nat} (h : Only w w' g) (hb : Below B w' w'') (hB : w.heap.size ≤ B) : Only w w'' g :=
  ⟨hb.os.trans h.os, hb.tape.trans h.tape, hb.output.trans h.output, Nat.le_trans h.size hb.size, fun k hk hg => (hb.block k (by omega)).trans (h.block k hk hg)⟩
theorem getV_bd (r : Rest) : (getV r).l.length ≤ 8 := by
  unfold getV
  split
  · simp
  · unfold gvP
    rw [glP_length]
    exact count8_le _
set_option maxRecDepth 100000 in
set_option maxHeartbeats 4000000 in
theorem pget_any (g b : Nat) (r : Rest) (w : World) (h : Rdr w g b r.xs r.e) :
    Calls Try.prog 57 #[.pointer (some ⟨g, 0, none⟩)] w fun o w' => (∃ v, o = .returned (.agg #[.int .i64 (getV r).e, .int .i64 (getV r).p, v]) ∧ w'.ownsRow w.heap.size 3 1 v (getV r).l.length (ints (getV r).l)) ∧ Rdr w' g b (getV r).r.xs (getV r).r.e ∧ Only w w' g := by
  have hlt := h.lt
  obtain ⟨i0, hi, hz0, hz1, hz2⟩ := info_parts infoI64
  have h0 : Rdr (w.alloc (.cells #[.int .i64 0, .int .i64 0, .slice none 0 0] 39)) g b r.xs r.e := h.below (Below.alloc (Below.refl _ _) (Nat.le_refl _) _)
  have hZ := Blk.new w 39 #[.int .i64 0, .int .i64 0, .slice none 0 0]
  have hi1 := fun w' h' => ri_any g b r w' h'
  have h8 := fun r2 => count8_le r2
  rcases hq1 : numP r with ⟨n1, r1⟩
  rw [hq1] at hi1
  have hi2 := fun w' h' => ri_any g b r1 w' h'
  rcases hq2 : numP r1 with ⟨n2, r2⟩
  rw [hq2] at hi2
  have hi3 := fun w' h' => rc_any g b r2 w' h'
  replace h8 := h8 r2
  rcases hq3 : countP 8 r2 with ⟨n3, r3⟩
  rw [hq3] at hi3 h8
  have hgv := gvP_eq hq1 hq2 hq3
  unfold getV
  rw [hgv]
  simp only at hi1 hi2 hi3 h8 ⊢
  clear hq1 hq2 hq3 hgv
  generalize zag n1 = E at *
  generalize zag n2 = P at *
  go_enter Try.func57, Try.ntmps57
  go_wp2_with (first | (go_at_call 56; (with_reducible refine (hi1 _ h0).mono ?_); rintro e w1 ⟨rfl, hr1, ho1⟩) | (go_at_call 56; (with_reducible refine (hi2 _ hr1).mono ?_); rintro e w2 ⟨rfl, hr2, ho2⟩; have hr2' := Rdr.below hr2 (Below.alloc (Below.refl _ _) (Nat.le_refl _) (.cells #[.int .i64 E, .int .i64 P, .slice none 0 0] 39))) | (go_at_call 97; (with_reducible refine (hi3 _ hr2').mono ?_); rintro e w3 ⟨rfl, hr3, ho3⟩))
  have hs1 := ho1.size
  have hs2 := ho2.size
  have hs3 := ho3.size
  simp only [World.size_alloc] at hs1 hs3
  have hV := Blk.only (Blk.new w2 39 #[.int .i64 E, .int .i64 P, .slice none 0 0]) ho3 (by omega)
  have hZ3 := Blk.only ((Blk.only (Blk.only hZ ho1 (by omega)) ho2 (by omega)).alloc (.cells #[.int .i64 E, .int .i64 P, .slice none 0 0] 39)) ho3 (by omega)
  have hO3 : Only w w3 g := ((((Only.refl w g).alloc _).trans ho1).trans ho2).alloc (.cells #[.int .i64 E, .int .i64 P, .slice none 0 0] 39) |>.trans ho3
  clear hi1 hi2 hi3 h0 hZ hr1 ho1 hr2 hr2' ho2 ho3
  have hp2 : w.heap.size + 1 ≤ w2.heap.size := by omega
  generalize w2.heap.size = pv at *
  go_loopw [11] (fun vi wr => ∃ (j : Nat) (v : Value), j ≤ n3 ∧ vi = .int .i64 (j : Int) ∧ Blk wr pv 39 #[.int .i64 E, .int .i64 P, v] ∧ wr.ownsRow (pv + 1) 3 1 v j (ints (glP j r3).1) ∧ Rdr wr g b (glP j r3).2.xs (glP j r3).2.e ∧ Blk wr w.heap.size 39 #[.int .i64 0, .int .i64 0, .slice none 0 0] ∧ Only w wr g) (fun vi _ => ((n3 : Int) - intOf vi).toNat)
  case atStart => exact ⟨0, _, by omega, rfl, hV, World.ownsRow_nil _ _ _ _, hr3, hZ3, hO3⟩
  case round =>
    clear hV hr3 hZ3 hO3
    obtain ⟨j, v, hj, rfl, hV, hown, hr, hZ, hO⟩ := hrel
    obtain ⟨wo, rfl⟩ : ∃ wo : World, wo = wr := ⟨_, rfl⟩
    have cV := hV.cell
    have fV := hV.frozen
    have lV := hV.lt
    have hrl := hr.lt
    by_cases hlt' : j < n3
    · have hjl : (j : Int) < n3 := by omega
      have hgl : glP (j + 1) r3 = ((glP j r3).1 ++ [zag (numP (glP j r3).2).1], (numP (glP j r3).2).2) := rfl
      have hI := fun w' h' => ri_any g b (glP j r3).2 w' h'
      have hgl1 := glP_length j r3
      generalize (glP j r3).1 = L at *
      generalize (glP j r3).2 = R at *
      rcases hq : numP R with ⟨m, R'⟩
      rw [hq] at hI hgl
      simp only at hI hgl
      generalize zag m = y at *
      have hG := hide hgl
      clear hgl hq
      go_wp2
      refine wp_region_only g [1] [0, 2, 6] [(true, false, 0), (true, true, 1), (true, false, 2), (false, true, 3), (false, true, 4), (false, false, 5), (true, false, 6), (false, false, 7)] (by kernel_rfl) (by kernel_rfl) (fun Y => ?_); simp only [List.map_cons, List.map_nil, List.getD_cons_zero, List.getD_cons_succ]
      have hVY := Blk.ext hV Y
      have hrY := Rdr.below hr (World.below_ext wo Y)
      have hgp : pv ≠ g := by omega
      (repeat (first | (refine First.wpF_pure (fun K hK => ?_); go_simp; first | (refine hK _ _ ?_; clear hK K) | (apply Exists.intro; refine ⟨fun _ => ?_, hK _ _ ?_⟩; fail)) | (refine First.wpF_free (fun K hK => ?_); go_simp; first | (refine hK _ _ ?_; clear hK K))))
      (refine first_read rfl (v := v) (fun w' hw' => ?_) (fun K hK => ?_); rotate_left 1; go_simp; refine hK _ _ ?_; clear hK K; rotate_left 1; (have hB' := Blk.only hVY hw' hgp; have c' := Blk.cell hB'; go_simp))
      (repeat (first | (refine First.wpF_pure (fun K hK => ?_); go_simp; first | (refine hK _ _ ?_; clear hK K) | (apply Exists.intro; refine ⟨fun _ => ?_, hK _ _ ?_⟩; fail)) | (refine First.wpF_free (fun K hK => ?_); go_simp; first | (refine hK _ _ ?_; clear hK K))))
      refine First.wpF_must (fun K hK => ?_)
      go_wp2_with (go_at_call 56; (with_reducible refine (hI _ hrY).mono ?_); rintro e w5 ⟨rfl, hr5, ho5⟩)
      (refine hK _ _ (fun hnd => by first | exact Bool.noConfusion hnd | exact ho5) ?_; clear hK K)
      have hs5 := ho5.size
      simp only [World.size_ext] at hs5
      have hown5 := own_only (own_ext hown Y) ho5 (by omega)
      have hV5 := Blk.only hVY ho5 hgp
      have hZ5 := Blk.only (Blk.ext hZ Y) ho5 (by omega)
      have hO5 : Only w w5 g := (hO.ext Y).trans ho5
      clear hI hr hrY hVY hown hV hZ cV fV hO ho5
      (repeat (first | (refine First.wpF_pure (fun K hK => ?_); go_simp; first | (refine hK _ _ ?_; clear hK K) | (apply Exists.intro; refine ⟨fun _ => ?_, hK _ _ ?_⟩; fail)) | (refine First.wpF_free (fun K hK => ?_); go_simp; first | (refine hK _ _ ?_; clear hK K))))
      refine First.wpF_must (fun K hK => ?_)
      go_wp2
      (refine hK _ _ (fun hnd => by first | exact Bool.noConfusion hnd | exact Only.alloc (Only.refl _ _) _) ?_; clear hK K)
      (repeat (first | (refine First.wpF_pure (fun K hK => ?_); go_simp; first | (refine hK _ _ ?_; clear hK K) | (apply Exists.intro; refine ⟨fun _ => ?_, hK _ _ ?_⟩; fail)) | (refine First.wpF_free (fun K hK => ?_); go_simp; first | (refine hK _ _ ?_; clear hK K))))
      refine First.wpF_must (fun K hK => ?_)
      go_wp2_with (at_builtin; refine wpList_append_own _ rfl _ _ 29 rfl (pv + 1) 3 i0 (.int .i64 0) 1 8 Try.underlying29 hi hz0 hz1 hz2 rfl (by decide) _ _ _ rfl (own_alloc hown5 _) _ 1 1 [.int .i64 y] rfl rfl ?c1 ?c2 ?c3 ?c4 ?c5 ?_)
      case c1 => exact cells_new _ #[.int .i64 y] _
      case c2 => intro u hu; simp at hu; subst hu; rfl
      case c3 => unfold maxLen; omega
      case c4 => omega
      case c5 => simp; omega
      intro v' w6 hown6 hgrow hnil
      have hb6 : Below (pv + 1) (w5.alloc (.cells #[.int .i64 y] 3)) w6 := own_below (Below.refl _ _) (own_alloc hown5 _) hgrow (Nat.le_refl _) (by simp; omega)
      obtain ⟨A6, k6, rfl, hk6⟩ := own_sl hown6
      have hV6 := (hV5.alloc (.cells #[.int .i64 y] 3)).below hb6 (by omega)
      have cV6 := hV6.cell
      have fV6 := hV6.frozen
      have lV6 := hV6.lt
      go_wp2
      (refine hK _ _ (fun hnd => by first | exact Bool.noConfusion hnd | exact Only.refl _ _ | ((repeat (refine Only.set_ ?_ (.inl rfl) _)); exact Only.refl _ _)) ?_; clear hK K)
      (repeat (first | (refine First.wpF_pure (fun K hK => ?_); go_simp; first | (refine hK _ _ ?_; clear hK K) | (apply Exists.intro; refine ⟨fun _ => ?_, hK _ _ ?_⟩; fail)) | (refine First.wpF_free (fun K hK => ?_); go_simp; first | (refine hK _ _ ?_; clear hK K))))
      refine First.wpF_must (fun K hK => ?_)
      go_wp2
      (refine hK _ _ (fun hnd => by first | exact Bool.noConfusion hnd | exact Only.refl _ _ | ((repeat (refine Only.set_ ?_ (.inl rfl) _)); exact Only.refl _ _)) ?_; clear hK K)
      refine First.wpF_nil ?_
      go_wp2
      go_roundw
      case rel =>
        refine ⟨j + 1, .slice A6 (j + 1) k6, by omega, by go_num, Blk.set_to hV6 rfl, ?_, ?_, ((hZ5.alloc _).below hb6 (by omega)).far (by show w.heap.size ≠ pv; omega) _, (Only.low (hO5.alloc _) hb6 (by omega)).set_ (.inr (by show w.heap.size ≤ pv; omega)) _⟩
        · rw [hG.out]
          simp only [ints_append]
          exact own_set hown6 (by show pv < pv + 1; omega) _
        · rw [hG.out]
          exact Rdr.only (Rdr.low (Rdr.below hr5 (Below.alloc (Below.refl _ _) (Nat.le_refl _) (.cells #[.int .i64 y] 3))) hb6 (by omega) (by omega)) (Only.setCell w6 pv 2 _) (by omega) (by omega)
      case measure => simp [intOf]; omega
    · obtain rfl : n3 = j := by omega
      have hgl1 := glP_length n3 r3
      generalize hgl : glP n3 r3 = GL at *
      obtain ⟨L, R⟩ := GL
      simp only at hr hown hgl1 ⊢
      obtain ⟨A6, k6, rfl, hk6⟩ := own_sl hown
      have cZ := hZ.cell
      have fZ := hZ.frozen
      have lZ := hZ.lt
      by_cases he : R.e = 0
      · have he' : (R.e != 0) = false := by simpa using he
        have H := hide (⟨hown, hr, hO⟩ : _ ∧ _ ∧ _)
        go_wp2_with (go_at_call 98; (with_reducible refine (rderr_any _ _ _ _ _ hr).mono ?_); rintro e w8 ⟨rfl, hw8⟩; subst hw8)
        all_goals
          obtain ⟨hown, hr, hO⟩ := H.out
          rw [he] at hr
          refine bodyPost_cell Try.results57 rfl (Blk.three hZ) Try.underlying39 rfl (by kernel_rfl) rfl ⟨⟨_, rfl, own_low (own_set (own_set (own_set hown (by show w.heap.size < pv + 1; omega) _) (by show w.heap.size < pv + 1; omega) _) (by show w.heap.size < pv + 1; omega) _) (by omega)⟩, ?_, ((hO.set_ (.inr (Nat.le_refl _)) _).set_ (.inr (Nat.le_refl _)) _).set_ (.inr (Nat.le_refl _)) _⟩
          exact Rdr.only hr ((((Only.refl wo w.heap.size).set_ (.inl rfl) _).set_ (.inl rfl) _).set_ (.inl rfl) _) (by omega) (by omega)
      · have he' : (R.e != 0) = true := by simpa using he
        have H := hide (⟨hown, hr, hO⟩ : _ ∧ _ ∧ _)
        go_wp2_with (go_at_call 98; (with_reducible refine (rderr_any _ _ _ _ _ hr).mono ?_); rintro e w8 ⟨rfl, hw8⟩; subst hw8)
        all_goals
          obtain ⟨hown, hr, hO⟩ := H.out
          refine bodyPost_cell Try.results57 rfl (Blk.three hZ) Try.underlying39 rfl (by kernel_rfl) rfl ⟨⟨_, rfl, World.ownsRow_nil _ _ _ _⟩, ?_, ((hO.set_ (.inr (Nat.le_refl _)) _).set_ (.inr (Nat.le_refl _)) _).set_ (.inr (Nat.le_refl _)) _⟩
          exact Rdr.only hr ((((Only.refl wo w.heap.size).set_ (.inl rfl) _).set_ (.inl rfl) _).set_ (.inl rfl) _) (by omega) (by omega)
end Go.Proofs.Ytjhcgnmibnjocaa

/-! A view off a reader: the document's. -/
namespace Go.Proofs.Ytjhcgnmibnjocaa
open Go.RowKit
set_option linter.unusedVariables false
set_option linter.unusedSimpArgs false
theorem Mrd.low {w w' : World} {B q : Nat} {A : Option Addr} {c : Nat} {l : List Nat} {a : Nat} {e : Int} (h : Mrd w q A c l a e) (hb : Below B w w') (h1 : q < B) (h2 : 0 < l.length → ∀ b, A = some b → b.block < B) : Mrd w' q A c l a e :=
  ⟨h.blk.below hb h1, ⟨h.row.1, fun hn => by
    obtain ⟨ad, e', hb', hc⟩ := h.row.2 hn
    exact ⟨ad, e', Nat.lt_of_lt_of_le hb' hb.size, fun j u hu => (hb.cell (by rw [block_of_add]; exact h2 hn _ e')).trans (hc j u hu)⟩⟩, h.ne, h.le⟩
theorem Mrd.far {w : World} {q : Nat} {A : Option Addr} {c : Nat} {l : List Nat} {a : Nat} {e : Int} (h : Mrd w q A c l a e) {p : Addr} (h1 : q ≠ p.block) (h2 : 0 < l.length → ∀ b, A = some b → b.block ≠ p.block) (u : Value) : Mrd (w.setCell p u) q A c l a e :=
  ⟨h.blk.far h1 u, ⟨h.row.1, fun hn => by
    obtain ⟨ad, e', hb', hc⟩ := h.row.2 hn
    refine ⟨ad, e', by simpa using hb', fun j u' hu => ?_⟩
    rw [World.cell?_setCell_other w _ _ u (fun he => h2 hn _ e' (by have := congrArg Addr.block he; rw [block_of_add] at this; first | exact this | exact this.symm))]
    exact hc j u' hu⟩, h.ne, h.le⟩
def Mst (w : World) (q : Nat) (A : Option Addr) (c : Nat) (l : List Nat) (r : Rest) : Prop := ∃ a e, Mrd w q A c l a e ∧ restP l a e = r
theorem di_any (q : Nat) (A : Option Addr) (c : Nat) (l : List Nat) (r : Rest) (hby : ∀ x ∈ l, x < 256) (hlen : l.length ≤ 140737488355328) (w : World) (h : Mst w q A c l r) :
    Calls Try.prog 60 #[.pointer (some ⟨q, 0, none⟩)] w fun e' w' => e' = .returned (.int .i64 (zag (numP r).1)) ∧ Mst w' q A c l (numP r).2 ∧ Only w w' q := by
  obtain ⟨a, e, hm, rfl⟩ := h
  exact dint_any q A c l a e w hm hby hlen
theorem dc_any (q : Nat) (A : Option Addr) (c : Nat) (l : List Nat) (r : Rest) (hby : ∀ x ∈ l, x < 256) (hlen : l.length ≤ 140737488355328) (w : World) (h : Mst w q A c l r) :
    Calls Try.prog 102 #[.pointer (some ⟨q, 0, none⟩), .int .i64 8] w fun e' w' => e' = .returned (.int .i64 ((countP 8 r).1 : Nat)) ∧ Mst w' q A c l (countP 8 r).2 ∧ Only w w' q := by
  obtain ⟨a, e, hm, rfl⟩ := h
  exact dcount_any q A c l a e w hm hby hlen
theorem Mst.below {w w' : World} {q : Nat} {A : Option Addr} {c : Nat} {l : List Nat} {r : Rest} (h : Mst w q A c l r) (hb : Below w.heap.size w w') : Mst w' q A c l r := by
  obtain ⟨a, e, hm, hr⟩ := h
  exact ⟨a, e, hm.below hb, hr⟩
theorem Mst.low {w w' : World} {B q : Nat} {A : Option Addr} {c : Nat} {l : List Nat} {r : Rest} (h : Mst w q A c l r) (hb : Below B w w') (h1 : q < B) (h2 : 0 < l.length → ∀ b, A = some b → b.block < B) : Mst w' q A c l r := by
  obtain ⟨a, e, hm, hr⟩ := h
  exact ⟨a, e, hm.low hb h1 h2, hr⟩
theorem Mst.far {w : World} {q : Nat} {A : Option Addr} {c : Nat} {l : List Nat} {r : Rest} (h : Mst w q A c l r) {p : Addr} (h1 : q ≠ p.block) (h2 : 0 < l.length → ∀ b, A = some b → b.block ≠ p.block) (u : Value) : Mst (w.setCell p u) q A c l r := by
  obtain ⟨a, e, hm, hr⟩ := h
  exact ⟨a, e, hm.far h1 h2 u, hr⟩
theorem Mst.e {w : World} {q : Nat} {A : Option Addr} {c : Nat} {l : List Nat} {r : Rest} (h : Mst w q A c l r) : ∃ a, Blk w q 119 #[.slice A l.length c, .int .i64 ((a : Nat) : Int), .int .i64 r.e] := by
  obtain ⟨a, e, hm, rfl⟩ := h
  rw [restP_e]
  exact ⟨a, hm.blk⟩
set_option maxRecDepth 100000 in
set_option maxHeartbeats 4000000 in
theorem dget_any (q : Nat) (A : Option Addr) (c : Nat) (l : List Nat) (r : Rest) (hby : ∀ x ∈ l, x < 256) (hlen : l.length ≤ 140737488355328) (w : World) (h : Mst w q A c l r) (hq : q < w.heap.size) (hA : 0 < l.length → ∀ b, A = some b → b.block < w.heap.size) :
    Calls Try.prog 61 #[.pointer (some ⟨q, 0, none⟩)] w fun o w' => (∃ v, o = .returned (.agg #[.int .i64 (getV r).e, .int .i64 (getV r).p, v]) ∧ w'.ownsRow w.heap.size 3 1 v (getV r).l.length (ints (getV r).l)) ∧ Mst w' q A c l (getV r).r ∧ Only w w' q := by
  obtain ⟨i0, hi, hz0, hz1, hz2⟩ := info_parts infoI64
  have h0 : Mst ((w.alloc (.cells #[.int .i64 0, .int .i64 0, .slice none 0 0] 31)).alloc (.cells #[.int .i64 0, .int .i64 0, .slice none 0 0] 31)) q A c l r := h.below (Below.alloc (Below.alloc (Below.refl _ _) (Nat.le_refl _) _) (by simp) _)
  have hZ := (Blk.new w 31 #[.int .i64 0, .int .i64 0, .slice none 0 0]).alloc (.cells #[.int .i64 0, .int .i64 0, .slice none 0 0] 31)
  have hV := Blk.made w (.cells #[.int .i64 0, .int .i64 0, .slice none 0 0] 31) 31 #[.int .i64 0, .int .i64 0, .slice none 0 0]
  have hi1 := fun w' h' => di_any q A c l r hby hlen w' h'
  have h8 := fun r2 => count8_le r2
  rcases hq1 : numP r with ⟨n1, r1⟩
  rw [hq1] at hi1
  have hi2 := fun w' h' => di_any q A c l r1 hby hlen w' h'
  rcases hq2 : numP r1 with ⟨n2, r2⟩
  rw [hq2] at hi2
  have hi3 := fun w' h' => dc_any q A c l r2 hby hlen w' h'
  replace h8 := h8 r2
  rcases hq3 : countP 8 r2 with ⟨n3, r3⟩
  rw [hq3] at hi3 h8
  have hgv := gvP_eq hq1 hq2 hq3
  unfold getV
  rw [hgv]
  simp only at hi1 hi2 hi3 h8 ⊢
  clear hq1 hq2 hq3 hgv
  generalize zag n1 = E at *
  generalize zag n2 = P at *
  have hqz : w.heap.size ≠ q := by omega
  have hqv : w.heap.size + 1 ≠ q := by omega
  go_enter Try.func61, Try.ntmps61
  go_wp2_with (first | (go_at_call 60; (with_reducible refine (hi1 _ h0).mono ?_); rintro e w1 ⟨rfl, hr1, ho1⟩; have hs1 := ho1.size; (simp only [World.size_alloc] at hs1); have hV1 := Blk.only hV ho1 hqv; have cV1 := hV1.cell; have fV1 := hV1.frozen; have lV1 := hV1.lt; have hr1' := hr1.far (p := ⟨w.heap.size + 1, 0, none⟩) (by exact hqv.symm) (fun h0 b hb => by have := hA h0 b hb; show b.block ≠ w.heap.size + 1; omega) (.int .i64 E)) | (go_at_call 60; (with_reducible refine (hi2 _ hr1').mono ?_); rintro e w2 ⟨rfl, hr2, ho2⟩; have hs2 := ho2.size; (simp only [World.size_setCell] at hs2); have hV2 := Blk.only (hV1.set_ 0 (.int .i64 E)) ho2 hqv; have cV2 := hV2.cell; have fV2 := hV2.frozen; have lV2 := hV2.lt; have hr2' := hr2.far (p := ⟨w.heap.size + 1, 1, none⟩) (by exact hqv.symm) (fun h0 b hb => by have := hA h0 b hb; show b.block ≠ w.heap.size + 1; omega) (.int .i64 P)) | (go_at_call 102; (with_reducible refine (hi3 _ hr2').mono ?_); rintro e w3 ⟨rfl, hr3, ho3⟩))
  have hs3 := ho3.size
  simp only [World.size_setCell] at hs3
  have hV3 := Blk.only (hV2.set_ 1 (.int .i64 P)) ho3 hqv
  have hZ3 := Blk.only ((Blk.only ((Blk.only hZ ho1 hqz).far (p := ⟨w.heap.size + 1, 0, none⟩) (by show w.heap.size ≠ w.heap.size + 1; omega) (.int .i64 E)) ho2 hqz).far (p := ⟨w.heap.size + 1, 1, none⟩) (by show w.heap.size ≠ w.heap.size + 1; omega) (.int .i64 P)) ho3 hqz
  have hO3 : Only w w3 q := ((((((Only.refl w q).alloc _).alloc _).trans ho1).set_ (p := ⟨w.heap.size + 1, 0, none⟩) (.inr (by simp)) (.int .i64 E)).trans ho2 |>.set_ (p := ⟨w.heap.size + 1, 1, none⟩) (.inr (by simp)) (.int .i64 P)).trans ho3
  clear hi1 hi2 hi3 h0 hZ hr1 ho1 hr2 hr2' hr1' ho2 ho3 hV hV1 hV2 cV1 cV2 fV1 fV2 lV1 lV2
  have hsz : w.heap.size + 1 < w3.heap.size := hV3.lt
  go_loopw [5] (fun vi wr => ∃ (j : Nat) (v : Value), j ≤ n3 ∧ vi = .int .i64 (j : Int) ∧ Blk wr (w.heap.size + 1) 31 #[.int .i64 E, .int .i64 P, v] ∧ wr.ownsRow (w.heap.size + 2) 3 1 v j (ints (glP j r3).1) ∧ Mst wr q A c l (glP j r3).2 ∧ Blk wr w.heap.size 31 #[.int .i64 0, .int .i64 0, .slice none 0 0] ∧ Only w wr q) (fun vi _ => ((n3 : Int) - intOf vi).toNat)
  case atStart => exact ⟨0, _, by omega, rfl, hV3, World.ownsRow_nil _ _ _ _, hr3, hZ3, hO3⟩
  case round =>
    clear hV3 hr3 hZ3 hO3
    obtain ⟨j, v, hj, rfl, hV, hown, hr, hZ, hO⟩ := hrel
    obtain ⟨wo, rfl⟩ : ∃ wo : World, wo = wr := ⟨_, rfl⟩
    have cV := hV.cell
    have lV := hV.lt
    by_cases hlt' : j < n3
    · have hjl : (j : Int) < n3 := by omega
      have hgl : glP (j + 1) r3 = ((glP j r3).1 ++ [zag (numP (glP j r3).2).1], (numP (glP j r3).2).2) := rfl
      have hI := fun w' h' => di_any q A c l (glP j r3).2 hby hlen w' h'
      have hgl1 := glP_length j r3
      generalize (glP j r3).1 = L at *
      generalize (glP j r3).2 = R at *
      rcases hq : numP R with ⟨m, R'⟩
      rw [hq] at hI hgl
      simp only at hI hgl
      generalize zag m = y at *
      have hG := hide hgl
      clear hgl hq
      go_wp2_with (first | (go_at_call 60; (with_reducible refine (hI _ hr).mono ?_); rintro e w5 ⟨rfl, hr5, ho5⟩; have hs5 := ho5.size; have hV5 := Blk.only hV ho5 hqv; have cV5 := hV5.cell; have fV5 := hV5.frozen; have lV5 := hV5.lt; have hown5 := own_only hown ho5 (by omega)) | (at_builtin; refine wpList_append_own _ rfl _ _ 29 rfl (w.heap.size + 2) 3 i0 (.int .i64 0) 1 8 Try.underlying29 hi hz0 hz1 hz2 rfl (by decide) _ _ _ rfl (own_alloc hown5 _) _ 1 1 [.int .i64 y] rfl rfl ?c1 ?c2 ?c3 ?c4 ?c5 ?_))
      case c1 => exact cells_new _ #[.int .i64 y] _
      case c2 => intro u hu; simp at hu; subst hu; rfl
      case c3 => unfold maxLen; omega
      case c4 => omega
      case c5 => simp; omega
      intro v' w6 hown6 hgrow hnil
      have hb6 : Below (w.heap.size + 2) (w5.alloc (.cells #[.int .i64 y] 3)) w6 := own_below (Below.refl _ _) (own_alloc hown5 _) hgrow (Nat.le_refl _) (by simp; omega)
      obtain ⟨A6, k6, rfl, hk6⟩ := own_sl hown6
      have hV6 := (hV5.alloc (.cells #[.int .i64 y] 3)).below hb6 (by omega)
      have cV6 := hV6.cell
      have fV6 := hV6.frozen
      have lV6 := hV6.lt
      have hZ5 := Blk.only hZ ho5 hqz
      have hO5 := hO.trans ho5
      go_wp2
      go_roundw
      case rel =>
        refine ⟨j + 1, .slice A6 (j + 1) k6, by omega, by go_num, Blk.set_to hV6 rfl, ?_, ?_, ((hZ5.alloc _).below hb6 (by omega)).far (by show w.heap.size ≠ w.heap.size + 1; omega) _, (Only.low (hO5.alloc _) hb6 (by omega)).set_ (.inr (by show w.heap.size ≤ w.heap.size + 1; omega)) _⟩
        · rw [hG.out]
          simp only [ints_append]
          exact own_set hown6 (by show w.heap.size + 1 < w.heap.size + 2; omega) _
        · rw [hG.out]
          exact Mst.far (Mst.low (Mst.below hr5 (Below.alloc (Below.refl _ _) (Nat.le_refl _) (.cells #[.int .i64 y] 3))) hb6 (by omega) (fun h0 b hb => by have := hA h0 b hb; omega)) (p := ⟨w.heap.size + 1, 2, none⟩) (by exact hqv.symm) (fun h0 b hb => by have := hA h0 b hb; show b.block ≠ w.heap.size + 1; omega) _
      case measure => simp [intOf]; omega
    · obtain rfl : n3 = j := by omega
      have hgl1 := glP_length n3 r3
      generalize hgl : glP n3 r3 = GL at *
      obtain ⟨L, R⟩ := GL
      simp only at hr hown hgl1 ⊢
      obtain ⟨A6, k6, rfl, hk6⟩ := own_sl hown
      have cZ := hZ.cell
      have fZ := hZ.frozen
      have lZ := hZ.lt
      obtain ⟨a1, hB⟩ := hr.e
      have cB := hB.cell
      have lB := hB.lt
      by_cases he : R.e = 0
      · have he' : (R.e != 0) = false := by simpa using he
        have H := hide (⟨hown, hr, hO⟩ : _ ∧ _ ∧ _)
        clear hr
        go_wp2
        all_goals
          obtain ⟨hown, hr, hO⟩ := H.out
          refine bodyPost_cell Try.results61 rfl (Blk.three hZ) Try.underlying31 rfl (by kernel_rfl) rfl ⟨⟨_, rfl, own_low (own_set (own_set (own_set hown (by show w.heap.size < w.heap.size + 2; omega) _) (by show w.heap.size < w.heap.size + 2; omega) _) (by show w.heap.size < w.heap.size + 2; omega) _) (by omega)⟩, ?_, ((hO.set_ (.inr (Nat.le_refl _)) _).set_ (.inr (Nat.le_refl _)) _).set_ (.inr (Nat.le_refl _)) _⟩
          exact ((hr.far (by exact hqz.symm) (fun h0 b hb => by have := hA h0 b hb; show b.block ≠ w.heap.size; omega) _).far (by exact hqz.symm) (fun h0 b hb => by have := hA h0 b hb; show b.block ≠ w.heap.size; omega) _).far (by exact hqz.symm) (fun h0 b hb => by have := hA h0 b hb; show b.block ≠ w.heap.size; omega) _
      · have he' : (R.e != 0) = true := by simpa using he
        have H := hide (⟨hown, hr, hO⟩ : _ ∧ _ ∧ _)
        clear hr
        go_wp2
        all_goals
          obtain ⟨hown, hr, hO⟩ := H.out
          refine bodyPost_cell Try.results61 rfl (Blk.three hZ) Try.underlying31 rfl (by kernel_rfl) rfl ⟨⟨_, rfl, World.ownsRow_nil _ _ _ _⟩, ?_, ((hO.set_ (.inr (Nat.le_refl _)) _).set_ (.inr (Nat.le_refl _)) _).set_ (.inr (Nat.le_refl _)) _⟩
          exact ((hr.far (by exact hqz.symm) (fun h0 b hb => by have := hA h0 b hb; show b.block ≠ w.heap.size; omega) _).far (by exact hqz.symm) (fun h0 b hb => by have := hA h0 b hb; show b.block ≠ w.heap.size; omega) _).far (by exact hqz.symm) (fun h0 b hb => by have := hA h0 b hb; show b.block ≠ w.heap.size; omega) _
end Go.Proofs.Ytjhcgnmibnjocaa

/-! The law: step by step the program's control is the document's. -/
namespace Go.Proofs.Ytjhcgnmibnjocaa
open Go.RowKit
set_option linter.unusedVariables false
set_option linter.unusedSimpArgs false
theorem Blk.both2 {w w' : World} {b g s : Nat} {t : TypeId} {cs : Array Value} (h : Blk w b t cs) (ho : Both2 w w' g s) (hg : b ≠ g) (hs : b ≠ s) : Blk w' b t cs := (ho.block b h.lt hg hs).trans h
theorem Ctl.set_ {w : World} {g bm bs : Nat} {k : Vw} (h : Ctl w g bm bs k) {q : Addr} (hg : g ≠ q.block) (hm : bm ≠ q.block) (hs : bs ≠ q.block) (u : Value) : Ctl (w.setCell q u) g bm bs k :=
  h.keep (Below.heap_setCell w q u g hg) (Below.heap_setCell w q u bm hm) (Below.heap_setCell w q u bs hs)
/-- Only blocks of a kind are changed. -/
structure Kp (S : Nat → Prop) (w w' : World) : Prop where
  os : w'.os = w.os
  tape : w'.tape = w.tape
  output : w'.output = w.output
  size : w.heap.size ≤ w'.heap.size
  block : ∀ k, k < w.heap.size → ¬S k → w'.heap[k]? = w.heap[k]?
section
variable {S : Nat → Prop} {w w' w'' : World}
theorem Kp.refl (S : Nat → Prop) (w : World) : Kp S w w := ⟨rfl, rfl, rfl, Nat.le_refl _, fun _ _ _ => rfl⟩
theorem Kp.trans (h : Kp S w w') (k : Kp S w' w'') : Kp S w w'' := ⟨k.os.trans h.os, k.tape.trans h.tape, k.output.trans h.output, Nat.le_trans h.size k.size, fun i hi h1 => (k.block i (Nat.lt_of_lt_of_le hi h.size) h1).trans (h.block i hi h1)⟩
theorem Kp.of_below (h : Below w.heap.size w w') : Kp S w w' := ⟨h.os, h.tape, h.output, h.size, fun k hk _ => h.block k hk⟩
theorem Kp.of_both {g s : Nat} (h : Both2 w w' g s) (hg : S g) (hs : S s) : Kp S w w' := ⟨h.os, h.tape, h.output, h.size, fun k hk hn => h.block k hk (fun e => hn (e ▸ hg)) (fun e => hn (e ▸ hs))⟩
theorem Kp.of_scr {A : Option Addr} (h : Scr A w w') (hA : ∀ a, A = some a → S a.block) : Kp S w w' := ⟨h.os, h.tape, h.output, h.size, fun k hk hn => h.block k hk (fun a ha e => hn (e ▸ hA a ha))⟩
theorem Kp.alloc (h : Kp S w w') (o : Obj) : Kp S w (w'.alloc o) := h.trans (Kp.of_below (Below.alloc (Below.refl _ _) (Nat.le_refl _) o))
theorem Kp.set_ (h : Kp S w w') {p : Addr} (hp : S p.block ∨ w.heap.size ≤ p.block) (u : Value) : Kp S w (w'.setCell p u) :=
  ⟨h.os, h.tape, h.output, by simpa using h.size, fun k hk hn => (Below.heap_setCell w' p u k (by rintro rfl; rcases hp with hp | hp; exact hn hp; omega)).trans (h.block k hk hn)⟩
theorem Kp.below (h : Kp S w w') {B : Nat} (hB : B ≤ w.heap.size) (hS : ∀ k, S k → B ≤ k) : Below B w w' := ⟨h.os, h.tape, h.output, h.size, fun k hk => h.block k (by omega) (fun hs => by have := hS k hs; omega)⟩
theorem Blk.kp {b : Nat} {t : TypeId} {cs : Array Value} (h : Blk w b t cs) (hk : Kp S w w') (hn : ¬S b) : Blk w' b t cs := (hk.block b h.lt hn).trans h
theorem Ctl.kp {g bm bs : Nat} {k : Vw} (h : Ctl w g bm bs k) (hk : Kp S w w') (hg : ¬S g) (hm : ¬S bm) (hs : ¬S bs) : Ctl w' g bm bs k := h.keep (hk.block _ h.lt.1 hg) (hk.block _ h.lt.2.1 hm) (hk.block _ h.lt.2.2 hs)
theorem Reads.kp {B : Option Addr} {size n : Nat} {xs : List Value} (h : Reads w w.heap.size size B n xs) (hk : Kp S w w') (hB : 0 < n → ∀ b, B = some b → ¬S b.block) : Reads w' w'.heap.size size B n xs :=
  ⟨h.1, fun hn => by
    obtain ⟨ad, e, hb, hc⟩ := h.2 hn
    refine ⟨ad, e, Nat.lt_of_lt_of_le hb hk.size, fun j u hu => ?_⟩
    have : w'.cell? (ad.add j) = w.cell? (ad.add j) := by
      unfold World.cell?
      rw [hk.block (ad.add j).block (by rw [block_of_add]; exact hb) (by rw [block_of_add]; exact hB hn _ e)]
    exact this.trans (hc j u hu)⟩
theorem Wr.kp {A : Option Addr} {m : Nat} (h : Wr w A m) (hk : Kp S w w') (hA : ∀ a, A = some a → ¬S a.block) : Wr w' A m := h.keep fun a ha hl => hk.block _ hl (hA a ha)
end
theorem rvright_yes (k : Vw) (hk : k.ok) (A : Option Addr) (n c : Nat) (w : World) (hr : Reads w w.heap.size 1 A n (ints k.ms)) (hn : n ≤ 9223372036854775807) :
    Calls Try.prog 108 #[.agg #[.int .i64 k.e, .int .i64 k.p, .slice A n c]] w fun r w' => r = .returned (.bool true) ∧ Below w.heap.size w w' := by
  have h := rvright_any k.e k.p A n c k.ms w hr hn
  have h2 : rightV k.e k.p k.ms = true := by
    have he := hk.e
    simp [rightV, he.1, he.2, hk.up, hasB_mem.2 hk.p]
  rw [h2] at h
  exact h
end Go.Proofs.Ytjhcgnmibnjocaa

/-! A view laid behind bytes; a view as the program's. -/
namespace Go.Proofs.Ytjhcgnmibnjocaa
open Go.RowKit
set_option linter.unusedVariables false
set_option linter.unusedSimpArgs false
theorem Kp.of_chw {w w' : World} {g : Nat} {v v' : Value} (h : Chw w w' g v v') : Kp (fun k => k = g ∨ v.ownBlock = some k) w w' :=
  ⟨h.os, h.tape, h.output, h.size, fun k hk hn => h.block k hk (fun e => hn (.inl e)) (fun e => hn (.inr e))⟩
theorem run_copy_grown {w w' : World} {A : Option Addr} {n c : Nat} {l : List Int} {v : Value} (hr : Reads w w.heap.size 1 A n (ints l)) (hn : n * 8 ≤ 140737488355328)
    (h : (Builtin.append_ #[29, 29] 29 #[.slice (some ⟨w.heap.size, 0, none⟩) 0 0, .slice A n c]).run Try.prog (w.alloc (.cells #[] 3)) = .ok v w') : First.Grown (w.alloc (.cells #[] 3)) w' := by
  obtain ⟨i0, hi, hz0, hz1, hz2⟩ := info_parts infoI64
  have hl := reads_len hr
  rcases Nat.eq_zero_or_pos n with h0 | h0
  · subst h0
    have hs : Src Try.prog i0.size 29 (.slice A 0 c) 0 [] (w.alloc (.cells #[] 3)) := by
      cases A with
      | none => exact Src.ofNil _ Try.underlying29 c
      | some ad => exact Src.ofSlice _ Try.underlying29 ad 0 c [] (by simp) (fun j u hu => by cases hu) (fun u hu => by cases hu)
    have h2 := run_append_room_src (P := Try.prog) (w.alloc (.cells #[] 3)) 29 29 29 3 i0 Try.underlying29 hi w.heap.size 0 0 0 (.slice A 0 c) 0 [] hs (Nat.le_refl _) (fun j hj => by cases hj) (fun j hj => by cases hj)
    rw [h] at h2
    injection h2 with _ h3
    rw [h3]
    exact First.Grown.refl _
  · obtain ⟨ad, rfl, hb, hc⟩ := hr.2 h0
    have h2 := run_append_grow (P := Try.prog) (w.alloc (.cells #[] 3)) 29 29 3 i0 (.int .i64 0) Try.underlying29 hi hz0 ⟨w.heap.size, 0, none⟩ 0 0 [] (by simp) (fun j u hu => by cases hu) ad n c (ints l) (by rw [ints_length, hl, hz1, Nat.mul_one])
      (fun j u hu => by rw [World.cell?_alloc_lt w _ _ (by rw [block_of_add]; exact hb)]; exact hc j u hu) (by omega) (by omega) (growslice_fits (by omega) (by rw [hz2]; omega))
    rw [h] at h2
    injection h2 with _ h3
    rw [h3]
    have hbb : Below (w.alloc (.cells #[] 3)).heap.size (w.alloc (.cells #[] 3)) (w.alloc (.cells #[] 3)).drew := Below.drew (Below.refl _ _)
    exact World.ext_of_below (hbb.alloc (Nat.le_refl _) _)
def tailB (l : List Int) : List Nat := l.flatMap fun x => numB (zig x)
def viewB (e p : Int) (l : List Int) : List Nat := numB (zig e) ++ (numB (zig p) ++ (numB l.length ++ tailB l))
theorem tailB_take {l : List Int} {j : Nat} {x : Int} (h : l[j]? = some x) : tailB (l.take (j + 1)) = tailB (l.take j) ++ numB (zig x) := by
  unfold tailB
  rw [List.take_add_one, h, List.flatMap_append]
  simp
theorem tailB_le {l : List Int} (h : ∀ x ∈ l, I64 x) : (tailB l).length ≤ 9 * l.length := by
  induction l with
  | nil => simp [tailB]
  | cons x l ih =>
    have h1 := numB_le _ (zig_lt _ (h x (by simp)))
    have h2 := ih (fun y hy => h y (by simp [hy]))
    simp only [tailB, List.flatMap_cons, List.length_append, List.length_cons] at *
    omega
set_option maxRecDepth 100000 in
set_option maxHeartbeats 2000000 in
theorem vto_any (e p : Int) (A : Option Addr) (n c : Nat) (l : List Int) (w : World) (hr : Reads w w.heap.size 1 A n (ints l)) (hn : n * 8 ≤ 140737488355328) :
    Calls Try.prog 15 #[.agg #[.int .i64 e, .int .i64 p, .slice A n c]] w fun r w' => (∃ v, r = .returned (.agg #[.int .i64 e, .int .i64 p, v]) ∧ w'.ownsRow w.heap.size 3 1 v n (ints l)) ∧ Below w.heap.size w w' := by
  have hrX : ∀ o1 o2 X, Reads (((w.alloc o1).alloc o2).ext X) (((w.alloc o1).alloc o2).ext X).heap.size 1 A n (ints l) := fun o1 o2 X => (((hr.alloc (Nat.le_refl _) o1).alloc (by simp) o2).ext (by simp; omega) X).more (by simp [World.size_ext]; omega)
  go_enter Try.func15, Try.ntmps15
  go_wp2
  refine First.wp_region_first_ext [1, 3, 6] [0, 2, 5, 8] [(true, false, 0), (true, true, 1), (true, false, 2), (true, true, 3), (true, false, 5), (true, true, 6), (false, true, 4), (false, true, 7), (true, false, 8), (false, false, 9)] (by kernel_rfl) (by kernel_rfl) (fun X => ?_); simp only [List.map_cons, List.map_nil, List.getD_cons_zero, List.getD_cons_succ]
  obtain ⟨v, w1, hap, ho, hb⟩ := run_copy (((w.alloc (.cells #[.int .i64 e, .int .i64 p, .slice A n c] 31)).alloc (.cells #[.int .i64 0, .int .i64 0, .slice none 0 0] 39)).ext X) A n c l (hrX _ _ X) hn
  obtain ⟨A1, c1, rfl, hc1⟩ := own_sl ho
  have hZ := Blk.below (Blk.ext (Blk.made w (.cells #[.int .i64 e, .int .i64 p, .slice A n c] 31) 39 #[.int .i64 0, .int .i64 0, .slice none 0 0]) X) hb (by simp [World.size_ext]; omega)
  have cZ := hZ.cell
  have fZ := hZ.frozen
  have lZ := hZ.lt
  have hgr := run_copy_grown (hrX _ _ X) hn hap
  simp only [World.size_ext, World.size_alloc] at hap
  (repeat (first | (refine First.wpF_pure (fun K hK => ?_); go_simp; first | (refine hK _ _ ?_; clear hK K) | (apply Exists.intro; refine ⟨fun _ => ?_, hK _ _ ?_⟩; fail)) | (refine First.wpF_free (fun K hK => ?_); go_simp; first | (refine hK _ _ ?_; clear hK K))))
  refine First.wpF_must (fun K hK => ?_)
  go_wp2
  (refine hK _ _ (fun hnd => by first | exact Bool.noConfusion hnd | assumption | with_reducible exact grown_alloc _ _ | with_reducible exact First.Grown.refl _ | with_reducible exact First.Grown.cat _ _ _ | with_reducible exact First.Grown.ext _ _) ?_; clear hK K)
  (repeat (first | (refine First.wpF_pure (fun K hK => ?_); go_simp; first | (refine hK _ _ ?_; clear hK K) | (apply Exists.intro; refine ⟨fun _ => ?_, hK _ _ ?_⟩; fail)) | (refine First.wpF_free (fun K hK => ?_); go_simp; first | (refine hK _ _ ?_; clear hK K))))
  refine First.wpF_must (fun K hK => ?_)
  go_wp2_with (at_builtin; refine wpList_append_run rfl _ _ 29 rfl rfl rfl hap ?_)
  (refine hK _ _ (fun _ => hgr) ?_; clear hK K)
  (repeat (first | (refine First.wpF_pure (fun K hK => ?_); go_simp; first | (refine hK _ _ ?_; clear hK K) | (apply Exists.intro; refine ⟨fun _ => ?_, hK _ _ ?_⟩; fail)) | (refine First.wpF_free (fun K hK => ?_); go_simp; first | (refine hK _ _ ?_; clear hK K))))
  refine First.wpF_must (fun K hK => ?_)
  go_wp2
  (refine hK _ _ (fun hnd => by first | exact Bool.noConfusion hnd | assumption | with_reducible exact grown_alloc _ _ | with_reducible exact First.Grown.refl _ | with_reducible exact First.Grown.cat _ _ _ | with_reducible exact First.Grown.ext _ _) ?_; clear hK K)
  refine First.wpF_nil ?_
  go_wp2
  refine bodyPost_cell Try.results15 rfl (Blk.three hZ) Try.underlying39 rfl (by kernel_rfl) rfl ⟨⟨_, rfl, own_low (own_set (own_set (own_set ho (by simp [World.size_ext]; omega) _) (by simp [World.size_ext]; omega) _) (by simp [World.size_ext]; omega) _) (by simp [World.size_ext]; omega)⟩, ?_⟩
  have hbw : Below w.heap.size w w1 := (Below.ext (Below.alloc (Below.alloc (Below.refl _ _) (Nat.le_refl _) _) (by simp) _) (by simp; omega) X).trans (hb.mono (by simp [World.size_ext]; omega))
  (repeat' (first | with_reducible exact Below.refl _ _ | with_reducible refine Below.ext ?_ ?_ _ | with_reducible refine Below.alloc ?_ ?_ _ | with_reducible refine Below.setCell ?_ ?_ _ | with_reducible refine Below.drew ?_ | with_reducible assumption | (simp [World.size_ext]; done) | (simp [World.size_ext]; omega)))
set_option maxRecDepth 100000 in
set_option maxHeartbeats 2000000 in
theorem vput_any (base g : Nat) (v : Value) (xs : List Nat) (e p : Int) (A : Option Addr) (n c : Nat) (l : List Int) (w : World) (hw : Wrt w base g 166 v xs) (hr : Reads w w.heap.size 1 A n (ints l)) (hA : 0 < n → ∀ a, A = some a → ¬(a.block = g ∨ v.ownBlock = some a.block))
    (he : I64 e) (hp : I64 p) (hl64 : ∀ x ∈ l, I64 x) (hn : n ≤ 50) (hlen : xs.length ≤ 1000) :
    Calls Try.prog 66 #[.pointer (some ⟨g, 0, none⟩), .agg #[.int .i64 e, .int .i64 p, .slice A n c]] w fun r w' => r = .returned (.tuple #[]) ∧ ∃ v', Wrt w' base g 166 v' (xs ++ viewB e p l) ∧ Chw w w' g v v' := by
  have hl := reads_len hr
  have hb0 : Below w.heap.size w (w.alloc (.cells #[.int .i64 e, .int .i64 p, .slice A n c] 39)) := Below.alloc (Below.refl _ _) (Nat.le_refl _) _
  have h0 := hw.below hb0
  have hB := Blk.new w 39 #[.int .i64 e, .int .i64 p, .slice A n c]
  have hne := hw.row.far (Nat.le_refl _)
  have hgl := hw.blk.lt
  have hgb : w.heap.size ≠ g := by omega
  have l1 := numB_le _ (zig_lt _ he)
  have l2 := numB_le _ (zig_lt _ hp)
  have l3 := numB_le n (by omega)
  have k1 : IntKind.u64.wrap (n : Int) = (n : Int) := by show (n : Int) % 18446744073709551616 = _; omega
  have hu : U64 (n : Int) := by unfold U64; omega
  go_enter Try.func66, Try.ntmps66
  go_wp2_with (first | (go_at_call 65; ((with_reducible refine (int_any _ _ _ _ _ _ h0 he (by omega)).mono ?_); rintro r w1 ⟨rfl, v1, hw1, hc1⟩; have hB1 := Blk.chw hB hc1 hgb hne; have cB1 := hB1.cell; have lB1 := hB1.lt)) | (go_at_call 65; (with_reducible refine (int_any _ _ _ _ _ _ hw1 hp (by simp only [List.length_append]; omega)).mono ?_); rintro r w2 ⟨rfl, v2, hw2, hc2⟩; have hc02 := hc1.trans hc2; have hB2 := Blk.chw hB hc02 hgb hne; have cB2 := hB2.cell; have lB2 := hB2.lt) | (go_at_call 90; (with_reducible refine (num_any _ _ _ _ _ _ hw2 hu (by simp only [List.length_append]; omega)).mono ?_); rintro r w3 ⟨rfl, v3, hw3, hc3⟩; have hc03 := hc02.trans hc3; have hB3 := Blk.chw hB hc03 hgb hne; have cB3 := hB3.cell; have lB3 := hB3.lt))
  have hr0 := (hr.alloc (Nat.le_refl _) (.cells #[.int .i64 e, .int .i64 p, .slice A n c] 39)).more (B' := (w.alloc (.cells #[.int .i64 e, .int .i64 p, .slice A n c] 39)).heap.size) (by simp)
  clear h0 hB hw1 hw2 hc1 hc2 hc3 hc02 hB1 hB2 hB3 cB1 cB2 cB3 lB1 lB2 lB3 hr
  go_loopw [23] (fun vi wr => ∃ (j : Nat) (v' : Value), j ≤ n ∧ vi = .int .i64 (j : Int) ∧ Wrt wr base g 166 v' (xs ++ numB (zig e) ++ numB (zig p) ++ numB n ++ tailB (l.take j)) ∧ Chw (w.alloc (.cells #[.int .i64 e, .int .i64 p, .slice A n c] 39)) wr g v v') (fun vi _ => ((n : Int) - intOf vi).toNat)
  case atStart =>
    rw [Int.toNat_natCast] at hw3
    exact ⟨0, v3, by omega, rfl, by simpa [tailB] using hw3, hc03⟩
  case round =>
    clear hw3 hc03
    obtain ⟨j, v', hj, rfl, hw', hc⟩ := hrel
    obtain ⟨wo, rfl⟩ : ∃ wo : World, wo = wr := ⟨_, rfl⟩
    have hs0 := hc.size
    have htl := tailB_le (l := l.take j) (fun x hx => hl64 x (List.mem_of_mem_take hx))
    have htk : (l.take j).length ≤ 50 := by rw [List.length_take]; omega
    by_cases hlt : j < n
    · have hrw := Reads.kp hr0 (Kp.of_chw hc) hA
      obtain ⟨b, o, rfl, hbb, hcc⟩ := hrw.plain (by omega) (by omega)
      have hg : l[j]? = some l[j] := List.getElem?_eq_getElem (by omega)
      have m1 := hcc _ _ (ints_get hg)
      have hx := hl64 _ (List.getElem_mem (by omega : j < l.length))
      have hlj : (j : Int) < n := by omega
      have hT := hide (tailB_take hg)
      generalize l[j] = x at *
      have hI := int_any base g v' _ x wo hw' hx (by simp only [List.length_append]; omega)
      clear hr0 hrw hcc hg
      go_wp2_with (go_at_call 65; (with_reducible refine hI.mono ?_); rintro r w5 ⟨rfl, v5, hw5, hc5⟩)
      go_roundw
      case rel => exact ⟨j + 1, v5, by omega, by go_num, by rw [hT.out, ← List.append_assoc]; exact hw5, hc.trans hc5⟩
      case measure => simp [intOf]; omega
    · obtain rfl : n = j := by omega
      clear hr0
      go_wp2
      refine bodyPost_end (v := .tuple #[]) (by simp [results, Try.results66, go_sem] <;> rfl) rfl ⟨rfl, ?_⟩
      refine ⟨v', ?_, (Chw.of_below hb0).trans hc⟩
      rw [List.take_of_length_le (by omega)] at hw'
      simpa [viewB, List.append_assoc, hl] using hw'
end Go.Proofs.Ytjhcgnmibnjocaa

/-! The document's Put of a view. -/
namespace Go.Proofs.Ytjhcgnmibnjocaa
open Go.RowKit
set_option linter.unusedVariables false
set_option linter.unusedSimpArgs false
theorem wp_region_below (B : Nat) {P : Program} {id : Nat} {Q : Exit → Act → World → Prop} {a : Act} {w : World} {l : List Oper} (Vs Ps : List Nat) (ks : List (Bool × Bool × Nat)) (hm : P.follows .mixedOrders = true)
    (hB : (Region.noSelect l.toArray && decide (ks.length = l.length) && First.orderB .any l.toArray Vs Ps ks (Array.replicate l.length false)) = true)
    (h : ∀ X, First.wpF P l.toArray (fun w w' => Below B w w') (Q .normal) (ks.map fun k => (k.1, k.2.1, l.getD k.2.2 default)) a (w.ext X)) : (Code.region id l.toArray true).wp P Q a w := by
  have hw₁ : ({ w with drawn := w.drawn + 1 } : World) = w.ext ⟨#[], w.drawn + 1⟩ := by simp [World.ext]
  exact First.wp_region_first _ (fun w => Below.refl B w) (fun w w' w'' h h' => h.trans h') Vs Ps ks hm hB (hw₁ ▸ h _)
set_option maxRecDepth 100000 in
set_option maxHeartbeats 4000000 in
theorem rvput_any (e p : Int) (A : Option Addr) (n c : Nat) (l : List Int) (w : World) (hr : Reads w w.heap.size 1 A n (ints l)) (he : I64 e) (hp : I64 p) (hl64 : ∀ x ∈ l, I64 x) (hn : n ≤ 50) :
    Calls Try.prog 70 #[.slice none 0 0, .agg #[.int .i64 e, .int .i64 p, .slice A n c]] w fun r w' => (∃ u, r = .returned u ∧ Row w' w.heap.size u (viewB e p l)) ∧ Below w.heap.size w w' := by
  have hl := reads_len hr
  have hB := Blk.new w 31 #[.int .i64 e, .int .i64 p, .slice A n c]
  have hb0 : Below w.heap.size w (w.alloc (.cells #[.int .i64 e, .int .i64 p, .slice A n c] 31)) := Below.alloc (Below.refl _ _) (Nat.le_refl _) _
  have l1 := numB_le _ (zig_lt _ he)
  have l2 := numB_le _ (zig_lt _ hp)
  have l3 := numB_le n (by omega)
  have k1 : IntKind.u64.wrap (n : Int) = (n : Int) := by show (n : Int) % 18446744073709551616 = _; omega
  have hu : U64 (n : Int) := by unfold U64; omega
  go_enter Try.func70, Try.ntmps70
  go_wp2
  refine wp_region_below (w.heap.size + 1) [2, 5] [0, 1, 4] [(true, false, 0), (true, false, 1), (true, true, 2), (true, false, 4), (true, true, 5), (false, true, 3), (false, false, 6), (false, false, 7)] (by kernel_rfl) (by kernel_rfl) (fun Y => ?_); simp only [List.map_cons, List.map_nil, List.getD_cons_zero, List.getD_cons_succ]
  have hBY := Blk.ext hB Y
  have lt1 : w.heap.size < w.heap.size + 1 := by omega
  (repeat (first | (refine First.wpF_pure (fun K hK => ?_); go_simp; first | (refine hK _ _ ?_; clear hK K) | (apply Exists.intro; refine ⟨fun _ => ?_, hK _ _ ?_⟩; fail)) | (refine First.wpF_free (fun K hK => ?_); go_simp; first | (refine hK _ _ ?_; clear hK K))))
  (refine first_read rfl (v := .int .i64 e) (fun w' hw' => ?_) (fun K hK => ?_); rotate_left 1; go_simp; refine hK _ _ ?_; clear hK K; rotate_left 1; (have hB' := Blk.below hBY hw' lt1; have c' := Blk.cell hB'; go_simp))
  (repeat (first | (refine First.wpF_pure (fun K hK => ?_); go_simp; first | (refine hK _ _ ?_; clear hK K) | (apply Exists.intro; refine ⟨fun _ => ?_, hK _ _ ?_⟩; fail)) | (refine First.wpF_free (fun K hK => ?_); go_simp; first | (refine hK _ _ ?_; clear hK K))))
  (refine first_read rfl (v := .int .i64 p) (fun w' hw' => ?_) (fun K hK => ?_); rotate_left 1; go_simp; refine hK _ _ ?_; clear hK K; rotate_left 1; (have hB' := Blk.below hBY hw' lt1; have c' := Blk.cell hB'; go_simp))
  (repeat (first | (refine First.wpF_pure (fun K hK => ?_); go_simp; first | (refine hK _ _ ?_; clear hK K) | (apply Exists.intro; refine ⟨fun _ => ?_, hK _ _ ?_⟩; fail)) | (refine First.wpF_free (fun K hK => ?_); go_simp; first | (refine hK _ _ ?_; clear hK K))))
  refine First.wpF_must (fun K hK => ?_)
  go_wp2_with (go_at_call 69; (with_reducible refine (rint_any (w.heap.size + 1) _ [] e _ (Row.nil _ _) (by simp [World.size_ext] <;> omega) he (by simp)).mono ?_); rintro r w1 ⟨v1, rfl, hr1, hc1⟩; rw [List.nil_append] at hr1; have hb1 := Chg.below hc1 (Row.nil _ (w.heap.size + 1)) (by simp [World.size_ext] <;> omega))
  (refine hK _ _ (fun _ => hb1) ?_; clear hK K)
  (repeat (first | (refine First.wpF_pure (fun K hK => ?_); go_simp; first | (refine hK _ _ ?_; clear hK K) | (apply Exists.intro; refine ⟨fun _ => ?_, hK _ _ ?_⟩; fail)) | (refine First.wpF_free (fun K hK => ?_); go_simp; first | (refine hK _ _ ?_; clear hK K))))
  refine First.wpF_must (fun K hK => ?_)
  go_wp2_with (go_at_call 69; (with_reducible refine (rint_any (w.heap.size + 1) _ _ p _ hr1 (by have := hb1.size; simp [World.size_ext] at this; omega) hp (by omega)).mono ?_); rintro r w2 ⟨v2, rfl, hr2, hc2⟩; have hb2 := Chg.below hc2 hr1 (by have := hb1.size; simp [World.size_ext] at this; omega))
  (refine hK _ _ (fun _ => hb2) ?_; clear hK K)
  (repeat (first | (refine First.wpF_pure (fun K hK => ?_); go_simp; first | (refine hK _ _ ?_; clear hK K) | (apply Exists.intro; refine ⟨fun _ => ?_, hK _ _ ?_⟩; fail)) | (refine First.wpF_free (fun K hK => ?_); go_simp; first | (refine hK _ _ ?_; clear hK K))))
  refine First.wpF_must (fun K hK => ?_)
  go_wp2
  (refine hK _ _ (fun _ => Below.refl _ _) ?_; clear hK K)
  refine First.wpF_nil ?_
  have hB2 := Blk.below (Blk.below hBY hb1 lt1) hb2 lt1
  have cB2 := hB2.cell
  have lB2 := hB2.lt
  have hb02 : Below w.heap.size w w2 := ((Below.ext hb0 (by simp) Y).trans (hb1.mono (by omega))).trans (hb2.mono (by omega))
  have hs2 := hb2.size
  have hs1 := hb1.size
  simp only [World.size_ext, World.size_alloc] at hs1
  have hsz : w.heap.size + 1 ≤ w2.heap.size := by omega
  clear hr1 hc1 hb1 hc2 hb2 hBY
  go_wp2_with (go_at_call 105; (with_reducible refine (rnum_any (w.heap.size + 1) _ _ (n : Int) _ hr2 hsz hu (by simp only [List.length_append]; omega)).mono ?_); rintro r w3 ⟨v3, rfl, hr3, hc3⟩; rw [Int.toNat_natCast] at hr3; have hb3 := Chg.below hc3 hr2 hsz; have hB3 := Blk.below hB2 hb3 lt1; have cB3 := hB3.cell; have lB3 := hB3.lt)
  have hb03 : Below w.heap.size w w3 := hb02.trans (hb3.mono (by omega))
  clear hr2 hB2 cB2 lB2 hb02 hc3 hb3 cB3 lB3 hB hb0
  go_loopw [0, 5] (fun vu vi wr => ∃ j : Nat, j ≤ n ∧ vi = .int .i64 (j : Int) ∧ Row wr (w.heap.size + 1) vu (numB (zig e) ++ numB (zig p) ++ numB n ++ tailB (l.take j)) ∧ Blk wr w.heap.size 31 #[.int .i64 e, .int .i64 p, .slice A n c] ∧ Below w.heap.size w wr) (fun _ vi _ => ((n : Int) - intOf vi).toNat)
  case atStart => exact ⟨0, by omega, rfl, by simpa [tailB] using hr3, hB3, hb03⟩
  case round =>
    clear hr3 hB3 hb03
    obtain ⟨j, hj, rfl, hu', hBw, hb⟩ := hrel
    obtain ⟨wo, rfl⟩ : ∃ wo : World, wo = wr := ⟨_, rfl⟩
    have cB := hBw.cell
    have lB := hBw.lt
    have hs0 := hb.size
    have htl := tailB_le (l := l.take j) (fun x hx => hl64 x (List.mem_of_mem_take hx))
    have htk : (l.take j).length ≤ 50 := by rw [List.length_take]; omega
    by_cases hlt : j < n
    · obtain ⟨b, o, rfl, hbb, hcc⟩ := hr.plain (by omega) (by omega)
      have hg : l[j]? = some l[j] := List.getElem?_eq_getElem (by omega)
      have m1 : wo.cell? ⟨b, o + j, none⟩ = some (.int .i64 l[j]) := by rw [hb.cell (p := ⟨b, _, none⟩) hbb]; exact hcc _ _ (ints_get hg)
      have hx := hl64 _ (List.getElem_mem (by omega : j < l.length))
      have hlj : (j : Int) < n := by omega
      have hbw : b < wo.heap.size := by omega
      have hT := hide (tailB_take hg)
      generalize l[j] = x at *
      have hI := rint_any (w.heap.size + 1) _ _ x wo hu' (by omega) hx (by simp only [List.length_append]; omega)
      clear hcc hg
      go_wp2_with (go_at_call 69; (with_reducible refine hI.mono ?_); rintro r w5 ⟨v5, rfl, hr5, hc5⟩; have hb5 := Chg.below hc5 hu' (by omega))
      go_roundw
      case rel => exact ⟨j + 1, by omega, by go_num, by rw [hT.out, ← List.append_assoc]; exact hr5, Blk.below hBw hb5 lt1, hb.trans (hb5.mono (by omega))⟩
      case measure => simp [intOf]; omega
    · obtain rfl : n = j := by omega
      go_wp2
      go_ret
      refine ⟨⟨_, rfl, ?_⟩, hb⟩
      rw [List.take_of_length_le (by omega)] at hu'
      have h2 := own_low hu' (Nat.le_succ w.heap.size)
      unfold Row
      simpa [viewB, List.append_assoc, hl] using h2
end Go.Proofs.Ytjhcgnmibnjocaa

/-! The law: a view's bytes, and a view off bytes. -/
namespace Go.Proofs.Ytjhcgnmibnjocaa
open Go.RowKit
set_option linter.unusedVariables false
set_option linter.unusedSimpArgs false
theorem wp_region_kp (S : Nat → Prop) {P : Program} {id : Nat} {Q : Exit → Act → World → Prop} {a : Act} {w : World} {l : List Oper} (Vs Ps : List Nat) (ks : List (Bool × Bool × Nat)) (hm : P.follows .mixedOrders = true)
    (hB : (Region.noSelect l.toArray && decide (ks.length = l.length) && First.orderB .any l.toArray Vs Ps ks (Array.replicate l.length false)) = true)
    (h : ∀ X, First.wpF P l.toArray (fun w w' => Kp S w w') (Q .normal) (ks.map fun k => (k.1, k.2.1, l.getD k.2.2 default)) a (w.ext X)) : (Code.region id l.toArray true).wp P Q a w := by
  have hw₁ : ({ w with drawn := w.drawn + 1 } : World) = w.ext ⟨#[], w.drawn + 1⟩ := by simp [World.ext]
  exact First.wp_region_first _ (fun w => Kp.refl S w) (fun w w' w'' h h' => h.trans h') Vs Ps ks hm hB (hw₁ ▸ h _)
theorem first_readG {P : Program} {ops : Array Oper} {Le : World → World → Prop} {Q : Act → World → Prop} {a : Act} {w : World} {o : Oper} {rest : List (Bool × Bool × Oper)} {v : Value} (hg : Region.wanted o (yielded ops a.tmps) = true) (hv : ∀ w', Le w w' → First.at_ P o a w' v)
    (hk : ∀ K : Act → World → Prop, (∀ a w, First.wpF P ops Le Q rest a w → K a w) → K (a.put o.dst v) w) : First.wpF P ops Le Q ((true, true, o) :: rest) a w :=
  First.wpF_free fun K hK => by
    rw [if_pos hg]
    exact ⟨v, hv, hk K hK⟩
theorem Mrd.onl {w w' : World} {g q : Nat} {A : Option Addr} {c : Nat} {l : List Nat} {a : Nat} {e : Int} (h : Mrd w q A c l a e) (ho : Only w w' g) (h1 : q ≠ g) (h2 : 0 < l.length → ∀ b, A = some b → b.block ≠ g) : Mrd w' q A c l a e :=
  ⟨Blk.only h.blk ho h1, Reads.onl h.row ho h2, h.ne, h.le⟩
theorem Mst.onl {w w' : World} {g q : Nat} {A : Option Addr} {c : Nat} {l : List Nat} {r : Rest} (h : Mst w q A c l r) (ho : Only w w' g) (h1 : q ≠ g) (h2 : 0 < l.length → ∀ b, A = some b → b.block ≠ g) : Mst w' q A c l r := by
  obtain ⟨a, e, hm, hr⟩ := h
  exact ⟨a, e, Mrd.onl hm ho h1 h2, hr⟩
theorem Kp.of_only {S : Nat → Prop} {w w' : World} {g : Nat} (h : Only w w' g) (hg : S g) : Kp S w w' := ⟨h.os, h.tape, h.output, h.size, fun k hk hn => h.block k hk (fun e => hn (e ▸ hg))⟩
theorem Kp.cat {S : Nat → Prop} (w : World) (X Y : Ext) : Kp S (w.ext X) (w.ext (X.cat Y)) := by
  have h : Kp S (w.ext X) ((w.ext X).ext Y) := Kp.of_below (World.below_ext _ _)
  rwa [World.ext_ext] at h
theorem de_any (q : Nat) (A : Option Addr) (c : Nat) (l : List Nat) (r : Rest) (hlen : l.length ≤ 140737488355328) (w : World) (h : Mst w q A c l r) :
    Calls Try.prog 63 #[.pointer (some ⟨q, 0, none⟩)] w fun e' w' => e' = .returned (.int .i64 (endP r).e) ∧ Only w w' q := by
  obtain ⟨a, e, hm, rfl⟩ := h
  exact dend_any q A c l a e w hm hlen
theorem Row.conv {P : Program} {w : World} {base : Nat} {src dst : TypeId} {A : Option Addr} {n c : Nat} {xs : List Nat} (h : Row w base (.slice A n c) xs) (hs : P.underlying src = some (.slice 5)) (he : P.underlying 5 = some (.int .u8)) (hd : P.underlying dst = some .string) :
    (convert src dst (.slice A n c)).run P w = .ok (.string (strOf xs)) w := by
  obtain ⟨A', c', e, _, _, _, hr⟩ := h.slice
  simp only [Value.slice.injEq] at e
  obtain ⟨rfl, rfl, rfl⟩ := e
  exact conv_bytes hr hs he hd c
theorem Wrt.kp {S : Nat → Prop} {w w' : World} {base g : Nat} {t : TypeId} {v : Value} {xs : List Nat} (h : Wrt w base g t v xs) (hk : Kp S w w') (hg : ¬S g) (hv : ∀ k, v.ownBlock = some k → ¬S k) : Wrt w' base g t v xs :=
  ⟨Blk.kp h.blk hk hg, h.row.keep (fun k hl ho => hk.block k hl (hv k ho)), h.ne, h.ge⟩
theorem Row.kp {S : Nat → Prop} {w w' : World} {base : Nat} {v : Value} {xs : List Nat} (h : Row w base v xs) (hk : Kp S w w') (hS : ∀ k, S k → k < base) : Row w' base v xs :=
  own_keep h fun k hk0 hl => hk.block k hl (fun hs => by have := hS k hs; omega)
end Go.Proofs.Ytjhcgnmibnjocaa
