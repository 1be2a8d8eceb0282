import Derived.Test.YthajbeooemngpaaInts
import Derived.Test.YthajbeooemngpaaSkip
import Derived.Test.YthajbeooemngpaaFirst
/-! A view; a control in memory. -/
namespace Go.Proofs.Ythajbeooemngpaa
open Go.RowKit
set_option linter.unusedVariables false
set_option linter.unusedSimpArgs false
def okN (l : List Int) (i : Nat) : Bool := ((l[i]?).map fun x => decide (0 ≤ x) && decide (x < 8) && (i == 0 || ((l[i - 1]?).map fun y => decide (y < x)).getD false)).getD false
def upB (l : List Int) : Bool := (List.range l.length).all (okN l)
def risingB (l : List Int) : Bool := upB l && decide (0 < l.length)
theorem upB_of {l : List Int} (h : ∀ i, i < l.length → okN l i = true) : upB l = true := by
  unfold upB
  rw [List.all_eq_true]
  exact fun i hi => h i (by simpa using hi)
theorem upB_not {l : List Int} {i : Nat} (hi : i < l.length) (h : okN l i = false) : upB l = false := by
  unfold upB
  rw [List.all_eq_false]
  exact ⟨i, by simpa using hi, by rw [h]; decide⟩
theorem okN_zero {l : List Int} {x : Int} (h : l[0]? = some x) : okN l 0 = (decide (0 ≤ x) && decide (x < 8)) := by unfold okN; rw [h]; simp
theorem okN_succ {l : List Int} {x y : Int} {m : Nat} (h : l[m + 1]? = some x) (h' : l[m]? = some y) : okN l (m + 1) = (decide (0 ≤ x) && decide (x < 8) && decide (y < x)) := by unfold okN; rw [h]; simp [h']
theorem okN_lo {l : List Int} {x : Int} {j : Nat} (h : l[j]? = some x) (hp : ¬(0 ≤ x ∧ x < 8)) : okN l j = false := by
  unfold okN
  rw [h]
  by_cases h1 : 0 ≤ x
  · have : ¬x < 8 := fun h2 => hp ⟨h1, h2⟩
    simp [this]
  · simp [h1]
set_option maxRecDepth 100000 in
set_option maxHeartbeats 1000000 in
theorem rising_any (A : Option Addr) (n c : Nat) (l : List Int) (w : World) (hr : Reads w w.heap.size 1 A n (ints l)) (hn : n ≤ 9223372036854775807) :
    Calls Try.prog 74 #[.slice A n c] w fun e w' => e = .returned (.bool (risingB l)) ∧ w' = w := by
  have hl := reads_len hr
  go_enter Try.func74, Try.ntmps74
  go_wp2
  go_loopw [7] (fun s wr => ∃ j : Nat, j ≤ n ∧ s = .int .i64 (j : Int) ∧ (∀ i, i < j → okN l i = true) ∧ wr = w) (fun s _ => ((n : Int) - intOf s).toNat)
  case atStart => exact ⟨0, by omega, rfl, fun i hi => by omega, rfl⟩
  case round =>
    obtain ⟨j, hj, rfl, hok, rfl⟩ := hrel
    obtain ⟨wo, rfl⟩ : ∃ wo : World, wo = wr := ⟨_, rfl⟩
    by_cases hlt : j < n
    · obtain ⟨b, o, rfl, hbb, hc⟩ := hr.plain (by omega) (by omega)
      have hg : l[j]? = some l[j] := List.getElem?_eq_getElem (by omega)
      have m1 := hc _ _ (ints_get hg)
      have hlj : (j : Int) < n := by omega
      generalize l[j] = x at *
      by_cases h1 : 0 ≤ x
      · have c1 : decide (x < 0) = false := by simp; omega
        by_cases h2 : x < 8
        · have c2 : decide (8 ≤ x) = false := by simp; omega
          rcases Nat.eq_zero_or_pos j with h0 | h0
          · subst h0
            simp only [Nat.zero_mul, Nat.add_zero] at m1
            rw [show ((0 : Nat) : Int) = 0 from rfl]
            have HO : Hid (∀ i, i < 1 → okN l i = true) := show ∀ i, i < 1 → okN l i = true from fun i hi => by
              obtain rfl : i = 0 := by omega
              rw [okN_zero hg]
              simp [h1, h2]
            clear hc hok hr hg h1 h2
            go_wp2
            go_roundw
            case rel => exact ⟨1, by omega, rfl, HO.out, by trivial⟩
            case measure => simp [intOf]; omega
          · obtain ⟨m, rfl⟩ : ∃ m, j = m + 1 := ⟨j - 1, by omega⟩
            have hg' : l[m]? = some l[m] := List.getElem?_eq_getElem (by omega)
            have m3 := hc _ _ (ints_get hg')
            have HO := hide (okN_succ hg hg')
            have hml : m < l.length := by omega
            generalize l[m] = y at *
            by_cases h3 : y < x
            · have c3 : decide (x ≤ y) = false := by simp; omega
              have HK : Hid (∀ i, i < m + 1 + 1 → okN l i = true) := show ∀ i, i < m + 1 + 1 → okN l i = true from fun i hi => by
                rcases Nat.lt_or_ge i (m + 1) with h' | h'
                · exact hok i h'
                · obtain rfl : i = m + 1 := by omega
                  rw [HO.out]
                  simp [h1, h2, h3]
              clear hc hok hr hg hg' h1 h2 HO
              go_wp2
              go_roundw
              case rel => exact ⟨m + 1 + 1, by omega, by go_num, HK.out, by trivial⟩
              case measure => simp [intOf]; omega
            · have c3 : decide (x ≤ y) = true := by simp; omega
              have HF : Hid (risingB l = false) := show risingB l = false from by
                unfold risingB
                rw [upB_not (i := m + 1) (by omega) (by rw [HO.out]; simp [h3])]
                rfl
              clear hc hok hr hg hg' h1 h2 HO
              go_wp2
              go_ret
              exact ⟨by rw [HF.out] <;> rfl, rfl⟩
        · have c2 : decide (8 ≤ x) = true := by simp; omega
          have HF : Hid (risingB l = false) := show risingB l = false from by
            unfold risingB
            rw [upB_not (i := j) (by omega) (okN_lo hg (by omega))]
            rfl
          clear hc hok hr hg h1 h2
          go_wp2
          go_ret
          exact ⟨by rw [HF.out] <;> rfl, rfl⟩
      · have c1 : decide (x < 0) = true := by simp; omega
        have HF : Hid (risingB l = false) := show risingB l = false from by
          unfold risingB
          rw [upB_not (i := j) (by omega) (okN_lo hg (by omega))]
          rfl
        clear hc hok hr hg h1
        go_wp2
        go_ret
        exact ⟨by rw [HF.out] <;> rfl, rfl⟩
    · obtain rfl : j = n := by omega
      have HF : Hid (risingB l = decide (0 < (j : Int))) := show risingB l = decide (0 < (j : Int)) from by
        unfold risingB
        rw [upB_of (fun i hi => hok i (by omega)), hl]
        simp
      clear hok
      go_wp2
      go_ret
      exact ⟨by rw [HF.out]; simp, rfl⟩
/-- A row of ints that lies whole in a block. -/
def RowAt (w : World) (b : Nat) (l : List Int) (cap : Nat) : Prop := ∃ cs, Blk w b 3 cs ∧ cs.size = cap ∧ l.length ≤ cap ∧ cap ≤ maxLen ∧ cs.toList.take l.length = ints l
theorem RowAt.own {w : World} {b base cap : Nat} {l : List Int} (h : RowAt w b l cap) (hb : base ≤ b) : w.ownsRow base 3 1 (.slice (some ⟨b, 0, none⟩) l.length cap) l.length (ints l) := by
  obtain ⟨cs, h1, h2, h3, h4, h5⟩ := h
  exact h1.own hb h3 h4 (by omega) (by rw [Nat.mul_one]; exact h5) (by simp [ints_length])
theorem RowAt.reads {w : World} {b cap : Nat} {l : List Int} (h : RowAt w b l cap) : Reads w w.heap.size 1 (some ⟨b, 0, none⟩) l.length (ints l) := Reads.of_own (h.own (Nat.zero_le _))
theorem RowAt.lt {w : World} {b cap : Nat} {l : List Int} (h : RowAt w b l cap) : b < w.heap.size := by obtain ⟨cs, h1, _⟩ := h; exact h1.lt
theorem RowAt.keep {w w' : World} {b cap : Nat} {l : List Int} (h : RowAt w b l cap) (hk : w'.heap[b]? = w.heap[b]?) : RowAt w' b l cap := by obtain ⟨cs, h1, h2⟩ := h; exact ⟨cs, hk.trans h1, h2⟩
theorem RowAt.of_own {w : World} {base : Nat} {v : Value} {l : List Int} (h : w.ownsRow base 3 1 v l.length (ints l)) (h0 : 0 < l.length) : ∃ b cap, v = .slice (some ⟨b, 0, none⟩) l.length cap ∧ base ≤ b ∧ RowAt w b l cap := by
  rcases h.2 with ⟨_, h'⟩ | ⟨g, cap, cur, rfl, hb, hh, hnc, hm, hsz, htk⟩
  · omega
  · exact ⟨g, cap, rfl, hb, cur, hh, by omega, hnc, hm, by rw [Nat.mul_one] at htk; exact htk⟩
theorem RowAt.of_own' {w : World} {base n : Nat} {v : Value} {l : List Int} (h : w.ownsRow base 3 1 v n (ints l)) (h0 : 0 < n) (hl : l.length = n) : ∃ b cap, v = .slice (some ⟨b, 0, none⟩) n cap ∧ base ≤ b ∧ RowAt w b l cap := by
  subst hl
  exact RowAt.of_own h h0
theorem RowAt.ext {w : World} {b cap : Nat} {l : List Int} (h : RowAt w b l cap) (X : Ext) : RowAt (w.ext X) b l cap := h.keep (World.heap_ext h.lt)
theorem RowAt.alloc {w : World} {b cap : Nat} {l : List Int} (h : RowAt w b l cap) (o : Obj) : RowAt (w.alloc o) b l cap := h.keep (Below.heap_alloc w o b h.lt)
theorem RowAt.set_ {w : World} {b cap : Nat} {l : List Int} (h : RowAt w b l cap) {p : Addr} (hp : b ≠ p.block) (u : Value) : RowAt (w.setCell p u) b l cap := h.keep (Below.heap_setCell w p u b hp)
theorem vgrown_alloc (w : World) (o : Obj) : First.Grown w (w.alloc o) := World.ext_of_below (Below.alloc (Below.refl _ _) (Nat.le_refl _) o)
structure Vw where
  e : Int
  p : Int
  ms : List Int
  ss : List Int
def Ctl (w : World) (g bm bs : Nat) (k : Vw) : Prop := ∃ cm cs, Blk w g 127 #[.int .i64 k.e, .int .i64 k.p, .slice (some ⟨bm, 0, none⟩) k.ms.length cm, .slice (some ⟨bs, 0, none⟩) k.ss.length cs] ∧ RowAt w bm k.ms cm ∧ RowAt w bs k.ss cs ∧ g ≠ bm ∧ g ≠ bs ∧ bm ≠ bs
theorem Ctl.keep {w w' : World} {g bm bs : Nat} {k : Vw} (h : Ctl w g bm bs k) (hg : w'.heap[g]? = w.heap[g]?) (hm : w'.heap[bm]? = w.heap[bm]?) (hs : w'.heap[bs]? = w.heap[bs]?) : Ctl w' g bm bs k := by
  obtain ⟨cm, cs, h1, h2, h3, h4⟩ := h
  exact ⟨cm, cs, hg.trans h1, h2.keep hm, h3.keep hs, h4⟩
theorem Ctl.lt {w : World} {g bm bs : Nat} {k : Vw} (h : Ctl w g bm bs k) : g < w.heap.size ∧ bm < w.heap.size ∧ bs < w.heap.size := by
  obtain ⟨cm, cs, h1, h2, h3, h4⟩ := h
  exact ⟨h1.lt, h2.lt, h3.lt⟩
theorem Ctl.below {w w' : World} {g bm bs : Nat} {k : Vw} (h : Ctl w g bm bs k) (hb : Below w.heap.size w w') : Ctl w' g bm bs k :=
  h.keep (hb.block _ h.lt.1) (hb.block _ h.lt.2.1) (hb.block _ h.lt.2.2)
structure Vw.ok (k : Vw) : Prop where
  e : 1 ≤ k.e ∧ k.e ≤ 4611686018427387904
  up : risingB k.ms = true
  p : k.p ∈ k.ms
  ps : k.p ∈ k.ss
  sub : ∀ x ∈ k.ss, x ∈ k.ms
  mb : k.ms.length * 8 ≤ 140737488355328
  sb : k.ss.length * 8 ≤ 140737488355328
theorem own_keep {w w' : World} {base size n : Nat} {e : TypeId} {v : Value} {xs : List Value} (h : w.ownsRow base e size v n xs) (hk : ∀ k, base ≤ k → k < w.heap.size → w'.heap[k]? = w.heap[k]?) : w'.ownsRow base e size v n xs := by
  refine ⟨h.1, ?_⟩
  rcases h.2 with h' | ⟨g, cap, cur, hv, hb, hh, r⟩
  · exact .inl h'
  · exact .inr ⟨g, cap, cur, hv, hb, (hk g hb (Blk.lt hh)).trans hh, r⟩
theorem own_sl {base : Nat} {e : TypeId} {size n : Nat} {w : World} {v : Value} {xs : List Value} (h : w.ownsRow base e size v n xs) : ∃ A cap, v = .slice A n cap ∧ n ≤ cap := by
  rcases h.2 with ⟨rfl, rfl⟩ | ⟨g, cap, cur, rfl, _, _, hnc, _⟩
  · exact ⟨_, _, rfl, Nat.le_refl _⟩
  · exact ⟨_, _, rfl, hnc⟩
theorem own_set {w : World} {base size n : Nat} {e : TypeId} {v : Value} {xs : List Value} (h : w.ownsRow base e size v n xs) {p : Addr} (hp : p.block < base) (u : Value) : (w.setCell p u).ownsRow base e size v n xs :=
  own_keep h fun k hk _ => Below.heap_setCell w p u k (by omega)
theorem own_ext {w : World} {base size n : Nat} {e : TypeId} {v : Value} {xs : List Value} (h : w.ownsRow base e size v n xs) (X : Ext) : (w.ext X).ownsRow base e size v n xs :=
  own_keep h fun k _ hk => World.heap_ext hk
theorem own_alloc {w : World} {base size n : Nat} {e : TypeId} {v : Value} {xs : List Value} (h : w.ownsRow base e size v n xs) (o : Obj) : (w.alloc o).ownsRow base e size v n xs :=
  own_keep h fun k _ hk => Below.heap_alloc w o k hk
theorem own_low {w : World} {base base' size n : Nat} {e : TypeId} {v : Value} {xs : List Value} (h : w.ownsRow base e size v n xs) (hb : base' ≤ base) : w.ownsRow base' e size v n xs := by
  refine ⟨h.1, ?_⟩
  rcases h.2 with h' | ⟨g, cap, cur, hv, hg, r⟩
  · exact .inl h'
  · exact .inr ⟨g, cap, cur, hv, by omega, r⟩
theorem twin_any (e p : Int) (A : Option Addr) (n c : Nat) (l : List Int) (w : World) (hr : Reads w w.heap.size 1 A n (ints l)) (hn : n * 8 ≤ 140737488355328) :
    Calls Try.prog 79 #[.agg #[.int .i64 e, .int .i64 p, .slice A n c]] w fun r w' => (∃ v, r = .returned (.agg #[.int .i64 e, .int .i64 p, v]) ∧ w'.ownsRow w.heap.size 3 1 v n (ints l)) ∧ Below w.heap.size w w' := by
  have hk : ∀ o1 o2, _ := fun o1 o2 => clone_any A n c l ((w.alloc o1).alloc o2) (((hr.alloc (Nat.le_refl _) o1).alloc (by simp) o2).more (by simp; omega)) hn
  go_enter Try.func79, Try.ntmps79
  go_wp2_with ((go_at_call 76; (with_reducible refine (hk _ _).mono ?_); rintro e w1 ⟨⟨v, rfl, ho⟩, hb1⟩; obtain ⟨A1, cap, rfl, hcap⟩ := own_sl ho; obtain ⟨X, rfl⟩ := World.ext_of_below hb1; clear hb1))
  refine bodyPost_cell Try.results79 rfl (Blk.three (Blk.far (Blk.ext (Blk.made w _ _ _) X) (by simp) _)) Try.underlying56 rfl (by kernel_rfl) rfl ⟨⟨_, rfl, ?_⟩, by (repeat' (first | with_reducible exact Below.refl _ _ | with_reducible refine Below.ext ?_ ?_ _ | with_reducible refine Below.alloc ?_ ?_ _ | with_reducible refine Below.setCell ?_ ?_ _ | with_reducible refine Below.drew ?_ | with_reducible assumption | (simp [World.size_ext]; done) | (simp [World.size_ext]; omega)))⟩
  exact own_low (own_set (own_set (own_set (own_set ho (by simp; omega) _) (by simp) _) (by simp) _) (by simp) _) (by simp; omega)
theorem now_nil (w : World) :
    Calls Try.prog 30 #[.pointer none] w fun r w' => r = .returned (.agg #[.int .i64 0, .int .i64 0, .slice none 0 0]) ∧ Below w.heap.size w w' := by
  go_enter Try.func30, Try.ntmps30
  go_wp2
  refine bodyPost_cell Try.results30 rfl (Blk.new w _ _) Try.underlying56 rfl (by kernel_rfl) rfl ⟨rfl, by (repeat' (first | with_reducible exact Below.refl _ _ | with_reducible refine Below.ext ?_ ?_ _ | with_reducible refine Below.alloc ?_ ?_ _ | with_reducible refine Below.setCell ?_ ?_ _ | with_reducible refine Below.drew ?_ | with_reducible assumption | (simp [World.size_ext]; done) | (simp [World.size_ext]; omega)))⟩
theorem now_any (g bm bs : Nat) (k : Vw) (w : World) (h : Ctl w g bm bs k) (hn : k.ms.length * 8 ≤ 140737488355328) :
    Calls Try.prog 30 #[.pointer (some ⟨g, 0, none⟩)] w fun r w' => (∃ v, r = .returned (.agg #[.int .i64 k.e, .int .i64 k.p, v]) ∧ w'.ownsRow w.heap.size 3 1 v k.ms.length (ints k.ms)) ∧ Below w.heap.size w w' := by
  obtain ⟨cm, cs, h1, h2, h3, h4⟩ := h
  have c1 := h1.cell
  have l1 := h1.lt
  have hr := h2.reads
  have hk : ∀ o1, _ := fun o1 => twin_any k.e k.p _ _ cm k.ms (w.alloc o1) ((hr.alloc (Nat.le_refl _) o1).more (by simp)) hn
  clear hr h2 h3 h4 h1
  go_enter Try.func30, Try.ntmps30
  go_wp2_with (go_at_call 79; (with_reducible refine (hk _).mono ?_); rintro e w1 ⟨⟨v, rfl, ho⟩, hb1⟩; obtain ⟨A1, cap, rfl, hcap⟩ := own_sl ho; obtain ⟨X, rfl⟩ := World.ext_of_below hb1; clear hb1)
  refine bodyPost_cell Try.results30 rfl (Blk.three (Blk.ext (Blk.new w _ _) X)) Try.underlying56 rfl (by kernel_rfl) rfl ⟨⟨_, rfl, ?_⟩, by (repeat' (first | with_reducible exact Below.refl _ _ | with_reducible refine Below.ext ?_ ?_ _ | with_reducible refine Below.alloc ?_ ?_ _ | with_reducible refine Below.setCell ?_ ?_ _ | with_reducible refine Below.drew ?_ | with_reducible assumption | (simp [World.size_ext]; done) | (simp [World.size_ext]; omega)))⟩
  exact own_low (own_set (own_set (own_set ho (by simp) _) (by simp) _) (by simp) _) (by simp)
theorem safe_nil (w : World) :
    Calls Try.prog 31 #[.pointer none] w fun r w' => r = .returned (.slice none 0 0) ∧ w' = w := by
  go_enter Try.func31, Try.ntmps31
  go_wp2
  go_ret
  exact ⟨rfl, rfl⟩
theorem safe_any (g bm bs : Nat) (k : Vw) (w : World) (h : Ctl w g bm bs k) (hn : k.ss.length * 8 ≤ 140737488355328) :
    Calls Try.prog 31 #[.pointer (some ⟨g, 0, none⟩)] w fun r w' => (∃ v, r = .returned v ∧ w'.ownsRow w.heap.size 3 1 v k.ss.length (ints k.ss)) ∧ Below w.heap.size w w' := by
  obtain ⟨cm, cs, h1, h2, h3, h4⟩ := h
  have c1 := h1.cell
  have l1 := h1.lt
  have hk := clone_any _ _ cs k.ss w h3.reads hn
  clear h2 h3 h4 h1
  go_enter Try.func31, Try.ntmps31
  go_wp2_with (go_at_call 76; (with_reducible refine hk.mono ?_); rintro e w1 ⟨⟨v, rfl, ho⟩, hb1⟩)
  go_ret
  exact ⟨⟨v, rfl, ho⟩, hb1⟩
theorem new_no (A : Option Addr) (n c : Nat) (l : List Int) (w : World) (hr : Reads w w.heap.size 1 A n (ints l)) (hn : n * 8 ≤ 140737488355328) (hu : risingB l = false) :
    Calls Try.prog 32 #[.slice A n c] w fun r w' => r = .returned (.tuple #[.pointer none, .int .i64 1]) ∧ w' = w := by
  have hk := rising_any A n c l w hr (by omega)
  rw [hu] at hk
  go_enter Try.func32, Try.ntmps32
  go_wp2_with (go_at_call 74; (with_reducible refine hk.mono ?_); rintro e w1 ⟨rfl, rfl⟩)
  refine bodyPost_ret (v := .tuple #[.pointer none, .int .i64 1]) (by simp [results, Try.results32, go_sem] <;> rfl) rfl ⟨rfl, rfl⟩
theorem new_yes (A : Option Addr) (n c : Nat) (x : Int) (l : List Int) (w : World) (hr : Reads w w.heap.size 1 A n (ints (x :: l))) (hn : n * 8 ≤ 140737488355328) (hu : risingB (x :: l) = true) :
    Calls Try.prog 32 #[.slice A n c] w fun r w' => (∃ g bm bs, r = .returned (.tuple #[.pointer (some ⟨g, 0, none⟩), .int .i64 0]) ∧ Ctl w' g bm bs ⟨1, x, x :: l, x :: l⟩ ∧ w.heap.size ≤ g ∧ w.heap.size ≤ bm ∧ w.heap.size ≤ bs) ∧ Below w.heap.size w w' := by
  have hk := rising_any A n c (x :: l) w hr (by omega)
  rw [hu] at hk
  have hl := hide (reads_len hr)
  have hn0 : 0 < n := by have := hl.out; simp at this; omega
  have hn0' : (0 : Int) < n := by omega
  have hcl : ∀ X, _ := fun X => clone_any A _ c (x :: l) (w.ext X) ((hr.ext (Nat.le_refl _) X).more (by simp [World.size_ext])) hn
  have hrk := hr
  obtain ⟨b, o, rfl, hbb, hc⟩ := hr.plain hn0 (by omega)
  have m1 := hc 0 _ (by rfl : (ints (x :: l))[0]? = some _)
  rw [Nat.add_zero] at m1
  clear hc hr
  go_enter Try.func32, Try.ntmps32
  go_wp2_with (go_at_call 74; (with_reducible refine hk.mono ?_); rintro e w1 ⟨rfl, rfl⟩)
  refine First.wp_region_first_ext [2] [0, 1, 3, 5, 6, 8] [(true, false, 0), (true, false, 1), (true, true, 2), (true, false, 3), (true, false, 6), (false, true, 4), (true, false, 5), (false, true, 7), (true, false, 8), (false, true, 9), (false, false, 10), (false, false, 11)] (by kernel_rfl) (by kernel_rfl) (fun X => ?_); simp only [List.map_cons, List.map_nil, List.getD_cons_zero, List.getD_cons_succ]
  (repeat (first | (refine First.wpF_pure (fun K hK => ?_); go_simp; first | (refine hK _ _ ?_; clear hK K) | (apply Exists.intro; refine ⟨fun _ => ?_, hK _ _ ?_⟩; fail)) | (refine First.wpF_free (fun K hK => ?_); go_simp; first | (refine hK _ _ ?_; clear hK K))))
  refine First.wpF_must (fun K hK => ?_)
  go_wp2_with (go_at_call 76; (with_reducible refine (hcl _).mono ?_); rintro e w2 ⟨⟨v, rfl, ho1⟩, hb1⟩; obtain ⟨b1, k1, rfl, hg1, hR1⟩ := RowAt.of_own' ho1 hn0 hl.out; obtain ⟨Y, rfl⟩ := World.ext_of_below hb1; clear hb1 ho1)
  (refine hK _ _ (fun hnd => by first | exact Bool.noConfusion hnd | assumption | with_reducible exact grown_alloc _ _ | with_reducible exact First.Grown.refl _ | with_reducible exact First.Grown.cat _ _ _ | with_reducible exact First.Grown.ext _ _) ?_; clear hK K)
  (repeat (first | (refine First.wpF_pure (fun K hK => ?_); go_simp; first | (refine hK _ _ ?_; clear hK K) | (apply Exists.intro; refine ⟨fun _ => ?_, hK _ _ ?_⟩; fail)) | (refine First.wpF_free (fun K hK => ?_); go_simp; first | (refine hK _ _ ?_; clear hK K))))
  refine First.wpF_must (fun K hK => ?_)
  go_wp2_with (go_at_call 76; (with_reducible refine (hcl _).mono ?_); rintro e w2 ⟨⟨v, rfl, ho2⟩, hb2⟩; obtain ⟨b2, k2, rfl, hg2, hR2⟩ := RowAt.of_own' ho2 hn0 hl.out; obtain ⟨Z, rfl⟩ := World.ext_of_below hb2; clear hb2 ho2)
  (refine hK _ _ (fun hnd => by first | exact Bool.noConfusion hnd | assumption | with_reducible exact grown_alloc _ _ | with_reducible exact First.Grown.refl _ | with_reducible exact First.Grown.cat _ _ _ | with_reducible exact First.Grown.ext _ _) ?_; clear hK K)
  (repeat (first | (refine First.wpF_pure (fun K hK => ?_); go_simp; first | (refine hK _ _ ?_; clear hK K) | (apply Exists.intro; refine ⟨fun _ => ?_, hK _ _ ?_⟩; fail)) | (refine First.wpF_free (fun K hK => ?_); go_simp; first | (refine hK _ _ ?_; clear hK K))))
  refine First.wpF_must (fun K hK => ?_)
  go_wp2
  (refine hK _ _ (fun hnd => vgrown_alloc _ _) ?_; clear hK K)
  (repeat (first | (refine First.wpF_pure (fun K hK => ?_); go_simp; first | (refine hK _ _ ?_; clear hK K) | (apply Exists.intro; refine ⟨fun _ => ?_, hK _ _ ?_⟩; fail)) | (refine First.wpF_free (fun K hK => ?_); go_simp; first | (refine hK _ _ ?_; clear hK K))))
  refine First.wpF_must (fun K hK => ?_)
  go_wp2
  (refine hK _ _ (fun hnd => by first | exact Bool.noConfusion hnd | assumption | with_reducible exact grown_alloc _ _ | with_reducible exact First.Grown.refl _ | with_reducible exact First.Grown.cat _ _ _ | with_reducible exact First.Grown.ext _ _) ?_; clear hK K)
  refine First.wpF_must (fun K hK => ?_)
  go_wp2
  (refine hK _ _ (fun hnd => by first | exact Bool.noConfusion hnd | assumption | with_reducible exact grown_alloc _ _ | with_reducible exact First.Grown.refl _ | with_reducible exact First.Grown.cat _ _ _ | with_reducible exact First.Grown.ext _ _) ?_; clear hK K)
  refine First.wpF_nil ?_
  go_wp2
  refine bodyPost_ret (v := .tuple #[.pointer (some ⟨w1.heap.size + (X.blocks.size + Y.blocks.size + Z.blocks.size), 0, none⟩), .int .i64 0]) (by simp [results, Try.results32, go_sem] <;> rfl) rfl ⟨⟨_, b1, b2, rfl, ⟨k1, k2, ?_, ?_, ?_, ?_, ?_, ?_⟩, ?_, ?_, ?_⟩, ?_⟩
  · have h := Blk.new (w1.ext ((X.cat Y).cat Z)) 127 #[.int .i64 1, .int .i64 x, .slice (some ⟨b1, 0, none⟩) n k1, .slice (some ⟨b2, 0, none⟩) n k2]
    rw [World.size_ext, Ext.size_cat, Ext.size_cat] at h
    show Blk _ _ _ #[.int .i64 1, .int .i64 x, .slice (some ⟨b1, 0, none⟩) (x :: l).length k1, .slice (some ⟨b2, 0, none⟩) (x :: l).length k2]
    rw [hl.out]
    exact h
  · have h := (hR1.ext Z).alloc (.cells #[.int .i64 1, .int .i64 x, .slice (some ⟨b1, 0, none⟩) n k1, .slice (some ⟨b2, 0, none⟩) n k2] 127)
    rw [World.ext_ext w1 X Y, World.ext_ext w1 (X.cat Y) Z] at h
    exact h
  · have h := hR2.alloc (.cells #[.int .i64 1, .int .i64 x, .slice (some ⟨b1, 0, none⟩) n k1, .slice (some ⟨b2, 0, none⟩) n k2] 127)
    rw [World.ext_ext] at h
    exact h
  all_goals have q1 := hR1.lt
  all_goals have q2 := hR2.lt
  all_goals simp only [World.size_ext, Ext.size_cat] at q1 q2 hg1 hg2
  · omega
  · omega
  · omega
  · omega
  · omega
  · omega
  · (repeat' (first | with_reducible exact Below.refl _ _ | with_reducible refine Below.ext ?_ ?_ _ | with_reducible refine Below.alloc ?_ ?_ _ | with_reducible refine Below.setCell ?_ ?_ _ | with_reducible refine Below.drew ?_ | with_reducible assumption | (simp [World.size_ext]; done) | (simp [World.size_ext]; omega)))
end Go.Proofs.Ythajbeooemngpaa
