import Derived.Test.YtjhcgnmibnjocaaGreatGA
import Derived.Deep.AppendSrc
import Derived.Test.YtjhcgnmibnjocaaGreatGB
/-! Several texts in one. -/
set_option linter.unusedVariables false
set_option linter.unusedSimpArgs false
namespace Go.Proofs.YtjhcgnmibnjocaaGreat
open Go.RowKit
def okN (l : List Int) (i : Nat) : Bool := ((l[i]?).map fun x => decide (0 ≤ x) && decide (x < 8) && (i == 0 || ((l[i - 1]?).map fun y => decide (y < x)).getD false)).getD false
def upB (l : List Int) : Bool := (List.range l.length).all (okN l)
def risingB (l : List Int) : Bool := upB l && decide (0 < l.length)
theorem upB_of {l : List Int} (h : ∀ i, i < l.length → okN l i = true) : upB l = true := by
 unfold upB
 rw [List.all_eq_true]
 exact fun i hi => h i (by simpa using hi)
theorem upB_not {l : List Int} {i : Nat} (hi : i < l.length) (h : okN l i = false) : upB l = false := by
 unfold upB
 rw [List.all_eq_false]
 exact ⟨i, by simpa using hi, by rw [h]; decide⟩
theorem okN_zero {l : List Int} {x : Int} (h : l[0]? = some x) : okN l 0 = (decide (0 ≤ x) && decide (x < 8)) := by unfold okN; rw [h]; simp
theorem okN_succ {l : List Int} {x y : Int} {m : Nat} (h : l[m + 1]? = some x) (h' : l[m]? = some y) : okN l (m + 1) = (decide (0 ≤ x) && decide (x < 8) && decide (y < x)) := by unfold okN; rw [h]; simp [h']
theorem okN_lo {l : List Int} {x : Int} {j : Nat} (h : l[j]? = some x) (hp : ¬(0 ≤ x ∧ x < 8)) : okN l j = false := by
 unfold okN
 rw [h]
 by_cases h1 : 0 ≤ x
 ·have : ¬x < 8 := fun h2 => hp ⟨h1, h2⟩
  simp [this]
 ·simp [h1]
set_option maxRecDepth 100000 in
set_option maxHeartbeats 1000000 in
theorem rising_any (A : Option Addr) (n c : Nat) (l : List Int) (w : World) (hr : Reads w w.heap.size 1 A n (ints l)) (hn : n ≤ 9223372036854775807) :
  Calls Tryz.prog 64 #[.slice A n c] w fun e w' => e = .returned (.bool (risingB l)) ∧ w' = w := by
 have hl := reads_len hr
 go_enter Tryz.func64, Tryz.ntmps64
 go_wp2
 go_loopw [7] (fun s wr => ∃ j : Nat, j ≤ n ∧ s = .int .i64 (j : Int) ∧ (∀ i, i < j → okN l i = true) ∧ wr = w) (fun s _ => ((n : Int) - intOf s).toNat)
 case atStart => exact ⟨0, by omega, rfl, fun i hi => by omega, rfl⟩
 case round =>
  obtain ⟨j, hj, rfl, hok, rfl⟩ := hrel
  obtain ⟨wo, rfl⟩ : ∃ wo : World, wo = wr := ⟨_, rfl⟩
  by_cases hlt : j < n
  ·obtain ⟨b, o, rfl, hbb, hc⟩ := hr.plain (by omega) (by omega)
   have hg : l[j]? = some l[j] := List.getElem?_eq_getElem (by omega)
   have m1 := hc _ _ (ints_get hg)
   have hlj : (j : Int) < n := by omega
   generalize l[j] = x at *
   by_cases h1 : 0 ≤ x
   ·have c1 : decide (x < 0) = false := by simp; omega
    by_cases h2 : x < 8
    ·have c2 : decide (8 ≤ x) = false := by simp; omega
     rcases Nat.eq_zero_or_pos j with h0 | h0
     ·subst h0
      simp only [Nat.zero_mul, Nat.add_zero] at m1
      rw [show ((0 : Nat) : Int) = 0 from rfl]
      have HO : Hid (∀ i, i < 1 → okN l i = true) := show ∀ i, i < 1 → okN l i = true from fun i hi => by
       obtain rfl : i = 0 := by omega
       rw [okN_zero hg]
       simp [h1, h2]
      clear hc hok hr hg h1 h2
      go_wp2
      go_roundw
      case rel => exact ⟨1, by omega, rfl, HO.out, by trivial⟩
      case measure => simp [intOf]; omega
     ·obtain ⟨m, rfl⟩ : ∃ m, j = m + 1 := ⟨j - 1, by omega⟩
      have hg' : l[m]? = some l[m] := List.getElem?_eq_getElem (by omega)
      have m3 := hc _ _ (ints_get hg')
      have HO := hide (okN_succ hg hg')
      have hml : m < l.length := by omega
      generalize l[m] = y at *
      by_cases h3 : y < x
      ·have c3 : decide (x ≤ y) = false := by simp; omega
       have HK : Hid (∀ i, i < m + 1 + 1 → okN l i = true) := show ∀ i, i < m + 1 + 1 → okN l i = true from fun i hi => by
        rcases Nat.lt_or_ge i (m + 1) with h' | h'
        ·exact hok i h'
        ·obtain rfl : i = m + 1 := by omega
         rw [HO.out]
         simp [h1, h2, h3]
       clear hc hok hr hg hg' h1 h2 HO
       go_wp2
       go_roundw
       case rel => exact ⟨m + 1 + 1, by omega, by go_num, HK.out, by trivial⟩
       case measure => simp [intOf]; omega
      ·have c3 : decide (x ≤ y) = true := by simp; omega
       have HF : Hid (risingB l = false) := show risingB l = false from by
        unfold risingB
        rw [upB_not (i := m + 1) (by omega) (by rw [HO.out]; simp [h3])]
        rfl
       clear hc hok hr hg hg' h1 h2 HO
       go_wp2
       go_ret
       exact ⟨by rw [HF.out] <;> rfl, rfl⟩
    ·have c2 : decide (8 ≤ x) = true := by simp; omega
     have HF : Hid (risingB l = false) := show risingB l = false from by
      unfold risingB
      rw [upB_not (i := j) (by omega) (okN_lo hg (by omega))]
      rfl
     clear hc hok hr hg h1 h2
     go_wp2
     go_ret
     exact ⟨by rw [HF.out] <;> rfl, rfl⟩
   ·have c1 : decide (x < 0) = true := by simp; omega
    have HF : Hid (risingB l = false) := show risingB l = false from by
     unfold risingB
     rw [upB_not (i := j) (by omega) (okN_lo hg (by omega))]
     rfl
    clear hc hok hr hg h1
    go_wp2
    go_ret
    exact ⟨by rw [HF.out] <;> rfl, rfl⟩
  ·obtain rfl : j = n := by omega
   have HF : Hid (risingB l = decide (0 < (j : Int))) := show risingB l = decide (0 < (j : Int)) from by
    unfold risingB
    rw [upB_of (fun i hi => hok i (by omega)), hl]
    simp
   clear hok
   go_wp2
   go_ret
   exact ⟨by rw [HF.out]; simp, rfl⟩
def RowAt (w : World) (b : Nat) (l : List Int) (cap : Nat) : Prop := ∃ cs, Blk w b 3 cs ∧ cs.size = cap ∧ l.length ≤ cap ∧ cap ≤ maxLen ∧ cs.toList.take l.length = ints l
theorem RowAt.own {w : World} {b base cap : Nat} {l : List Int} (h : RowAt w b l cap) (hb : base ≤ b) : w.ownsRow base 3 1 (.slice (some ⟨b, 0, none⟩) l.length cap) l.length (ints l) := by
 obtain ⟨cs, h1, h2, h3, h4, h5⟩ := h
 exact h1.own hb h3 h4 (by omega) (by rw [Nat.mul_one]; exact h5) (by simp [ints_length])
theorem RowAt.reads {w : World} {b cap : Nat} {l : List Int} (h : RowAt w b l cap) : Reads w w.heap.size 1 (some ⟨b, 0, none⟩) l.length (ints l) := Reads.of_own (h.own (Nat.zero_le _))
theorem RowAt.lt {w : World} {b cap : Nat} {l : List Int} (h : RowAt w b l cap) : b < w.heap.size := by obtain ⟨cs, h1, _⟩ := h; exact h1.lt
theorem RowAt.keep {w w' : World} {b cap : Nat} {l : List Int} (h : RowAt w b l cap) (hk : w'.heap[b]? = w.heap[b]?) : RowAt w' b l cap := by obtain ⟨cs, h1, h2⟩ := h; exact ⟨cs, hk.trans h1, h2⟩
theorem RowAt.of_own {w : World} {base : Nat} {v : Value} {l : List Int} (h : w.ownsRow base 3 1 v l.length (ints l)) (h0 : 0 < l.length) : ∃ b cap, v = .slice (some ⟨b, 0, none⟩) l.length cap ∧ base ≤ b ∧ RowAt w b l cap := by
 rcases h.2 with ⟨_, h'⟩ | ⟨g, cap, cur, rfl, hb, hh, hnc, hm, hsz, htk⟩
 ·omega
 ·exact ⟨g, cap, rfl, hb, cur, hh, by omega, hnc, hm, by rw [Nat.mul_one] at htk; exact htk⟩
theorem RowAt.of_own' {w : World} {base n : Nat} {v : Value} {l : List Int} (h : w.ownsRow base 3 1 v n (ints l)) (h0 : 0 < n) (hl : l.length = n) : ∃ b cap, v = .slice (some ⟨b, 0, none⟩) n cap ∧ base ≤ b ∧ RowAt w b l cap := by
 subst hl
 exact RowAt.of_own h h0
theorem own_keep {w w' : World} {base size n : Nat} {e : TypeId} {v : Value} {xs : List Value} (h : w.ownsRow base e size v n xs) (hk : ∀ k, base ≤ k → k < w.heap.size → w'.heap[k]? = w.heap[k]?) : w'.ownsRow base e size v n xs := by
 refine ⟨h.1, ?_⟩
 rcases h.2 with h' | ⟨g, cap, cur, hv, hb, hh, r⟩
 ·exact .inl h'
 ·exact .inr ⟨g, cap, cur, hv, hb, (hk g hb (Blk.lt hh)).trans hh, r⟩
theorem own_sl {base : Nat} {e : TypeId} {size n : Nat} {w : World} {v : Value} {xs : List Value} (h : w.ownsRow base e size v n xs) : ∃ A cap, v = .slice A n cap ∧ n ≤ cap := by
 rcases h.2 with ⟨rfl, rfl⟩ | ⟨g, cap, cur, rfl, _, _, hnc, _⟩
 ·exact ⟨_, _, rfl, Nat.le_refl _⟩
 ·exact ⟨_, _, rfl, hnc⟩
theorem own_set {w : World} {base size n : Nat} {e : TypeId} {v : Value} {xs : List Value} (h : w.ownsRow base e size v n xs) {p : Addr} (hp : p.block < base) (u : Value) : (w.setCell p u).ownsRow base e size v n xs :=
 own_keep h fun k hk _ => Below.heap_setCell w p u k (by omega)
theorem own_ext {w : World} {base size n : Nat} {e : TypeId} {v : Value} {xs : List Value} (h : w.ownsRow base e size v n xs) (X : Ext) : (w.ext X).ownsRow base e size v n xs :=
 own_keep h fun k _ hk => World.heap_ext hk
theorem own_alloc {w : World} {base size n : Nat} {e : TypeId} {v : Value} {xs : List Value} (h : w.ownsRow base e size v n xs) (o : Obj) : (w.alloc o).ownsRow base e size v n xs :=
 own_keep h fun k _ hk => Below.heap_alloc w o k hk
theorem own_low {w : World} {base base' size n : Nat} {e : TypeId} {v : Value} {xs : List Value} (h : w.ownsRow base e size v n xs) (hb : base' ≤ base) : w.ownsRow base' e size v n xs := by
 refine ⟨h.1, ?_⟩
 rcases h.2 with h' | ⟨g, cap, cur, hv, hg, r⟩
 ·exact .inl h'
 ·exact .inr ⟨g, cap, cur, hv, by omega, r⟩
end Go.Proofs.YtjhcgnmibnjocaaGreat

namespace Go.Proofs.YtjhcgnmibnjocaaGreat
open Go.RowKit
def rightV (e p : Int) (l : List Int) : Bool := decide (1 ≤ e) && decide (e ≤ 4611686018427387904) && risingB l && hasB l p
set_option maxHeartbeats 1000000 in
theorem vright_any (e p : Int) (A : Option Addr) (n c : Nat) (l : List Int) (w : World) (hr : Reads w w.heap.size 1 A n (ints l)) (hn : n ≤ 9223372036854775807) :
  Calls Tryz.prog 26 #[.agg #[.int .i64 e, .int .i64 p, .slice A n c]] w fun r w' => r = .returned (.bool (rightV e p l)) ∧ Below w.heap.size w w' := by
 have hr' : ∀ o, Reads (w.alloc o) (w.alloc o).heap.size 1 A n (ints l) := fun o => (hr.alloc (Nat.le_refl _) o).more (by simp)
 have hR : ∀ o, _ := fun o => rising_any A n c l (w.alloc o) (hr' o) hn
 have hH : ∀ o, _ := fun o => has_any A n c l p (w.alloc o) (hr' o) hn
 clear hr' hr
 unfold rightV
 by_cases h1 : 1 ≤ e
 ·by_cases h2 : e ≤ 4611686018427387904
  ·cases hu : risingB l with
   | true =>
    rw [hu] at hR
    rw [decide_eq_true h1, decide_eq_true h2]
    go_enter Tryz.func26, Tryz.ntmps26
    go_wp2_with (first | (go_at_call 64; (with_reducible refine (hR _).mono ?_); rintro e w1 ⟨rfl, rfl⟩) | (go_at_call 50; (with_reducible refine (hH _).mono ?_); rintro e w1 ⟨rfl, rfl⟩))
    go_ret
    exact ⟨rfl, by (repeat' (first | with_reducible (first | exact Below.refl _ _ | refine Below.ext ?_ ?_ _ | refine Below.alloc ?_ ?_ _ | refine Below.setCell ?_ ?_ _ | refine Below.drew ?_ | assumption) | (simp [World.size_ext]; done) | (simp [World.size_ext]; omega)))⟩
   | false =>
    rw [hu] at hR
    rw [decide_eq_true h1, decide_eq_true h2]
    go_enter Tryz.func26, Tryz.ntmps26
    go_wp2_with (first | (go_at_call 64; (with_reducible refine (hR _).mono ?_); rintro e w1 ⟨rfl, rfl⟩))
    go_ret
    exact ⟨rfl, by (repeat' (first | with_reducible (first | exact Below.refl _ _ | refine Below.ext ?_ ?_ _ | refine Below.alloc ?_ ?_ _ | refine Below.setCell ?_ ?_ _ | refine Below.drew ?_ | assumption) | (simp [World.size_ext]; done) | (simp [World.size_ext]; omega)))⟩
  ·rw [decide_eq_true h1, decide_eq_false h2]
   go_enter Tryz.func26, Tryz.ntmps26
   go_wp2
   go_ret
   exact ⟨rfl, by (repeat' (first | with_reducible (first | exact Below.refl _ _ | refine Below.ext ?_ ?_ _ | refine Below.alloc ?_ ?_ _ | refine Below.setCell ?_ ?_ _ | refine Below.drew ?_ | assumption) | (simp [World.size_ext]; done) | (simp [World.size_ext]; omega)))⟩
 ·rw [decide_eq_false h1]
  go_enter Tryz.func26, Tryz.ntmps26
  go_wp2
  go_ret
  exact ⟨rfl, by (repeat' (first | with_reducible (first | exact Below.refl _ _ | refine Below.ext ?_ ?_ _ | refine Below.alloc ?_ ?_ _ | refine Below.setCell ?_ ?_ _ | refine Below.drew ?_ | assumption) | (simp [World.size_ext]; done) | (simp [World.size_ext]; omega)))⟩
end Go.Proofs.YtjhcgnmibnjocaaGreat

namespace Go.Proofs.YtjhcgnmibnjocaaGreat
open Go.RowKit
theorem only_setCells {g : Nat} : ∀ (vs : List Value) (o : Nat) (w : World), Only w (w.setCells g o vs) g
 | [], o, w => Only.refl w g
 | v :: vs, o, w => (Only.setCell w g o v).trans (only_setCells vs (o + 1) (w.setCell ⟨g, o, none⟩ v))
theorem blk_setCells {g : Nat} {t : TypeId} : ∀ (vs : List Value) (o : Nat) (w : World) (cs : Array Value), Blk w g t cs → ∃ cs', Blk (w.setCells g o vs) g t cs' ∧ cs'.size = cs.size ∧ ∀ i, i < o → cs'[i]? = cs[i]?
 | [], o, w, cs, h => ⟨cs, h, rfl, fun _ _ => rfl⟩
 | v :: vs, o, w, cs, h => by
  obtain ⟨cs', h1, h2, h3⟩ := blk_setCells vs (o + 1) (w.setCell ⟨g, o, none⟩ v) _ (h.set_ o v)
  refine ⟨cs', h1, by simpa using h2, fun i hi => (h3 i (by omega)).trans ?_⟩
  rw [Array.getElem?_setIfInBounds_ne (by omega)]
theorem Only.cell {w w' : World} {g : Nat} (h : Only w w' g) {p : Addr} (hp : p.block < w.heap.size) (hne : p.block ≠ g) : w'.cell? p = w.cell? p := by
 unfold World.cell?
 rw [h.block p.block hp hne]
theorem Reads.only {w w' : World} {g size n : Nat} {A : Option Addr} {xs : List Value} (h : Reads w w.heap.size size A n xs) (ho : Only w w' g) (hA : 0 < n → ∀ a, A = some a → a.block ≠ g) : Reads w' w'.heap.size size A n xs :=
 ⟨h.1, fun hn => by
  obtain ⟨ad, e, hb, hc⟩ := h.2 hn
  exact ⟨ad, e, Nat.lt_of_lt_of_le hb ho.size, fun j u hu => (ho.cell (by rw [block_of_add]; exact hb) (by rw [block_of_add]; exact hA hn _ e)).trans (hc j u hu)⟩⟩
end Go.Proofs.YtjhcgnmibnjocaaGreat

namespace Go.Proofs.YtjhcgnmibnjocaaGreat
open Go.RowKit
end Go.Proofs.YtjhcgnmibnjocaaGreat

namespace Go.Proofs.YtjhcgnmibnjocaaGreat
open Go.RowKit
theorem own_only {w w' : World} {base size n g : Nat} {e : TypeId} {v : Value} {xs : List Value} (h : w.ownsRow base e size v n xs) (ho : Only w w' g) (hg : g < base) : w'.ownsRow base e size v n xs :=
 own_keep h fun k hk hlt => ho.block k hlt (by omega)
end Go.Proofs.YtjhcgnmibnjocaaGreat

namespace Go.Proofs.YtjhcgnmibnjocaaGreat
open Go.RowKit
set_option maxHeartbeats 1000000 in
theorem rhas_any (A : Option Addr) (n c : Nat) (l : List Int) (x : Int) (w : World) (hr : Reads w w.heap.size 1 A n (ints l)) (hn : n ≤ 9223372036854775807) :
  Calls Tryz.prog 51 #[.slice A n c, .int .i64 x] w fun e w' => e = .returned (.bool (hasB l x)) ∧ w' = w := by
 have hl := reads_len hr
 go_enter Tryz.func51, Tryz.ntmps51
 go_wp2
 go_loopw [5] (fun s wr => ∃ j : Nat, j ≤ n ∧ s = .int .i64 (j : Int) ∧ (∀ (i : Nat) (y : Int), i < j → l[i]? = some y → y ≠ x) ∧ wr = w) (fun s _ => ((n : Int) - intOf s).toNat)
 case atStart => exact ⟨0, by omega, rfl, fun i y hi => by omega, rfl⟩
 case round =>
  obtain ⟨j, hj, rfl, hno, rfl⟩ := hrel
  by_cases hlt : j < n
  ·obtain ⟨b, o, rfl, hbb, hc⟩ := hr.plain (by omega) (by omega)
   have hg : l[j]? = some l[j] := List.getElem?_eq_getElem (by omega)
   have m1 := hc _ _ (ints_get hg)
   have hlj : (j : Int) < n := by omega
   by_cases hx : l[j] = x
   ·have hH : hasB l x = true := hasB_mem.2 (hx ▸ List.getElem_mem _)
    rw [hx] at m1
    have hH := hide hH
    clear hc hr hno hg
    go_wp2
    go_ret
    exact ⟨by rw [hH.out] <;> rfl, rfl⟩
   ·have HN := hide (fun (i : Nat) (y : Int) (hi : i < j + 1) (h : l[i]? = some y) => show y ≠ x from by
     rcases Nat.lt_or_ge i j with h' | h'
     ·exact hno i y h' h
     ·obtain rfl : i = j := by omega
      rw [hg] at h; cases h; exact hx)
    clear hno hg hc
    generalize l[j] = y at *
    have hb' : (y == x) = false := by simpa using hx
    go_wp2
    go_roundw
    case rel => exact ⟨j + 1, by omega, by go_num, HN.out, by trivial⟩
    case measure => simp [intOf]; omega
  ·obtain rfl : j = n := by omega
   have hH : hasB l x = false := hasB_not.2 fun hm => by
    obtain ⟨i, hi, h⟩ := List.getElem_of_mem hm
    exact hno i _ (by omega) (List.getElem?_eq_getElem hi) h
   have hH := hide hH
   clear hno
   go_wp2
   go_ret
   exact ⟨by rw [hH.out] <;> rfl, rfl⟩
theorem samel_any (A A' : Option Addr) (n c c' : Nat) (l : List Int) (w : World) (hr : Reads w w.heap.size 1 A n (ints l)) (hr' : Reads w w.heap.size 1 A' n (ints l)) (hn : n ≤ 9223372036854775807) :
  Calls Tryz.prog 93 #[.slice A n c, .slice A' n c'] w fun e w' => e = .returned (.bool true) ∧ Below w.heap.size w w' := by
 have hl := reads_len hr
 go_enter Tryz.func93, Tryz.ntmps93
 go_wp2
 go_loopw [5] (fun s wr => ∃ j : Nat, j ≤ n ∧ s = .int .i64 (j : Int) ∧ Below w.heap.size w wr) (fun s _ => ((n : Int) - intOf s).toNat)
 case atStart => exact ⟨0, by omega, rfl, Below.refl _ _⟩
 case round =>
  obtain ⟨j, hj, rfl, hb⟩ := hrel
  obtain ⟨wo, rfl⟩ : ∃ wo : World, wo = wr := ⟨_, rfl⟩
  have hs := hb.size
  by_cases hlt : j < n
  ·obtain ⟨b, o, rfl, hbb, hc⟩ := hr.plain (by omega) (by omega)
   obtain ⟨b', o', rfl, hbb', hc'⟩ := hr'.plain (by omega) (by omega)
   have hg : l[j]? = some l[j] := List.getElem?_eq_getElem (by omega)
   have m1 : wo.cell? ⟨b, o + j, none⟩ = some (.int .i64 l[j]) := by rw [hb.cell (p := ⟨b, _, none⟩) hbb]; exact hc _ _ (ints_get hg)
   have m3 : wo.cell? ⟨b', o' + j, none⟩ = some (.int .i64 l[j]) := by rw [hb.cell (p := ⟨b', _, none⟩) hbb']; exact hc' _ _ (ints_get hg)
   have hbw : b < wo.heap.size := by omega
   have hbw' : b' < wo.heap.size := by omega
   have hlj : (j : Int) < n := by omega
   clear hc hc' hr hr'
   generalize l[j] = p at *
   go_wp2
   refine wp_region_ext_lit (by kernel_rfl) (by kernel_rfl) ?_
   (repeat (quiet_step (fail)))
   refine wpQuiet_nil ?_; intro _ hw'; obtain ⟨Y, hw''⟩ := hw'; subst hw''
   go_wp2
   go_roundw
   case rel => exact ⟨j + 1, by omega, by go_num, by (repeat' (first | with_reducible (first | exact Below.refl _ _ | refine Below.ext ?_ ?_ _ | refine Below.alloc ?_ ?_ _ | refine Below.setCell ?_ ?_ _ | refine Below.drew ?_ | assumption) | (simp [World.size_ext]; done) | (simp [World.size_ext]; omega)))⟩
   case measure => simp [intOf]; omega
  ·obtain rfl : j = n := by omega
   go_wp2
   go_ret
   exact ⟨rfl, hb⟩
theorem same_any (e p : Int) (A A' : Option Addr) (n c c' : Nat) (l : List Int) (w : World) (hr : Reads w w.heap.size 1 A n (ints l)) (hr' : Reads w w.heap.size 1 A' n (ints l)) (hn : n ≤ 9223372036854775807) :
  Calls Tryz.prog 58 #[.agg #[.int .i64 e, .int .i64 p, .slice A n c], .agg #[.int .i64 e, .int .i64 p, .slice A' n c']] w fun r w' => r = .returned (.bool true) ∧ Below w.heap.size w w' := by
 have hS : ∀ o1 o2, _ := fun o1 o2 => samel_any A A' n c c' l ((w.alloc o1).alloc o2) (((hr.alloc (Nat.le_refl _) o1).alloc (by simp) o2).more (by simp; omega)) (((hr'.alloc (Nat.le_refl _) o1).alloc (by simp) o2).more (by simp; omega)) hn
 clear hr hr'
 go_enter Tryz.func58, Tryz.ntmps58
 go_wp2_with (go_at_call 93; (with_reducible refine (hS _ _).mono ?_); rintro e w1 ⟨rfl, hb1⟩)
 go_ret
 exact ⟨rfl, ((Below.alloc (Below.alloc (Below.refl _ _) (Nat.le_refl _) _) (by simp) _)).trans (hb1.mono (by simp; omega))⟩
theorem vfrom_any (e p : Int) (A : Option Addr) (n c : Nat) (w : World) :
  Calls Tryz.prog 59 #[.agg #[.int .i64 e, .int .i64 p, .slice A n c]] w fun r w' => r = .returned (.agg #[.int .i64 e, .int .i64 p, .slice A n c]) ∧ Below w.heap.size w w' := by
 go_enter Tryz.func59, Tryz.ntmps59
 go_wp2
 refine bodyPost_cell Tryz.results59 rfl (Blk.made w _ _ _) Tryz.underlying30 rfl (by kernel_rfl) rfl ⟨rfl, by (repeat' (first | with_reducible (first | exact Below.refl _ _ | refine Below.ext ?_ ?_ _ | refine Below.alloc ?_ ?_ _ | refine Below.setCell ?_ ?_ _ | refine Below.drew ?_ | assumption) | (simp [World.size_ext]; done) | (simp [World.size_ext]; omega)))⟩
end Go.Proofs.YtjhcgnmibnjocaaGreat

namespace Go.Proofs.YtjhcgnmibnjocaaGreat
open Go.RowKit
end Go.Proofs.YtjhcgnmibnjocaaGreat

namespace Go.Proofs.YtjhcgnmibnjocaaGreat
open Go.RowKit
end Go.Proofs.YtjhcgnmibnjocaaGreat

namespace Go.Proofs.YtjhcgnmibnjocaaGreat
open Go.RowKit
theorem own_addr {w : World} {base size n c : Nat} {e : TypeId} {A : Option Addr} {xs : List Value} (h : w.ownsRow base e size (.slice A n c) n xs) : ∀ a, A = some a → base ≤ a.block ∧ a.block < w.heap.size := fun a ha => by
 rcases h.2 with ⟨h', _⟩ | ⟨g, cap, cur, hv, hb, hh, r⟩
 ·cases h'; cases ha
 ·cases hv; cases ha; exact ⟨hb, Blk.lt hh⟩
end Go.Proofs.YtjhcgnmibnjocaaGreat

namespace Go.Proofs.YtjhcgnmibnjocaaGreat
open Go.RowKit
theorem bodyPost_tc {P : Program} {fn : Func} {R : Ending → World → Prop} {a : Act} {w : World} {p u g : Nat} {t ty : TypeId} {cs : Array Value} {d : TypeDesc} (h : fn.results = #[.tmp u, .cell p ty])
  (hp : a.tmps.getD p undef = .pointer (some ⟨g, 0, none⟩)) (hB : Blk w g t cs) (hu : P.underlying ty = some d) (hd : (match d with | .struct _ | .array _ _ => true | _ => false) = true) (hi : (P.info? ty).map (·.size) = some cs.size)
  (hdf : a.defers = []) (hR : R (.returned (.tuple #[a.tmps.getD u undef, .agg cs])) w) : bodyPost P fn R .ret a w :=
 bodyPost_ret (by
  have hp' := hp
  rw [Array.getD_eq_getD_getElem?] at hp'
  simp only [results, h]
  simp [hp', asAddr, run_loadVar_row w g t ty cs (0, 0) d hB hu hd hi, Array.getD_eq_getD_getElem?]) hdf hR
theorem rightV_up (e p : Int) (l : List Int) : rightV e p l = (upB l && (decide (1 ≤ e) && decide (e ≤ 4611686018427387904) && hasB l p)) := by
 unfold rightV risingB
 cases h : hasB l p with
 | true =>
  have : 0 < l.length := List.length_pos_of_mem (hasB_mem.1 h)
  simp [this, Bool.and_comm]
 | false => simp
theorem rightV_not {e p : Int} {l : List Int} (h : upB l = false) : rightV e p l = false := by rw [rightV_up, h]; rfl
set_option maxRecDepth 100000 in
set_option maxHeartbeats 4000000 in
theorem rvright_any (e p : Int) (A : Option Addr) (n c : Nat) (l : List Int) (w : World) (hr : Reads w w.heap.size 1 A n (ints l)) (hn : n ≤ 9223372036854775807) :
  Calls Tryz.prog 29 #[.agg #[.int .i64 e, .int .i64 p, .slice A n c]] w fun r w' => r = .returned (.bool (rightV e p l)) ∧ Below w.heap.size w w' := by
 have hl := reads_len hr
 have hB0 := Blk.new w 30 #[.int .i64 e, .int .i64 p, .slice A n c]
 have hb0 : Below w.heap.size w (w.alloc (.cells #[.int .i64 e, .int .i64 p, .slice A n c] 30)) := Below.alloc (Below.refl _ _) (Nat.le_refl _) _
 go_enter Tryz.func29, Tryz.ntmps29
 go_wp2
 go_loopw [3] (fun s wr => ∃ j : Nat, j ≤ n ∧ s = .int .i64 (j : Int) ∧ (∀ i, i < j → okN l i = true) ∧ Blk wr w.heap.size 30 #[.int .i64 e, .int .i64 p, .slice A n c] ∧ Below w.heap.size w wr) (fun s _ => ((n : Int) - intOf s).toNat)
 case atStart => exact ⟨0, by omega, rfl, fun i hi => by omega, hB0, hb0⟩
 case round =>
  clear hB0 hb0
  obtain ⟨j, hj, rfl, hok, hB, hb⟩ := hrel
  obtain ⟨wo, rfl⟩ : ∃ wo : World, wo = wr := ⟨_, rfl⟩
  have hs := hb.size
  have cB := hB.cell
  have lB := hB.lt
  by_cases hlt : j < n
  ·obtain ⟨b, o, rfl, hbb, hc⟩ := hr.plain (by omega) (by omega)
   have hg : l[j]? = some l[j] := List.getElem?_eq_getElem (by omega)
   have m1 : wo.cell? ⟨b, o + j, none⟩ = some (.int .i64 l[j]) := by rw [hb.cell (p := ⟨b, _, none⟩) hbb]; exact hc _ _ (ints_get hg)
   have hbw : b < wo.heap.size := by omega
   have hlj : (j : Int) < n := by omega
   generalize l[j] = x at *
   by_cases h1 : 0 ≤ x
   ·have c1 : decide (x < 0) = false := by simp; omega
    by_cases h2 : x < 8
    ·have c2 : decide (8 ≤ x) = false := by simp; omega
     rcases Nat.eq_zero_or_pos j with h0 | h0
     ·subst h0
      simp only [Nat.zero_mul, Nat.add_zero] at m1
      rw [show ((0 : Nat) : Int) = 0 from rfl]
      have HO : Hid (∀ i, i < 1 → okN l i = true) := show ∀ i, i < 1 → okN l i = true from fun i hi => by
       obtain rfl : i = 0 := by omega
       rw [okN_zero hg]
       simp [h1, h2]
      clear hc hok hr hg h1 h2
      go_wp2
      refine wp_region_ext_lit (by kernel_rfl) (by kernel_rfl) ?_
      (repeat (first | ((with_reducible refine wpQuiet_step (fun K hK => ?_)); go_simp; first | ((with_reducible refine hK _ ?_); clear hK K) | (apply Exists.intro; (with_reducible refine ⟨fun _ => ?_, hK _ ?_⟩); skip; clear hK K)) | ((with_reducible refine quiet_skipN ?_ (fun K hK => ?_)); (rfl); go_simp; (with_reducible refine hK _ ?_); clear hK K)))
      (with_reducible refine wpQuiet_nil ?_); intro _ hw'; obtain ⟨Y, hw''⟩ := hw'; subst hw''
      go_wp2
      go_roundw
      case rel => exact ⟨1, by omega, rfl, HO.out, by (repeat' (first | with_reducible (first | exact hB | refine Blk.ext ?_ _ | refine Blk.alloc ?_ _ | apply Blk.set_to | refine Blk.far ?_ ?_ _) | rfl | (simp [World.size_ext]; done) | (simp [World.size_ext]; omega))), by (repeat' (first | with_reducible (first | exact Below.refl _ _ | refine Below.ext ?_ ?_ _ | refine Below.alloc ?_ ?_ _ | refine Below.setCell ?_ ?_ _ | refine Below.drew ?_ | assumption) | (simp [World.size_ext]; done) | (simp [World.size_ext]; omega)))⟩
      case measure => simp [intOf]; omega
     ·obtain ⟨m, rfl⟩ : ∃ m, j = m + 1 := ⟨j - 1, by omega⟩
      have hg' : l[m]? = some l[m] := List.getElem?_eq_getElem (by omega)
      have m3 : wo.cell? ⟨b, o + m, none⟩ = some (.int .i64 l[m]) := by rw [hb.cell (p := ⟨b, _, none⟩) hbb]; exact hc _ _ (ints_get hg')
      have HO := hide (okN_succ hg hg')
      generalize l[m] = y at *
      have c5 : decide ((0 : Int) < (m : Int) + 1) = true := by simp only [decide_eq_true_eq]; omega
      have c6 : (0 : Int) < (m : Int) + 1 := by omega
      have k1 : IntKind.i64.wrap (m : Int) = (m : Int) := IntWalk.i64_in _ (by omega)
      have k3 : (m : Int) < n := by omega
      have k5 : m < n := by omega
      have k6 : (m : Int) + 1 < n := by omega
      have k7 : m + 1 < n := by omega
      have k8 : (0 : Int) ≤ (m : Int) + 1 := by omega
      have k9 : ((m : Int) + 1).toNat = m + 1 := by omega
      by_cases h3 : y < x
      ·have c3 : decide (x ≤ y) = false := by simp; omega
       have HK : Hid (∀ i, i < m + 1 + 1 → okN l i = true) := show ∀ i, i < m + 1 + 1 → okN l i = true from fun i hi => by
        rcases Nat.lt_or_ge i (m + 1) with h' | h'
        ·exact hok i h'
        ·obtain rfl : i = m + 1 := by omega
         rw [HO.out]
         simp [h1, h2, h3]
       clear hc hok hr hg hg' h1 h2 HO
       go_wp2
       refine wp_region_ext_lit (by kernel_rfl) (by kernel_rfl) ?_
       (repeat (first | ((with_reducible refine wpQuiet_step (fun K hK => ?_)); go_simp; first | ((with_reducible refine hK _ ?_); clear hK K) | (apply Exists.intro; (with_reducible refine ⟨fun _ => ?_, hK _ ?_⟩); skip; clear hK K)) | ((with_reducible refine quiet_skipN ?_ (fun K hK => ?_)); (rfl); go_simp; (with_reducible refine hK _ ?_); clear hK K)))
       (with_reducible refine wpQuiet_nil ?_); intro _ hw'; obtain ⟨Y, hw''⟩ := hw'; subst hw''
       go_wp2
       go_roundw
       case rel => exact ⟨m + 1 + 1, by omega, by go_num, HK.out, by (repeat' (first | with_reducible (first | exact hB | refine Blk.ext ?_ _ | refine Blk.alloc ?_ _ | apply Blk.set_to | refine Blk.far ?_ ?_ _) | rfl | (simp [World.size_ext]; done) | (simp [World.size_ext]; omega))), by (repeat' (first | with_reducible (first | exact Below.refl _ _ | refine Below.ext ?_ ?_ _ | refine Below.alloc ?_ ?_ _ | refine Below.setCell ?_ ?_ _ | refine Below.drew ?_ | assumption) | (simp [World.size_ext]; done) | (simp [World.size_ext]; omega)))⟩
       case measure => simp [intOf]; omega
      ·have c3 : decide (x ≤ y) = true := by simp; omega
       have HF : Hid (rightV e p l = false) := rightV_not (upB_not (i := m + 1) (by omega) (by rw [HO.out]; simp [h3]))
       clear hc hok hr hg hg' h1 h2 HO
       go_wp2
       refine wp_region_ext_lit (by kernel_rfl) (by kernel_rfl) ?_
       (repeat (first | ((with_reducible refine wpQuiet_step (fun K hK => ?_)); go_simp; first | ((with_reducible refine hK _ ?_); clear hK K) | (apply Exists.intro; (with_reducible refine ⟨fun _ => ?_, hK _ ?_⟩); skip; clear hK K)) | ((with_reducible refine quiet_skipN ?_ (fun K hK => ?_)); (rfl); go_simp; (with_reducible refine hK _ ?_); clear hK K)))
       (with_reducible refine wpQuiet_nil ?_); intro _ hw'; obtain ⟨Y, hw''⟩ := hw'; subst hw''
       go_wp2
       go_ret
       exact ⟨by rw [HF.out] <;> rfl, by (repeat' (first | with_reducible (first | exact Below.refl _ _ | refine Below.ext ?_ ?_ _ | refine Below.alloc ?_ ?_ _ | refine Below.setCell ?_ ?_ _ | refine Below.drew ?_ | assumption) | (simp [World.size_ext]; done) | (simp [World.size_ext]; omega)))⟩
    ·have c2 : decide (8 ≤ x) = true := by simp; omega
     have HF : Hid (rightV e p l = false) := rightV_not (upB_not (i := j) (by omega) (okN_lo hg (by omega)))
     clear hc hok hr hg h1 h2
     go_wp2
     refine wp_region_ext_lit (by kernel_rfl) (by kernel_rfl) ?_
     (repeat (first | ((with_reducible refine wpQuiet_step (fun K hK => ?_)); go_simp; first | ((with_reducible refine hK _ ?_); clear hK K) | (apply Exists.intro; (with_reducible refine ⟨fun _ => ?_, hK _ ?_⟩); skip; clear hK K)) | ((with_reducible refine quiet_skipN ?_ (fun K hK => ?_)); (rfl); go_simp; (with_reducible refine hK _ ?_); clear hK K)))
     (with_reducible refine wpQuiet_nil ?_); intro _ hw'; obtain ⟨Y, hw''⟩ := hw'; subst hw''
     go_wp2
     go_ret
     exact ⟨by rw [HF.out] <;> rfl, by (repeat' (first | with_reducible (first | exact Below.refl _ _ | refine Below.ext ?_ ?_ _ | refine Below.alloc ?_ ?_ _ | refine Below.setCell ?_ ?_ _ | refine Below.drew ?_ | assumption) | (simp [World.size_ext]; done) | (simp [World.size_ext]; omega)))⟩
   ·have c1 : decide (x < 0) = true := by simp; omega
    have HF : Hid (rightV e p l = false) := rightV_not (upB_not (i := j) (by omega) (okN_lo hg (by omega)))
    clear hc hok hr hg h1
    go_wp2
    refine wp_region_ext_lit (by kernel_rfl) (by kernel_rfl) ?_
    (repeat (first | ((with_reducible refine wpQuiet_step (fun K hK => ?_)); go_simp; first | ((with_reducible refine hK _ ?_); clear hK K) | (apply Exists.intro; (with_reducible refine ⟨fun _ => ?_, hK _ ?_⟩); skip; clear hK K)) | ((with_reducible refine quiet_skipN ?_ (fun K hK => ?_)); (rfl); go_simp; (with_reducible refine hK _ ?_); clear hK K)))
    (with_reducible refine wpQuiet_nil ?_); intro _ hw'; obtain ⟨Y, hw''⟩ := hw'; subst hw''
    go_wp2
    go_ret
    exact ⟨by rw [HF.out] <;> rfl, by (repeat' (first | with_reducible (first | exact Below.refl _ _ | refine Below.ext ?_ ?_ _ | refine Below.alloc ?_ ?_ _ | refine Below.setCell ?_ ?_ _ | refine Below.drew ?_ | assumption) | (simp [World.size_ext]; done) | (simp [World.size_ext]; omega)))⟩
  ·obtain rfl : j = n := by omega
   have HF : Hid (rightV e p l = (decide (1 ≤ e) && decide (e ≤ 4611686018427387904) && hasB l p)) := show rightV e p l = _ from by
    rw [rightV_up, upB_of (fun i hi => hok i (by omega)), Bool.true_and]
   have hH := rhas_any A j c l p wo ((hr.below hb).more hs) hn
   clear hok hr
   by_cases q1 : 1 ≤ e
   ·by_cases q2 : e ≤ 4611686018427387904
    ·have d1 : decide (1 ≤ e) = true := decide_eq_true q1
     have d2 : decide (e ≤ 4611686018427387904) = true := decide_eq_true q2
     go_wp2_with (go_at_call 51; (with_reducible refine hH.mono ?_); rintro e w1 ⟨rfl, rfl⟩)
     go_ret
     exact ⟨by rw [HF.out, d1, d2] <;> rfl, hb⟩
    ·have d2 : decide (e ≤ 4611686018427387904) = false := decide_eq_false q2
     have d1 : decide (1 ≤ e) = true := decide_eq_true q1
     go_wp2
     go_ret
     exact ⟨by rw [HF.out, d1, d2] <;> rfl, hb⟩
   ·have d1 : decide (1 ≤ e) = false := decide_eq_false q1
    go_wp2
    go_ret
    exact ⟨by rw [HF.out, d1] <;> rfl, hb⟩
end Go.Proofs.YtjhcgnmibnjocaaGreat

namespace Go.Proofs.YtjhcgnmibnjocaaGreat
open Go.RowKit
end Go.Proofs.YtjhcgnmibnjocaaGreat

namespace Go.Proofs.YtjhcgnmibnjocaaGreat
open Go.RowKit
theorem run_copy (w : World) (A : Option Addr) (n c : Nat) (l : List Int) (hr : Reads w w.heap.size 1 A n (ints l)) (hn : n * 8 ≤ 140737488355328) :
  ∃ v w', (Builtin.append_ #[28, 28] 28 #[.slice (some ⟨w.heap.size, 0, none⟩) 0 0, .slice A n c]).run Tryz.prog (w.alloc (.cells #[] 3)) = .ok v w' ∧ w'.ownsRow w.heap.size 3 1 v n (ints l) ∧ Below w.heap.size w w' := by
 obtain ⟨i0, hi, hz0, hz1, hz2⟩ := info_parts infoI64
 have hl := reads_len hr
 have hb := Below.alloc (Below.refl w.heap.size w) (Nat.le_refl _) (.cells #[] 3)
 cases A with
 | none =>
  have h0 : n = 0 := by
   rcases Nat.eq_zero_or_pos n with h | h
   ·exact h
   ·obtain ⟨_, e, _⟩ := hr.2 h; cases e
  subst h0
  have hl0 : l = [] := List.eq_nil_of_length_eq_zero hl
  subst hl0
  have h := run_append_room_src (P := Tryz.prog) (w.alloc (.cells #[] 3)) 28 28 28 3 i0 Tryz.underlying28 hi w.heap.size 0 0 0 (.slice none 0 c) 0 [] (Src.ofNil (w.alloc (.cells #[] 3)) Tryz.underlying28 c) (Nat.le_refl _) (fun j hj => by cases hj) (fun j hj => by cases hj)
  exact ⟨_, _, h, World.ownsRow_made w #[] 0 (Nat.le_refl _) (Nat.zero_le _) rfl, hb⟩
 | some ad =>
  obtain ⟨v, w', h1, h2, h3, _⟩ := run_append_own (P := Tryz.prog) (w.alloc (.cells #[] 3)) w.heap.size 28 28 3 i0 (.int .i64 0) 1 8 Tryz.underlying28 hi hz0 hz1 hz2 rfl (by decide) (.slice (some ⟨w.heap.size, 0, none⟩) 0 0) 0 [] (World.ownsRow_made w #[] 0 (Nat.le_refl _) (Nat.zero_le _) rfl) ad n c (ints l) (by simp [ints_length, hl])
   (fun j u hu => by
    have hn0 : 0 < n := by
     have := (List.getElem?_eq_some_iff.1 hu).1
     rw [ints_length] at this
     omega
    obtain ⟨ad', e, hb', h⟩ := hr.2 hn0
    cases e
    rw [World.cell?_alloc_lt w _ _ (by rw [block_of_add]; exact hb')]
    exact h j u hu)
   (fun u hu => by simp only [ints, List.mem_map] at hu; obtain ⟨x, _, rfl⟩ := hu; rfl) (by unfold maxLen; omega) (by omega) (by simp)
  exact ⟨v, w', h1, by simpa using h2, hb.grown h3 (by simp) (by intro k hk; simp [Value.ownBlock] at hk; omega)⟩
theorem wpList_append_run {P : Program} {ops : Array Oper} {rest : List Oper} {o : Oper} {a : Act} {w w' : World} {v sv xv : Value} {Q : Exit → Act → World → Prop} (hgd : o.guard = none) (s x : Operand) (t : TypeId)
  (ho : o.op = .call { callee := .builtin .append, args := #[s, x], argTypes := #[t, t] }) (hs : a.eval s = sv) (hx : a.eval x = xv) (hr : (Builtin.append_ #[t, t] o.type #[sv, xv]).run P w = .ok v w')
  (h : wpList P ops Q rest (a.put o.dst v) w') : wpList P ops Q (o :: rest) a w :=
 wpList_plain hgd fun _ hK => by
  unfold Oper.wp execOp
  simp only [ho, resolve, invoke, builtin, Sem.run_bind, Sem.run_pure, Result.andThen_ok, List.map_toArray, List.map_cons, List.map_nil, hs, hx, hr]
  exact hK _ _ h
section
variable {A : Option Addr} {w w' : World}
end
end Go.Proofs.YtjhcgnmibnjocaaGreat

namespace Go.Proofs.YtjhcgnmibnjocaaGreat
open Go.RowKit
def glP : Nat → Rest → List Int × Rest
 | 0, r => ([], r)
 | j + 1, r => ((glP j r).1 ++ [zag (numP (glP j r).2).1], (numP (glP j r).2).2)
theorem glP_length : ∀ (j : Nat) (r : Rest), (glP j r).1.length = j
 | 0, _ => rfl
 | j + 1, r => by simp [glP, glP_length j r]
structure Gv where
 e : Int
 p : Int
 l : List Int
 r : Rest
def gvP (r : Rest) : Gv := ⟨zag (numP r).1, zag (numP (numP r).2).1, (glP (countP 8 (numP (numP r).2).2).1 (countP 8 (numP (numP r).2).2).2).1, (glP (countP 8 (numP (numP r).2).2).1 (countP 8 (numP (numP r).2).2).2).2⟩
def getV (r : Rest) : Gv := if (gvP r).r.e ≠ 0 then ⟨0, 0, [], (gvP r).r⟩ else gvP r
theorem count8_le (r : Rest) : (countP 8 r).1 ≤ 8 := by
 unfold countP
 split
 ·simp
 ·rename_i h
  have : ¬(8 : Int).toNat < (numP r).1 := fun h' => h (.inl h')
  simpa using this
theorem ri_any (g b : Nat) (r : Rest) (w : World) (h : Rdr w g b r.xs r.e) :
  Calls Tryz.prog 86 #[.pointer (some ⟨g, 0, none⟩)] w fun e' w' => e' = .returned (.int .i64 (zag (numP r).1)) ∧ Rdr w' g b (numP r).2.xs (numP r).2.e ∧ Only w w' g := rdint_any g b r.xs r.e w h
theorem rc_any (g b : Nat) (r : Rest) (w : World) (h : Rdr w g b r.xs r.e) :
  Calls Tryz.prog 100 #[.pointer (some ⟨g, 0, none⟩), .int .i64 8] w fun e' w' => e' = .returned (.int .i64 ((countP 8 r).1 : Nat)) ∧ Rdr w' g b (countP 8 r).2.xs (countP 8 r).2.e ∧ Only w w' g := rdcount_any g b r.xs r.e 8 w h (by unfold I64; omega)
theorem gvP_eq {r r1 r2 r3 : Rest} {n1 n2 n3 : Nat} (h1 : numP r = (n1, r1)) (h2 : numP r1 = (n2, r2)) (h3 : countP 8 r2 = (n3, r3)) : gvP r = ⟨zag n1, zag n2, (glP n3 r3).1, (glP n3 r3).2⟩ := by
 unfold gvP
 simp only [h1, h2, h3]
theorem Rdr.low {w w' : World} {B g b : Nat} {xs : List Nat} {e : Int} (h : Rdr w g b xs e) (hb : Below B w w') (h1 : g < B) (h2 : b < B) : Rdr w' g b xs e := by
 have hl := h.lt
 obtain ⟨⟨A, c, k1, k2, k3, k4⟩, hn⟩ := h
 exact ⟨⟨A, c, k1.below hb h1, k2.keep (Nat.lt_of_lt_of_le hl.2 hb.size) (hb.block b h2), k3, k4⟩, hn⟩
theorem Only.low {w w' w'' : World} {g B : Nat} (h : Only w w' g) (hb : Below B w' w'') (hB : w.heap.size ≤ B) : Only w w'' g :=
 ⟨hb.os.trans h.os, hb.tape.trans h.tape, hb.output.trans h.output, Nat.le_trans h.size hb.size, fun k hk hg => (hb.block k (by omega)).trans (h.block k hk hg)⟩
theorem getV_bd (r : Rest) : (getV r).l.length ≤ 8 := by
 unfold getV
 split
 ·simp
 ·unfold gvP
  rw [glP_length]
  exact count8_le _
set_option maxRecDepth 100000 in
set_option maxHeartbeats 4000000 in
theorem pget_any (g b : Nat) (r : Rest) (w : World) (h : Rdr w g b r.xs r.e) :
  Calls Tryz.prog 84 #[.pointer (some ⟨g, 0, none⟩)] w fun o w' => (∃ v, o = .returned (.agg #[.int .i64 (getV r).e, .int .i64 (getV r).p, v]) ∧ w'.ownsRow w.heap.size 3 1 v (getV r).l.length (ints (getV r).l)) ∧ Rdr w' g b (getV r).r.xs (getV r).r.e ∧ Only w w' g := by
 have hlt := h.lt
 obtain ⟨i0, hi, hz0, hz1, hz2⟩ := info_parts infoI64
 have h0 : Rdr (w.alloc (.cells #[.int .i64 0, .int .i64 0, .slice none 0 0] 44)) g b r.xs r.e := h.below (Below.alloc (Below.refl _ _) (Nat.le_refl _) _)
 have hZ := Blk.new w 44 #[.int .i64 0, .int .i64 0, .slice none 0 0]
 have hi1 := fun w' h' => ri_any g b r w' h'
 have h8 := fun r2 => count8_le r2
 rcases hq1 : numP r with ⟨n1, r1⟩
 rw [hq1] at hi1
 have hi2 := fun w' h' => ri_any g b r1 w' h'
 rcases hq2 : numP r1 with ⟨n2, r2⟩
 rw [hq2] at hi2
 have hi3 := fun w' h' => rc_any g b r2 w' h'
 replace h8 := h8 r2
 rcases hq3 : countP 8 r2 with ⟨n3, r3⟩
 rw [hq3] at hi3 h8
 have hgv := gvP_eq hq1 hq2 hq3
 unfold getV
 rw [hgv]
 simp only at hi1 hi2 hi3 h8 ⊢
 clear hq1 hq2 hq3 hgv
 generalize zag n1 = E at *
 generalize zag n2 = P at *
 go_enter Tryz.func84, Tryz.ntmps84
 go_wp2_with (first | (go_at_call 86; (with_reducible refine (hi1 _ h0).mono ?_); rintro e w1 ⟨rfl, hr1, ho1⟩) | (go_at_call 86; (with_reducible refine (hi2 _ hr1).mono ?_); rintro e w2 ⟨rfl, hr2, ho2⟩; have hr2' := Rdr.below hr2 (Below.alloc (Below.refl _ _) (Nat.le_refl _) (.cells #[.int .i64 E, .int .i64 P, .slice none 0 0] 44))) | (go_at_call 100; (with_reducible refine (hi3 _ hr2').mono ?_); rintro e w3 ⟨rfl, hr3, ho3⟩))
 have hs1 := ho1.size
 have hs2 := ho2.size
 have hs3 := ho3.size
 simp only [World.size_alloc] at hs1 hs3
 have hV := Blk.only (Blk.new w2 44 #[.int .i64 E, .int .i64 P, .slice none 0 0]) ho3 (by omega)
 have hZ3 := Blk.only ((Blk.only (Blk.only hZ ho1 (by omega)) ho2 (by omega)).alloc (.cells #[.int .i64 E, .int .i64 P, .slice none 0 0] 44)) ho3 (by omega)
 have hO3 : Only w w3 g := ((((Only.refl w g).alloc _).trans ho1).trans ho2).alloc (.cells #[.int .i64 E, .int .i64 P, .slice none 0 0] 44) |>.trans ho3
 clear hi1 hi2 hi3 h0 hZ hr1 ho1 hr2 hr2' ho2 ho3
 have hp2 : w.heap.size + 1 ≤ w2.heap.size := by omega
 generalize w2.heap.size = pv at *
 go_loopw [11] (fun vi wr => ∃ (j : Nat) (v : Value), j ≤ n3 ∧ vi = .int .i64 (j : Int) ∧ Blk wr pv 44 #[.int .i64 E, .int .i64 P, v] ∧ wr.ownsRow (pv + 1) 3 1 v j (ints (glP j r3).1) ∧ Rdr wr g b (glP j r3).2.xs (glP j r3).2.e ∧ Blk wr w.heap.size 44 #[.int .i64 0, .int .i64 0, .slice none 0 0] ∧ Only w wr g) (fun vi _ => ((n3 : Int) - intOf vi).toNat)
 case atStart => exact ⟨0, _, by omega, rfl, hV, World.ownsRow_nil _ _ _ _, hr3, hZ3, hO3⟩
 case round =>
  clear hV hr3 hZ3 hO3
  obtain ⟨j, v, hj, rfl, hV, hown, hr, hZ, hO⟩ := hrel
  obtain ⟨wo, rfl⟩ : ∃ wo : World, wo = wr := ⟨_, rfl⟩
  have cV := hV.cell
  have fV := hV.frozen
  have lV := hV.lt
  have hrl := hr.lt
  by_cases hlt' : j < n3
  ·have hjl : (j : Int) < n3 := by omega
   have hgl : glP (j + 1) r3 = ((glP j r3).1 ++ [zag (numP (glP j r3).2).1], (numP (glP j r3).2).2) := rfl
   have hI := fun w' h' => ri_any g b (glP j r3).2 w' h'
   have hgl1 := glP_length j r3
   generalize (glP j r3).1 = L at *
   generalize (glP j r3).2 = R at *
   rcases hq : numP R with ⟨m, R'⟩
   rw [hq] at hI hgl
   simp only at hI hgl
   generalize zag m = y at *
   have hG := hide hgl
   clear hgl hq
   go_wp2
   refine wp_region_only g [1] [0, 2, 6] [(true, false, 0), (true, true, 1), (true, false, 2), (false, true, 3), (false, true, 4), (false, false, 5), (true, false, 6), (false, false, 7)] (by kernel_rfl) (by kernel_rfl) (fun Y => ?_); simp only [List.map_cons, List.map_nil, List.getD_cons_zero, List.getD_cons_succ]
   have hVY := Blk.ext hV Y
   have hrY := Rdr.below hr (World.below_ext wo Y)
   have hgp : pv ≠ g := by omega
   (repeat (first | (refine wfp fun K hK => ?_; go_simp; refine hK _ _ ?_; clear hK K) | (refine wff fun K hK => ?_; go_simp; refine hK _ _ ?_; clear hK K)))
   (refine first_read rfl (v := v) (fun w' hw' => ?_) (fun K hK => ?_); rotate_left 1; go_simp; refine hK _ _ ?_; clear hK K; rotate_left 1; (have hB' := Blk.only hVY hw' hgp; have c' := Blk.cell hB'; go_simp))
   (repeat (first | (refine wfp fun K hK => ?_; go_simp; refine hK _ _ ?_; clear hK K) | (refine wff fun K hK => ?_; go_simp; refine hK _ _ ?_; clear hK K)))
   refine First.wpF_must (fun K hK => ?_)
   go_wp2_with (go_at_call 86; (with_reducible refine (hI _ hrY).mono ?_); rintro e w5 ⟨rfl, hr5, ho5⟩)
   (refine hK _ _ (fun hnd => by first | exact Bool.noConfusion hnd | exact ho5) ?_; clear hK K)
   have hs5 := ho5.size
   simp only [World.size_ext] at hs5
   have hown5 := own_only (own_ext hown Y) ho5 (by omega)
   have hV5 := Blk.only hVY ho5 hgp
   have hZ5 := Blk.only (Blk.ext hZ Y) ho5 (by omega)
   have hO5 : Only w w5 g := (hO.ext Y).trans ho5
   clear hI hr hrY hVY hown hV hZ cV fV hO ho5
   (repeat (first | (refine wfp fun K hK => ?_; go_simp; refine hK _ _ ?_; clear hK K) | (refine wff fun K hK => ?_; go_simp; refine hK _ _ ?_; clear hK K)))
   refine First.wpF_must (fun K hK => ?_)
   go_wp2
   (refine hK _ _ (fun hnd => by first | exact Bool.noConfusion hnd | exact Only.alloc (Only.refl _ _) _) ?_; clear hK K)
   (repeat (first | (refine wfp fun K hK => ?_; go_simp; refine hK _ _ ?_; clear hK K) | (refine wff fun K hK => ?_; go_simp; refine hK _ _ ?_; clear hK K)))
   refine First.wpF_must (fun K hK => ?_)
   go_wp2_with (at_builtin; refine wpList_append_own _ rfl _ _ 28 rfl (pv + 1) 3 i0 (.int .i64 0) 1 8 Tryz.underlying28 hi hz0 hz1 hz2 rfl (by decide) _ _ _ rfl (own_alloc hown5 _) _ 1 1 [.int .i64 y] rfl rfl ?c1 ?c2 ?c3 ?c4 ?c5 ?_)
   case c1 => exact cells_new _ #[.int .i64 y] _
   case c2 => intro u hu; simp at hu; subst hu; rfl
   case c3 => unfold maxLen; omega
   case c4 => omega
   case c5 => simp; omega
   intro v' w6 hown6 hgrow hnil
   have hb6 : Below (pv + 1) (w5.alloc (.cells #[.int .i64 y] 3)) w6 := own_below (Below.refl _ _) (own_alloc hown5 _) hgrow (Nat.le_refl _) (by simp; omega)
   obtain ⟨A6, k6, rfl, hk6⟩ := own_sl hown6
   have hV6 := (hV5.alloc (.cells #[.int .i64 y] 3)).below hb6 (by omega)
   have cV6 := hV6.cell
   have fV6 := hV6.frozen
   have lV6 := hV6.lt
   go_wp2
   (refine hK _ _ (fun hnd => by first | exact Bool.noConfusion hnd | exact Only.refl _ _ | ((repeat (refine Only.set_ ?_ (.inl rfl) _)); exact Only.refl _ _)) ?_; clear hK K)
   (repeat (first | (refine wfp fun K hK => ?_; go_simp; refine hK _ _ ?_; clear hK K) | (refine wff fun K hK => ?_; go_simp; refine hK _ _ ?_; clear hK K)))
   refine First.wpF_must (fun K hK => ?_)
   go_wp2
   (refine hK _ _ (fun hnd => by first | exact Bool.noConfusion hnd | exact Only.refl _ _ | ((repeat (refine Only.set_ ?_ (.inl rfl) _)); exact Only.refl _ _)) ?_; clear hK K)
   refine First.wpF_nil ?_
   go_wp2
   go_roundw
   case rel =>
    refine ⟨j + 1, .slice A6 (j + 1) k6, by omega, by go_num, Blk.set_to hV6 rfl, ?_, ?_, ((hZ5.alloc _).below hb6 (by omega)).far (by show w.heap.size ≠ pv; omega) _, (Only.low (hO5.alloc _) hb6 (by omega)).set_ (.inr (by show w.heap.size ≤ pv; omega)) _⟩
    ·rw [hG.out]
     simp only [ints_append]
     exact own_set hown6 (by show pv < pv + 1; omega) _
    ·rw [hG.out]
     exact Rdr.only (Rdr.low (Rdr.below hr5 (Below.alloc (Below.refl _ _) (Nat.le_refl _) (.cells #[.int .i64 y] 3))) hb6 (by omega) (by omega)) (Only.setCell w6 pv 2 _) (by omega) (by omega)
   case measure => simp [intOf]; omega
  ·obtain rfl : n3 = j := by omega
   have hgl1 := glP_length n3 r3
   generalize hgl : glP n3 r3 = GL at *
   obtain ⟨L, R⟩ := GL
   simp only at hr hown hgl1 ⊢
   obtain ⟨A6, k6, rfl, hk6⟩ := own_sl hown
   have cZ := hZ.cell
   have fZ := hZ.frozen
   have lZ := hZ.lt
   by_cases he : R.e = 0
   ·have he' : (R.e != 0) = false := by simpa using he
    have H := hide (⟨hown, hr, hO⟩ : _ ∧ _ ∧ _)
    go_wp2_with (go_at_call 101; (with_reducible refine (rderr_any _ _ _ _ _ hr).mono ?_); rintro e w8 ⟨rfl, hw8⟩; subst hw8)
    all_goals
     obtain ⟨hown, hr, hO⟩ := H.out
     rw [he] at hr
     refine bodyPost_cell Tryz.results84 rfl (Blk.three hZ) Tryz.underlying44 rfl (by kernel_rfl) rfl ⟨⟨_, rfl, own_low (own_set (own_set (own_set hown (by show w.heap.size < pv + 1; omega) _) (by show w.heap.size < pv + 1; omega) _) (by show w.heap.size < pv + 1; omega) _) (by omega)⟩, ?_, ((hO.set_ (.inr (Nat.le_refl _)) _).set_ (.inr (Nat.le_refl _)) _).set_ (.inr (Nat.le_refl _)) _⟩
     exact Rdr.only hr ((((Only.refl wo w.heap.size).set_ (.inl rfl) _).set_ (.inl rfl) _).set_ (.inl rfl) _) (by omega) (by omega)
   ·have he' : (R.e != 0) = true := by simpa using he
    have H := hide (⟨hown, hr, hO⟩ : _ ∧ _ ∧ _)
    go_wp2_with (go_at_call 101; (with_reducible refine (rderr_any _ _ _ _ _ hr).mono ?_); rintro e w8 ⟨rfl, hw8⟩; subst hw8)
    all_goals
     obtain ⟨hown, hr, hO⟩ := H.out
     refine bodyPost_cell Tryz.results84 rfl (Blk.three hZ) Tryz.underlying44 rfl (by kernel_rfl) rfl ⟨⟨_, rfl, World.ownsRow_nil _ _ _ _⟩, ?_, ((hO.set_ (.inr (Nat.le_refl _)) _).set_ (.inr (Nat.le_refl _)) _).set_ (.inr (Nat.le_refl _)) _⟩
     exact Rdr.only hr ((((Only.refl wo w.heap.size).set_ (.inl rfl) _).set_ (.inl rfl) _).set_ (.inl rfl) _) (by omega) (by omega)
end Go.Proofs.YtjhcgnmibnjocaaGreat

namespace Go.Proofs.YtjhcgnmibnjocaaGreat
open Go.RowKit
theorem Mrd.low {w w' : World} {B q : Nat} {A : Option Addr} {c : Nat} {l : List Nat} {a : Nat} {e : Int} (h : Mrd w q A c l a e) (hb : Below B w w') (h1 : q < B) (h2 : 0 < l.length → ∀ b, A = some b → b.block < B) : Mrd w' q A c l a e :=
 ⟨h.blk.below hb h1, ⟨h.row.1, fun hn => by
  obtain ⟨ad, e', hb', hc⟩ := h.row.2 hn
  exact ⟨ad, e', Nat.lt_of_lt_of_le hb' hb.size, fun j u hu => (hb.cell (by rw [block_of_add]; exact h2 hn _ e')).trans (hc j u hu)⟩⟩, h.ne, h.le⟩
theorem Mrd.far {w : World} {q : Nat} {A : Option Addr} {c : Nat} {l : List Nat} {a : Nat} {e : Int} (h : Mrd w q A c l a e) {p : Addr} (h1 : q ≠ p.block) (h2 : 0 < l.length → ∀ b, A = some b → b.block ≠ p.block) (u : Value) : Mrd (w.setCell p u) q A c l a e :=
 ⟨h.blk.far h1 u, ⟨h.row.1, fun hn => by
  obtain ⟨ad, e', hb', hc⟩ := h.row.2 hn
  refine ⟨ad, e', by simpa using hb', fun j u' hu => ?_⟩
  rw [World.cell?_setCell_other w _ _ u (fun he => h2 hn _ e' (by have := congrArg Addr.block he; rw [block_of_add] at this; first | exact this | exact this.symm))]
  exact hc j u' hu⟩, h.ne, h.le⟩
def Mst (w : World) (q : Nat) (A : Option Addr) (c : Nat) (l : List Nat) (r : Rest) : Prop := ∃ a e, Mrd w q A c l a e ∧ restP l a e = r
theorem di_any (q : Nat) (A : Option Addr) (c : Nat) (l : List Nat) (r : Rest) (hby : ∀ x ∈ l, x < 256) (hlen : l.length ≤ 140737488355328) (w : World) (h : Mst w q A c l r) :
  Calls Tryz.prog 91 #[.pointer (some ⟨q, 0, none⟩)] w fun e' w' => e' = .returned (.int .i64 (zag (numP r).1)) ∧ Mst w' q A c l (numP r).2 ∧ Only w w' q := by
 obtain ⟨a, e, hm, rfl⟩ := h
 exact dint_any q A c l a e w hm hby hlen
theorem dc_any (q : Nat) (A : Option Addr) (c : Nat) (l : List Nat) (r : Rest) (hby : ∀ x ∈ l, x < 256) (hlen : l.length ≤ 140737488355328) (w : World) (h : Mst w q A c l r) :
  Calls Tryz.prog 103 #[.pointer (some ⟨q, 0, none⟩), .int .i64 8] w fun e' w' => e' = .returned (.int .i64 ((countP 8 r).1 : Nat)) ∧ Mst w' q A c l (countP 8 r).2 ∧ Only w w' q := by
 obtain ⟨a, e, hm, rfl⟩ := h
 exact dcount_any q A c l a e w hm hby hlen
theorem Mst.below {w w' : World} {q : Nat} {A : Option Addr} {c : Nat} {l : List Nat} {r : Rest} (h : Mst w q A c l r) (hb : Below w.heap.size w w') : Mst w' q A c l r := by
 obtain ⟨a, e, hm, hr⟩ := h
 exact ⟨a, e, hm.below hb, hr⟩
theorem Mst.low {w w' : World} {B q : Nat} {A : Option Addr} {c : Nat} {l : List Nat} {r : Rest} (h : Mst w q A c l r) (hb : Below B w w') (h1 : q < B) (h2 : 0 < l.length → ∀ b, A = some b → b.block < B) : Mst w' q A c l r := by
 obtain ⟨a, e, hm, hr⟩ := h
 exact ⟨a, e, hm.low hb h1 h2, hr⟩
theorem Mst.far {w : World} {q : Nat} {A : Option Addr} {c : Nat} {l : List Nat} {r : Rest} (h : Mst w q A c l r) {p : Addr} (h1 : q ≠ p.block) (h2 : 0 < l.length → ∀ b, A = some b → b.block ≠ p.block) (u : Value) : Mst (w.setCell p u) q A c l r := by
 obtain ⟨a, e, hm, hr⟩ := h
 exact ⟨a, e, hm.far h1 h2 u, hr⟩
theorem Mst.e {w : World} {q : Nat} {A : Option Addr} {c : Nat} {l : List Nat} {r : Rest} (h : Mst w q A c l r) : ∃ a, Blk w q 148 #[.slice A l.length c, .int .i64 ((a : Nat) : Int), .int .i64 r.e] := by
 obtain ⟨a, e, hm, rfl⟩ := h
 rw [restP_e]
 exact ⟨a, hm.blk⟩
set_option maxRecDepth 100000 in
set_option maxHeartbeats 4000000 in
theorem dget_any (q : Nat) (A : Option Addr) (c : Nat) (l : List Nat) (r : Rest) (hby : ∀ x ∈ l, x < 256) (hlen : l.length ≤ 140737488355328) (w : World) (h : Mst w q A c l r) (hq : q < w.heap.size) (hA : 0 < l.length → ∀ b, A = some b → b.block < w.heap.size) :
  Calls Tryz.prog 89 #[.pointer (some ⟨q, 0, none⟩)] w fun o w' => (∃ v, o = .returned (.agg #[.int .i64 (getV r).e, .int .i64 (getV r).p, v]) ∧ w'.ownsRow w.heap.size 3 1 v (getV r).l.length (ints (getV r).l)) ∧ Mst w' q A c l (getV r).r ∧ Only w w' q := by
 obtain ⟨i0, hi, hz0, hz1, hz2⟩ := info_parts infoI64
 have h0 : Mst ((w.alloc (.cells #[.int .i64 0, .int .i64 0, .slice none 0 0] 30)).alloc (.cells #[.int .i64 0, .int .i64 0, .slice none 0 0] 30)) q A c l r := h.below (Below.alloc (Below.alloc (Below.refl _ _) (Nat.le_refl _) _) (by simp) _)
 have hZ := (Blk.new w 30 #[.int .i64 0, .int .i64 0, .slice none 0 0]).alloc (.cells #[.int .i64 0, .int .i64 0, .slice none 0 0] 30)
 have hV := Blk.made w (.cells #[.int .i64 0, .int .i64 0, .slice none 0 0] 30) 30 #[.int .i64 0, .int .i64 0, .slice none 0 0]
 have hi1 := fun w' h' => di_any q A c l r hby hlen w' h'
 have h8 := fun r2 => count8_le r2
 rcases hq1 : numP r with ⟨n1, r1⟩
 rw [hq1] at hi1
 have hi2 := fun w' h' => di_any q A c l r1 hby hlen w' h'
 rcases hq2 : numP r1 with ⟨n2, r2⟩
 rw [hq2] at hi2
 have hi3 := fun w' h' => dc_any q A c l r2 hby hlen w' h'
 replace h8 := h8 r2
 rcases hq3 : countP 8 r2 with ⟨n3, r3⟩
 rw [hq3] at hi3 h8
 have hgv := gvP_eq hq1 hq2 hq3
 unfold getV
 rw [hgv]
 simp only at hi1 hi2 hi3 h8 ⊢
 clear hq1 hq2 hq3 hgv
 generalize zag n1 = E at *
 generalize zag n2 = P at *
 have hqz : w.heap.size ≠ q := by omega
 have hqv : w.heap.size + 1 ≠ q := by omega
 go_enter Tryz.func89, Tryz.ntmps89
 go_wp2_with (first | (go_at_call 91; (with_reducible refine (hi1 _ h0).mono ?_); rintro e w1 ⟨rfl, hr1, ho1⟩; have hs1 := ho1.size; (simp only [World.size_alloc] at hs1); have hV1 := Blk.only hV ho1 hqv; have cV1 := hV1.cell; have fV1 := hV1.frozen; have lV1 := hV1.lt; have hr1' := hr1.far (p := ⟨w.heap.size + 1, 0, none⟩) (by exact hqv.symm) (fun h0 b hb => by have := hA h0 b hb; show b.block ≠ w.heap.size + 1; omega) (.int .i64 E)) | (go_at_call 91; (with_reducible refine (hi2 _ hr1').mono ?_); rintro e w2 ⟨rfl, hr2, ho2⟩; have hs2 := ho2.size; (simp only [World.size_setCell] at hs2); have hV2 := Blk.only (hV1.set_ 0 (.int .i64 E)) ho2 hqv; have cV2 := hV2.cell; have fV2 := hV2.frozen; have lV2 := hV2.lt; have hr2' := hr2.far (p := ⟨w.heap.size + 1, 1, none⟩) (by exact hqv.symm) (fun h0 b hb => by have := hA h0 b hb; show b.block ≠ w.heap.size + 1; omega) (.int .i64 P)) | (go_at_call 103; (with_reducible refine (hi3 _ hr2').mono ?_); rintro e w3 ⟨rfl, hr3, ho3⟩))
 have hs3 := ho3.size
 simp only [World.size_setCell] at hs3
 have hV3 := Blk.only (hV2.set_ 1 (.int .i64 P)) ho3 hqv
 have hZ3 := Blk.only ((Blk.only ((Blk.only hZ ho1 hqz).far (p := ⟨w.heap.size + 1, 0, none⟩) (by show w.heap.size ≠ w.heap.size + 1; omega) (.int .i64 E)) ho2 hqz).far (p := ⟨w.heap.size + 1, 1, none⟩) (by show w.heap.size ≠ w.heap.size + 1; omega) (.int .i64 P)) ho3 hqz
 have hO3 : Only w w3 q := ((((((Only.refl w q).alloc _).alloc _).trans ho1).set_ (p := ⟨w.heap.size + 1, 0, none⟩) (.inr (by simp)) (.int .i64 E)).trans ho2 |>.set_ (p := ⟨w.heap.size + 1, 1, none⟩) (.inr (by simp)) (.int .i64 P)).trans ho3
 clear hi1 hi2 hi3 h0 hZ hr1 ho1 hr2 hr2' hr1' ho2 ho3 hV hV1 hV2 cV1 cV2 fV1 fV2 lV1 lV2
 have hsz : w.heap.size + 1 < w3.heap.size := hV3.lt
 go_loopw [5] (fun vi wr => ∃ (j : Nat) (v : Value), j ≤ n3 ∧ vi = .int .i64 (j : Int) ∧ Blk wr (w.heap.size + 1) 30 #[.int .i64 E, .int .i64 P, v] ∧ wr.ownsRow (w.heap.size + 2) 3 1 v j (ints (glP j r3).1) ∧ Mst wr q A c l (glP j r3).2 ∧ Blk wr w.heap.size 30 #[.int .i64 0, .int .i64 0, .slice none 0 0] ∧ Only w wr q) (fun vi _ => ((n3 : Int) - intOf vi).toNat)
 case atStart => exact ⟨0, _, by omega, rfl, hV3, World.ownsRow_nil _ _ _ _, hr3, hZ3, hO3⟩
 case round =>
  clear hV3 hr3 hZ3 hO3
  obtain ⟨j, v, hj, rfl, hV, hown, hr, hZ, hO⟩ := hrel
  obtain ⟨wo, rfl⟩ : ∃ wo : World, wo = wr := ⟨_, rfl⟩
  have cV := hV.cell
  have lV := hV.lt
  by_cases hlt' : j < n3
  ·have hjl : (j : Int) < n3 := by omega
   have hgl : glP (j + 1) r3 = ((glP j r3).1 ++ [zag (numP (glP j r3).2).1], (numP (glP j r3).2).2) := rfl
   have hI := fun w' h' => di_any q A c l (glP j r3).2 hby hlen w' h'
   have hgl1 := glP_length j r3
   generalize (glP j r3).1 = L at *
   generalize (glP j r3).2 = R at *
   rcases hq : numP R with ⟨m, R'⟩
   rw [hq] at hI hgl
   simp only at hI hgl
   generalize zag m = y at *
   have hG := hide hgl
   clear hgl hq
   go_wp2_with (first | (go_at_call 91; (with_reducible refine (hI _ hr).mono ?_); rintro e w5 ⟨rfl, hr5, ho5⟩; have hs5 := ho5.size; have hV5 := Blk.only hV ho5 hqv; have cV5 := hV5.cell; have fV5 := hV5.frozen; have lV5 := hV5.lt; have hown5 := own_only hown ho5 (by omega)) | (at_builtin; refine wpList_append_own _ rfl _ _ 28 rfl (w.heap.size + 2) 3 i0 (.int .i64 0) 1 8 Tryz.underlying28 hi hz0 hz1 hz2 rfl (by decide) _ _ _ rfl (own_alloc hown5 _) _ 1 1 [.int .i64 y] rfl rfl ?c1 ?c2 ?c3 ?c4 ?c5 ?_))
   case c1 => exact cells_new _ #[.int .i64 y] _
   case c2 => intro u hu; simp at hu; subst hu; rfl
   case c3 => unfold maxLen; omega
   case c4 => omega
   case c5 => simp; omega
   intro v' w6 hown6 hgrow hnil
   have hb6 : Below (w.heap.size + 2) (w5.alloc (.cells #[.int .i64 y] 3)) w6 := own_below (Below.refl _ _) (own_alloc hown5 _) hgrow (Nat.le_refl _) (by simp; omega)
   obtain ⟨A6, k6, rfl, hk6⟩ := own_sl hown6
   have hV6 := (hV5.alloc (.cells #[.int .i64 y] 3)).below hb6 (by omega)
   have cV6 := hV6.cell
   have fV6 := hV6.frozen
   have lV6 := hV6.lt
   have hZ5 := Blk.only hZ ho5 hqz
   have hO5 := hO.trans ho5
   go_wp2
   go_roundw
   case rel =>
    refine ⟨j + 1, .slice A6 (j + 1) k6, by omega, by go_num, Blk.set_to hV6 rfl, ?_, ?_, ((hZ5.alloc _).below hb6 (by omega)).far (by show w.heap.size ≠ w.heap.size + 1; omega) _, (Only.low (hO5.alloc _) hb6 (by omega)).set_ (.inr (by show w.heap.size ≤ w.heap.size + 1; omega)) _⟩
    ·rw [hG.out]
     simp only [ints_append]
     exact own_set hown6 (by show w.heap.size + 1 < w.heap.size + 2; omega) _
    ·rw [hG.out]
     exact Mst.far (Mst.low (Mst.below hr5 (Below.alloc (Below.refl _ _) (Nat.le_refl _) (.cells #[.int .i64 y] 3))) hb6 (by omega) (fun h0 b hb => by have := hA h0 b hb; omega)) (p := ⟨w.heap.size + 1, 2, none⟩) (by exact hqv.symm) (fun h0 b hb => by have := hA h0 b hb; show b.block ≠ w.heap.size + 1; omega) _
   case measure => simp [intOf]; omega
  ·obtain rfl : n3 = j := by omega
   have hgl1 := glP_length n3 r3
   generalize hgl : glP n3 r3 = GL at *
   obtain ⟨L, R⟩ := GL
   simp only at hr hown hgl1 ⊢
   obtain ⟨A6, k6, rfl, hk6⟩ := own_sl hown
   have cZ := hZ.cell
   have fZ := hZ.frozen
   have lZ := hZ.lt
   obtain ⟨a1, hB⟩ := hr.e
   have cB := hB.cell
   have lB := hB.lt
   by_cases he : R.e = 0
   ·have he' : (R.e != 0) = false := by simpa using he
    have H := hide (⟨hown, hr, hO⟩ : _ ∧ _ ∧ _)
    clear hr
    go_wp2
    all_goals
     obtain ⟨hown, hr, hO⟩ := H.out
     refine bodyPost_cell Tryz.results89 rfl (Blk.three hZ) Tryz.underlying30 rfl (by kernel_rfl) rfl ⟨⟨_, rfl, own_low (own_set (own_set (own_set hown (by show w.heap.size < w.heap.size + 2; omega) _) (by show w.heap.size < w.heap.size + 2; omega) _) (by show w.heap.size < w.heap.size + 2; omega) _) (by omega)⟩, ?_, ((hO.set_ (.inr (Nat.le_refl _)) _).set_ (.inr (Nat.le_refl _)) _).set_ (.inr (Nat.le_refl _)) _⟩
     exact ((hr.far (by exact hqz.symm) (fun h0 b hb => by have := hA h0 b hb; show b.block ≠ w.heap.size; omega) _).far (by exact hqz.symm) (fun h0 b hb => by have := hA h0 b hb; show b.block ≠ w.heap.size; omega) _).far (by exact hqz.symm) (fun h0 b hb => by have := hA h0 b hb; show b.block ≠ w.heap.size; omega) _
   ·have he' : (R.e != 0) = true := by simpa using he
    have H := hide (⟨hown, hr, hO⟩ : _ ∧ _ ∧ _)
    clear hr
    go_wp2
    all_goals
     obtain ⟨hown, hr, hO⟩ := H.out
     refine bodyPost_cell Tryz.results89 rfl (Blk.three hZ) Tryz.underlying30 rfl (by kernel_rfl) rfl ⟨⟨_, rfl, World.ownsRow_nil _ _ _ _⟩, ?_, ((hO.set_ (.inr (Nat.le_refl _)) _).set_ (.inr (Nat.le_refl _)) _).set_ (.inr (Nat.le_refl _)) _⟩
     exact ((hr.far (by exact hqz.symm) (fun h0 b hb => by have := hA h0 b hb; show b.block ≠ w.heap.size; omega) _).far (by exact hqz.symm) (fun h0 b hb => by have := hA h0 b hb; show b.block ≠ w.heap.size; omega) _).far (by exact hqz.symm) (fun h0 b hb => by have := hA h0 b hb; show b.block ≠ w.heap.size; omega) _
end Go.Proofs.YtjhcgnmibnjocaaGreat

namespace Go.Proofs.YtjhcgnmibnjocaaGreat
open Go.RowKit
structure Kp (S : Nat → Prop) (w w' : World) : Prop where
 os : w'.os = w.os
 tape : w'.tape = w.tape
 output : w'.output = w.output
 size : w.heap.size ≤ w'.heap.size
 block : ∀ k, k < w.heap.size → ¬S k → w'.heap[k]? = w.heap[k]?
section
variable {S : Nat → Prop} {w w' w'' : World}
theorem Kp.refl (S : Nat → Prop) (w : World) : Kp S w w := ⟨rfl, rfl, rfl, Nat.le_refl _, fun _ _ _ => rfl⟩
theorem Kp.trans (h : Kp S w w') (k : Kp S w' w'') : Kp S w w'' := ⟨k.os.trans h.os, k.tape.trans h.tape, k.output.trans h.output, Nat.le_trans h.size k.size, fun i hi h1 => (k.block i (Nat.lt_of_lt_of_le hi h.size) h1).trans (h.block i hi h1)⟩
theorem Kp.of_below (h : Below w.heap.size w w') : Kp S w w' := ⟨h.os, h.tape, h.output, h.size, fun k hk _ => h.block k hk⟩
theorem Kp.set_ (h : Kp S w w') {p : Addr} (hp : S p.block ∨ w.heap.size ≤ p.block) (u : Value) : Kp S w (w'.setCell p u) :=
 ⟨h.os, h.tape, h.output, by simpa using h.size, fun k hk hn => (Below.heap_setCell w' p u k (by rintro rfl; rcases hp with hp | hp; exact hn hp; omega)).trans (h.block k hk hn)⟩
theorem Kp.below (h : Kp S w w') {B : Nat} (hB : B ≤ w.heap.size) (hS : ∀ k, S k → B ≤ k) : Below B w w' := ⟨h.os, h.tape, h.output, h.size, fun k hk => h.block k (by omega) (fun hs => by have := hS k hs; omega)⟩
theorem Blk.kp {b : Nat} {t : TypeId} {cs : Array Value} (h : Blk w b t cs) (hk : Kp S w w') (hn : ¬S b) : Blk w' b t cs := (hk.block b h.lt hn).trans h
theorem Reads.kp {B : Option Addr} {size n : Nat} {xs : List Value} (h : Reads w w.heap.size size B n xs) (hk : Kp S w w') (hB : 0 < n → ∀ b, B = some b → ¬S b.block) : Reads w' w'.heap.size size B n xs :=
 ⟨h.1, fun hn => by
  obtain ⟨ad, e, hb, hc⟩ := h.2 hn
  refine ⟨ad, e, Nat.lt_of_lt_of_le hb hk.size, fun j u hu => ?_⟩
  have : w'.cell? (ad.add j) = w.cell? (ad.add j) := by
   unfold World.cell?
   rw [hk.block (ad.add j).block (by rw [block_of_add]; exact hb) (by rw [block_of_add]; exact hB hn _ e)]
  exact this.trans (hc j u hu)⟩
end
end Go.Proofs.YtjhcgnmibnjocaaGreat

namespace Go.Proofs.YtjhcgnmibnjocaaGreat
open Go.RowKit
theorem Kp.of_chw {w w' : World} {g : Nat} {v v' : Value} (h : Chw w w' g v v') : Kp (fun k => k = g ∨ v.ownBlock = some k) w w' :=
 ⟨h.os, h.tape, h.output, h.size, fun k hk hn => h.block k hk (fun e => hn (.inl e)) (fun e => hn (.inr e))⟩
theorem run_copy_grown {w w' : World} {A : Option Addr} {n c : Nat} {l : List Int} {v : Value} (hr : Reads w w.heap.size 1 A n (ints l)) (hn : n * 8 ≤ 140737488355328)
  (h : (Builtin.append_ #[28, 28] 28 #[.slice (some ⟨w.heap.size, 0, none⟩) 0 0, .slice A n c]).run Tryz.prog (w.alloc (.cells #[] 3)) = .ok v w') : First.Grown (w.alloc (.cells #[] 3)) w' := by
 obtain ⟨i0, hi, hz0, hz1, hz2⟩ := info_parts infoI64
 have hl := reads_len hr
 rcases Nat.eq_zero_or_pos n with h0 | h0
 ·subst h0
  have hs : Src Tryz.prog i0.size 28 (.slice A 0 c) 0 [] (w.alloc (.cells #[] 3)) := by
   cases A with
   | none => exact Src.ofNil _ Tryz.underlying28 c
   | some ad => exact Src.ofSlice _ Tryz.underlying28 ad 0 c [] (by simp) (fun j u hu => by cases hu) (fun u hu => by cases hu)
  have h2 := run_append_room_src (P := Tryz.prog) (w.alloc (.cells #[] 3)) 28 28 28 3 i0 Tryz.underlying28 hi w.heap.size 0 0 0 (.slice A 0 c) 0 [] hs (Nat.le_refl _) (fun j hj => by cases hj) (fun j hj => by cases hj)
  rw [h] at h2
  injection h2 with _ h3
  rw [h3]
  exact First.Grown.refl _
 ·obtain ⟨ad, rfl, hb, hc⟩ := hr.2 h0
  have h2 := run_append_grow (P := Tryz.prog) (w.alloc (.cells #[] 3)) 28 28 3 i0 (.int .i64 0) Tryz.underlying28 hi hz0 ⟨w.heap.size, 0, none⟩ 0 0 [] (by simp) (fun j u hu => by cases hu) ad n c (ints l) (by rw [ints_length, hl, hz1, Nat.mul_one])
   (fun j u hu => by rw [World.cell?_alloc_lt w _ _ (by rw [block_of_add]; exact hb)]; exact hc j u hu) (by omega) (by omega) (growslice_fits (by omega) (by rw [hz2]; omega))
  rw [h] at h2
  injection h2 with _ h3
  rw [h3]
  have hbb : Below (w.alloc (.cells #[] 3)).heap.size (w.alloc (.cells #[] 3)) (w.alloc (.cells #[] 3)).drew := Below.drew (Below.refl _ _)
  exact World.ext_of_below (hbb.alloc (Nat.le_refl _) _)
def tailB (l : List Int) : List Nat := l.flatMap fun x => numB (zig x)
def viewB (e p : Int) (l : List Int) : List Nat := numB (zig e) ++ (numB (zig p) ++ (numB l.length ++ tailB l))
theorem tailB_take {l : List Int} {j : Nat} {x : Int} (h : l[j]? = some x) : tailB (l.take (j + 1)) = tailB (l.take j) ++ numB (zig x) := by
 unfold tailB
 rw [List.take_add_one, h, List.flatMap_append]
 simp
theorem tailB_le {l : List Int} (h : ∀ x ∈ l, I64 x) : (tailB l).length ≤ 9 * l.length := by
 induction l with
 | nil => simp [tailB]
 | cons x l ih =>
  have h1 := numB_le _ (zig_lt _ (h x (by simp)))
  have h2 := ih (fun y hy => h y (by simp [hy]))
  simp only [tailB, List.flatMap_cons, List.length_append, List.length_cons] at *
  omega
set_option maxRecDepth 100000 in
set_option maxHeartbeats 2000000 in
theorem vto_any (e p : Int) (A : Option Addr) (n c : Nat) (l : List Int) (w : World) (hr : Reads w w.heap.size 1 A n (ints l)) (hn : n * 8 ≤ 140737488355328) :
  Calls Tryz.prog 8 #[.agg #[.int .i64 e, .int .i64 p, .slice A n c]] w fun r w' => (∃ v, r = .returned (.agg #[.int .i64 e, .int .i64 p, v]) ∧ w'.ownsRow w.heap.size 3 1 v n (ints l)) ∧ Below w.heap.size w w' := by
 have hrX : ∀ o1 o2 X, Reads (((w.alloc o1).alloc o2).ext X) (((w.alloc o1).alloc o2).ext X).heap.size 1 A n (ints l) := fun o1 o2 X => (((hr.alloc (Nat.le_refl _) o1).alloc (by simp) o2).ext (by simp; omega) X).more (by simp [World.size_ext]; omega)
 go_enter Tryz.func8, Tryz.ntmps8
 go_wp2
 refine First.wp_region_first_ext [1, 3, 6] [0, 2, 5, 8] [(true, false, 0), (true, true, 1), (true, false, 2), (true, true, 3), (true, false, 5), (true, true, 6), (false, true, 4), (false, true, 7), (true, false, 8), (false, false, 9)] (by kernel_rfl) (by kernel_rfl) (fun X => ?_); simp only [List.map_cons, List.map_nil, List.getD_cons_zero, List.getD_cons_succ]
 obtain ⟨v, w1, hap, ho, hb⟩ := run_copy (((w.alloc (.cells #[.int .i64 e, .int .i64 p, .slice A n c] 30)).alloc (.cells #[.int .i64 0, .int .i64 0, .slice none 0 0] 44)).ext X) A n c l (hrX _ _ X) hn
 obtain ⟨A1, c1, rfl, hc1⟩ := own_sl ho
 have hZ := Blk.below (Blk.ext (Blk.made w (.cells #[.int .i64 e, .int .i64 p, .slice A n c] 30) 44 #[.int .i64 0, .int .i64 0, .slice none 0 0]) X) hb (by simp [World.size_ext]; omega)
 have cZ := hZ.cell
 have fZ := hZ.frozen
 have lZ := hZ.lt
 have hgr := run_copy_grown (hrX _ _ X) hn hap
 simp only [World.size_ext, World.size_alloc] at hap
 (repeat (first | (refine wfp fun K hK => ?_; go_simp; refine hK _ _ ?_; clear hK K) | (refine wff fun K hK => ?_; go_simp; refine hK _ _ ?_; clear hK K)))
 refine First.wpF_must (fun K hK => ?_)
 go_wp2
 (refine hK _ _ (fun hnd => by first | exact Bool.noConfusion hnd | assumption | with_reducible (first | exact grown_alloc _ _ | exact First.Grown.refl _ | exact First.Grown.cat _ _ _ | exact First.Grown.ext _ _)) ?_; clear hK K)
 (repeat (first | (refine wfp fun K hK => ?_; go_simp; refine hK _ _ ?_; clear hK K) | (refine wff fun K hK => ?_; go_simp; refine hK _ _ ?_; clear hK K)))
 refine First.wpF_must (fun K hK => ?_)
 go_wp2_with (at_builtin; refine wpList_append_run rfl _ _ 28 rfl rfl rfl hap ?_)
 (refine hK _ _ (fun _ => hgr) ?_; clear hK K)
 (repeat (first | (refine wfp fun K hK => ?_; go_simp; refine hK _ _ ?_; clear hK K) | (refine wff fun K hK => ?_; go_simp; refine hK _ _ ?_; clear hK K)))
 refine First.wpF_must (fun K hK => ?_)
 go_wp2
 (refine hK _ _ (fun hnd => by first | exact Bool.noConfusion hnd | assumption | with_reducible (first | exact grown_alloc _ _ | exact First.Grown.refl _ | exact First.Grown.cat _ _ _ | exact First.Grown.ext _ _)) ?_; clear hK K)
 refine First.wpF_nil ?_
 go_wp2
 refine bodyPost_cell Tryz.results8 rfl (Blk.three hZ) Tryz.underlying44 rfl (by kernel_rfl) rfl ⟨⟨_, rfl, own_low (own_set (own_set (own_set ho (by simp [World.size_ext]; omega) _) (by simp [World.size_ext]; omega) _) (by simp [World.size_ext]; omega) _) (by simp [World.size_ext]; omega)⟩, ?_⟩
 have hbw : Below w.heap.size w w1 := (Below.ext (Below.alloc (Below.alloc (Below.refl _ _) (Nat.le_refl _) _) (by simp) _) (by simp; omega) X).trans (hb.mono (by simp [World.size_ext]; omega))
 (repeat' (first | with_reducible (first | exact Below.refl _ _ | refine Below.ext ?_ ?_ _ | refine Below.alloc ?_ ?_ _ | refine Below.setCell ?_ ?_ _ | refine Below.drew ?_ | assumption) | (simp [World.size_ext]; done) | (simp [World.size_ext]; omega)))
set_option maxRecDepth 100000 in
set_option maxHeartbeats 2000000 in
theorem vput_any (base g : Nat) (v : Value) (xs : List Nat) (e p : Int) (A : Option Addr) (n c : Nat) (l : List Int) (w : World) (hw : Wrt w base g 153 v xs) (hr : Reads w w.heap.size 1 A n (ints l)) (hA : 0 < n → ∀ a, A = some a → ¬(a.block = g ∨ v.ownBlock = some a.block))
  (he : I64 e) (hp : I64 p) (hl64 : ∀ x ∈ l, I64 x) (hn : n ≤ 50) (hlen : xs.length ≤ 1000) :
  Calls Tryz.prog 68 #[.pointer (some ⟨g, 0, none⟩), .agg #[.int .i64 e, .int .i64 p, .slice A n c]] w fun r w' => r = .returned (.tuple #[]) ∧ ∃ v', Wrt w' base g 153 v' (xs ++ viewB e p l) ∧ Chw w w' g v v' := by
 have hl := reads_len hr
 have hb0 : Below w.heap.size w (w.alloc (.cells #[.int .i64 e, .int .i64 p, .slice A n c] 44)) := Below.alloc (Below.refl _ _) (Nat.le_refl _) _
 have h0 := hw.below hb0
 have hB := Blk.new w 44 #[.int .i64 e, .int .i64 p, .slice A n c]
 have hne := hw.row.far (Nat.le_refl _)
 have hgl := hw.blk.lt
 have hgb : w.heap.size ≠ g := by omega
 have l1 := numB_le _ (zig_lt _ he)
 have l2 := numB_le _ (zig_lt _ hp)
 have l3 := numB_le n (by omega)
 have k1 : IntKind.u64.wrap (n : Int) = (n : Int) := by show (n : Int) % 18446744073709551616 = _; omega
 have hu : U64 (n : Int) := by unfold U64; omega
 go_enter Tryz.func68, Tryz.ntmps68
 go_wp2_with (first | (go_at_call 75; ((with_reducible refine (int_any _ _ _ _ _ _ h0 he (by omega)).mono ?_); rintro r w1 ⟨rfl, v1, hw1, hc1⟩; have hB1 := Blk.chw hB hc1 hgb hne; have cB1 := hB1.cell; have lB1 := hB1.lt)) | (go_at_call 75; (with_reducible refine (int_any _ _ _ _ _ _ hw1 hp (by simp only [List.length_append]; omega)).mono ?_); rintro r w2 ⟨rfl, v2, hw2, hc2⟩; have hc02 := hc1.trans hc2; have hB2 := Blk.chw hB hc02 hgb hne; have cB2 := hB2.cell; have lB2 := hB2.lt) | (go_at_call 67; (with_reducible refine (num_any _ _ _ _ _ _ hw2 hu (by simp only [List.length_append]; omega)).mono ?_); rintro r w3 ⟨rfl, v3, hw3, hc3⟩; have hc03 := hc02.trans hc3; have hB3 := Blk.chw hB hc03 hgb hne; have cB3 := hB3.cell; have lB3 := hB3.lt))
 have hr0 := (hr.alloc (Nat.le_refl _) (.cells #[.int .i64 e, .int .i64 p, .slice A n c] 44)).more (B' := (w.alloc (.cells #[.int .i64 e, .int .i64 p, .slice A n c] 44)).heap.size) (by simp)
 clear h0 hB hw1 hw2 hc1 hc2 hc3 hc02 hB1 hB2 hB3 cB1 cB2 cB3 lB1 lB2 lB3 hr
 go_loopw [23] (fun vi wr => ∃ (j : Nat) (v' : Value), j ≤ n ∧ vi = .int .i64 (j : Int) ∧ Wrt wr base g 153 v' (xs ++ numB (zig e) ++ numB (zig p) ++ numB n ++ tailB (l.take j)) ∧ Chw (w.alloc (.cells #[.int .i64 e, .int .i64 p, .slice A n c] 44)) wr g v v') (fun vi _ => ((n : Int) - intOf vi).toNat)
 case atStart =>
  rw [Int.toNat_natCast] at hw3
  exact ⟨0, v3, by omega, rfl, by simpa [tailB] using hw3, hc03⟩
 case round =>
  clear hw3 hc03
  obtain ⟨j, v', hj, rfl, hw', hc⟩ := hrel
  obtain ⟨wo, rfl⟩ : ∃ wo : World, wo = wr := ⟨_, rfl⟩
  have hs0 := hc.size
  have htl := tailB_le (l := l.take j) (fun x hx => hl64 x (List.mem_of_mem_take hx))
  have htk : (l.take j).length ≤ 50 := by rw [List.length_take]; omega
  by_cases hlt : j < n
  ·have hrw := Reads.kp hr0 (Kp.of_chw hc) hA
   obtain ⟨b, o, rfl, hbb, hcc⟩ := hrw.plain (by omega) (by omega)
   have hg : l[j]? = some l[j] := List.getElem?_eq_getElem (by omega)
   have m1 := hcc _ _ (ints_get hg)
   have hx := hl64 _ (List.getElem_mem (by omega : j < l.length))
   have hlj : (j : Int) < n := by omega
   have hT := hide (tailB_take hg)
   generalize l[j] = x at *
   have hI := int_any base g v' _ x wo hw' hx (by simp only [List.length_append]; omega)
   clear hr0 hrw hcc hg
   go_wp2_with (go_at_call 75; (with_reducible refine hI.mono ?_); rintro r w5 ⟨rfl, v5, hw5, hc5⟩)
   go_roundw
   case rel => exact ⟨j + 1, v5, by omega, by go_num, by rw [hT.out, ← List.append_assoc]; exact hw5, hc.trans hc5⟩
   case measure => simp [intOf]; omega
  ·obtain rfl : n = j := by omega
   clear hr0
   go_wp2
   refine bodyPost_end (v := .tuple #[]) (by simp [results, Tryz.results68, go_sem] <;> rfl) rfl ⟨rfl, ?_⟩
   refine ⟨v', ?_, (Chw.of_below hb0).trans hc⟩
   rw [List.take_of_length_le (by omega)] at hw'
   simpa [viewB, List.append_assoc, hl] using hw'
end Go.Proofs.YtjhcgnmibnjocaaGreat

namespace Go.Proofs.YtjhcgnmibnjocaaGreat
open Go.RowKit
theorem wp_region_below (B : Nat) {P : Program} {id : Nat} {Q : Exit → Act → World → Prop} {a : Act} {w : World} {l : List Oper} (Vs Ps : List Nat) (ks : List (Bool × Bool × Nat)) (hm : P.follows .mixedOrders = true)
  (hB : (Region.noSelect l.toArray && decide (ks.length = l.length) && First.orderB .any l.toArray Vs Ps ks (Array.replicate l.length false)) = true)
  (h : ∀ X, First.wpF P l.toArray (fun w w' => Below B w w') (Q .normal) (ks.map fun k => (k.1, k.2.1, l.getD k.2.2 default)) a (w.ext X)) : (Code.region id l.toArray true).wp P Q a w := by
 have hw₁ : ({ w with drawn := w.drawn + 1 } : World) = w.ext ⟨#[], w.drawn + 1⟩ := by simp [World.ext]
 exact First.wp_region_first _ (fun w => Below.refl B w) (fun w w' w'' h h' => h.trans h') Vs Ps ks hm hB (hw₁ ▸ h _)
end Go.Proofs.YtjhcgnmibnjocaaGreat

namespace Go.Proofs.YtjhcgnmibnjocaaGreat
open Go.RowKit
theorem wp_region_kp (S : Nat → Prop) {P : Program} {id : Nat} {Q : Exit → Act → World → Prop} {a : Act} {w : World} {l : List Oper} (Vs Ps : List Nat) (ks : List (Bool × Bool × Nat)) (hm : P.follows .mixedOrders = true)
  (hB : (Region.noSelect l.toArray && decide (ks.length = l.length) && First.orderB .any l.toArray Vs Ps ks (Array.replicate l.length false)) = true)
  (h : ∀ X, First.wpF P l.toArray (fun w w' => Kp S w w') (Q .normal) (ks.map fun k => (k.1, k.2.1, l.getD k.2.2 default)) a (w.ext X)) : (Code.region id l.toArray true).wp P Q a w := by
 have hw₁ : ({ w with drawn := w.drawn + 1 } : World) = w.ext ⟨#[], w.drawn + 1⟩ := by simp [World.ext]
 exact First.wp_region_first _ (fun w => Kp.refl S w) (fun w w' w'' h h' => h.trans h') Vs Ps ks hm hB (hw₁ ▸ h _)
theorem first_readG {P : Program} {ops : Array Oper} {Le : World → World → Prop} {Q : Act → World → Prop} {a : Act} {w : World} {o : Oper} {rest : List (Bool × Bool × Oper)} {v : Value} (hg : Region.wanted o (yielded ops a.tmps) = true) (hv : ∀ w', Le w w' → First.at_ P o a w' v)
  (hk : ∀ K : Act → World → Prop, (∀ a w, First.wpF P ops Le Q rest a w → K a w) → K (a.put o.dst v) w) : First.wpF P ops Le Q ((true, true, o) :: rest) a w :=
 First.wpF_free fun K hK => by
  rw [if_pos hg]
  exact ⟨v, hv, hk K hK⟩
theorem Kp.of_only {S : Nat → Prop} {w w' : World} {g : Nat} (h : Only w w' g) (hg : S g) : Kp S w w' := ⟨h.os, h.tape, h.output, h.size, fun k hk hn => h.block k hk (fun e => hn (e ▸ hg))⟩
theorem de_any (q : Nat) (A : Option Addr) (c : Nat) (l : List Nat) (r : Rest) (hlen : l.length ≤ 140737488355328) (w : World) (h : Mst w q A c l r) :
  Calls Tryz.prog 90 #[.pointer (some ⟨q, 0, none⟩)] w fun e' w' => e' = .returned (.int .i64 (endP r).e) ∧ Only w w' q := by
 obtain ⟨a, e, hm, rfl⟩ := h
 exact dend_any q A c l a e w hm hlen
end Go.Proofs.YtjhcgnmibnjocaaGreat
