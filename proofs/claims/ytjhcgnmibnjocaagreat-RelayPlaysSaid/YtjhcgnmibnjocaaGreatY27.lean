import Derived.Test.YtjhcgnmibnjocaaGreatY25
import Derived.Test.YtjhcgnmibnjocaaGreatY26
/-! A message that was handed in: is it light? -/
namespace Go.Proofs.YtjhcgnmibnjocaaGreat
open Go.RowKit Go.Maps
set_option linter.unusedVariables false
set_option linter.unusedSimpArgs false
structure Ents0 (w : World) (T : Nat → Prop) (A : Option Addr) (n : Nat) (l : List Ent) : Prop where
 ex : ∃ ms : List Em, ms.map Em.x = l ∧ Reads w w.heap.size 2 A n (emV ms) ∧ ∀ m ∈ ms, Bsl w T m.v m.x.t ∧ I64 m.x.e
 len : l.length = n
 nt : 0 < n → ∀ a, A = some a → ¬T a.block
theorem Ents0.kp {w w' : World} {T : Nat → Prop} {A : Option Addr} {n : Nat} {l : List Ent} (h : Ents0 w T A n l) (hk : Kp T w w') : Ents0 w' T A n l := by
 obtain ⟨⟨ms, e, hr, hm⟩, hl, hn⟩ := h
 exact ⟨⟨ms, e, Reads.kp hr hk hn, fun m h => ⟨(hm m h).1.kp hk, (hm m h).2⟩⟩, hl, hn⟩
theorem Ents0.ents {w : World} {T : Nat → Prop} {A : Option Addr} {n : Nat} {l : List Ent} (h : Ents0 w T A n l) (ht : ∀ x ∈ l, x.t.length ≤ 200) : Ents w T A n l := by
 obtain ⟨⟨ms, e, hr, hm⟩, hl, hn⟩ := h
 refine ⟨⟨ms, e, hr, fun m h => ⟨(hm m h).1, (hm m h).2, ?_, (hm m h).1.by_⟩⟩, hl, hn⟩
 have := ht m.x (e ▸ List.mem_map_of_mem h)
 omega
def lightP (m : Mg) : Bool := !(decide (30 < m.log.length)) && !(decide (20 < m.v.l.length)) && m.log.all fun x => decide (x.t.length ≤ 200)
set_option maxRecDepth 100000 in
set_option maxHeartbeats 4000000 in
theorem light_any {T : Nat → Prop} (m : Mg) (A : Option Addr) (c : Nat) (B : Option Addr) (d : Nat) (w : World) (hE : Ents0 w T B m.log.length m.log) (hv : m.v.l.length ≤ 17592186044416) (hn : m.log.length ≤ 17592186044416) :
  Calls Tryz.prog 6 #[.agg #[.int .i64 m.k, .int .i64 m.e, .int .i64 m.v.e, .int .i64 m.v.p, (.slice A m.v.l.length c), .int .i64 m.i, .int .i64 m.s, (.slice B m.log.length d)]] w fun e w' => e = .returned (.bool (lightP m)) ∧ Below w.heap.size w w' := by
 have hB := Blk.new w 38 #[.int .i64 m.k, .int .i64 m.e, .int .i64 m.v.e, .int .i64 m.v.p, (.slice A m.v.l.length c), .int .i64 m.i, .int .i64 m.s, (.slice B m.log.length d)]
 have hb0 : Below w.heap.size w (w.alloc (.cells #[.int .i64 m.k, .int .i64 m.e, .int .i64 m.v.e, .int .i64 m.v.p, (.slice A m.v.l.length c), .int .i64 m.i, .int .i64 m.s, (.slice B m.log.length d)] 38)) := Below.alloc (Below.refl _ _) (Nat.le_refl _) _
 by_cases h1 : 30 < m.log.length
 ·have d1 : decide ((30 : Int) < m.log.length) = true := by simp; omega
  have hP : lightP m = false := by unfold lightP; rw [decide_eq_true h1]; rfl
  rw [hP]
  go_enter Tryz.func6, Tryz.ntmps6
  go_wp2
  go_ret
  exact ⟨rfl, by (repeat' (first | with_reducible (first | exact Below.refl _ _ | refine Below.ext ?_ ?_ _ | refine Below.alloc ?_ ?_ _ | refine Below.setCell ?_ ?_ _ | refine Below.drew ?_ | assumption) | (simp [World.size_ext]; done) | (simp [World.size_ext]; omega)))⟩
 ·have d1 : decide ((30 : Int) < m.log.length) = false := by simp; omega
  by_cases h2 : 20 < m.v.l.length
  ·have d2 : decide ((20 : Int) < m.v.l.length) = true := by simp; omega
   have hP : lightP m = false := by unfold lightP; rw [decide_eq_true h2]; simp
   rw [hP]
   go_enter Tryz.func6, Tryz.ntmps6
   go_wp2
   go_ret
   exact ⟨rfl, by (repeat' (first | with_reducible (first | exact Below.refl _ _ | refine Below.ext ?_ ?_ _ | refine Below.alloc ?_ ?_ _ | refine Below.setCell ?_ ?_ _ | refine Below.drew ?_ | assumption) | (simp [World.size_ext]; done) | (simp [World.size_ext]; omega)))⟩
  ·have d2 : decide ((20 : Int) < m.v.l.length) = false := by simp; omega
   have hP : lightP m = m.log.all fun x => decide (x.t.length ≤ 200) := by unfold lightP; rw [decide_eq_false h1, decide_eq_false h2]; simp
   rw [hP]
   clear hP
   go_enter Tryz.func6, Tryz.ntmps6
   go_wp2
   go_loopw [19] (fun vi wr => ∃ j : Nat, j ≤ m.log.length ∧ vi = .int .i64 (j : Int) ∧ (∀ x ∈ m.log.take j, x.t.length ≤ 200) ∧ Below w.heap.size w wr) (fun vi _ => ((m.log.length : Int) - intOf vi).toNat)
   case atStart => exact ⟨0, by omega, rfl, by simp, hb0⟩
   case round =>
    obtain ⟨j, hj, rfl, hall, hb⟩ := hrel
    obtain ⟨wo, rfl⟩ : ∃ wo : World, wo = wr := ⟨_, rfl⟩
    have hso := hb.size
    by_cases hlt : j < m.log.length
    ·have hlj : (j : Int) < m.log.length := by omega
     obtain ⟨⟨ms, hms, hr, hm⟩, _, _⟩ := hE.kp (Kp.of_below hb)
     have hml : ms.length = m.log.length := by rw [← hms, List.length_map]
     obtain ⟨b, o, rfl, hbl, hcc⟩ := hr.plain (by omega) (by omega)
     have hg : ms[j]? = some ms[j] := List.getElem?_eq_getElem (by omega)
     have hx : m.log[j]? = some ms[j].x := by rw [← hms, List.getElem?_map, hg]; rfl
     have m1 := hcc _ _ (emV_get hg).1
     have m2 := hcc _ _ (emV_get hg).2
     rw [← Nat.add_assoc] at m2
     have hbs := (hm _ (List.getElem_mem (by omega : j < ms.length))).1
     generalize ms[j] = y at *
     obtain ⟨ya, yv⟩ := y
     obtain ⟨⟨yA, yc, hyv, _, _, _, hyc, hyc2⟩, _⟩ := hbs
     simp only at hyv m2 hx hyc
     subst hyv
     have hxm := List.mem_of_getElem? hx
     have htk : m.log.take (j + 1) = m.log.take j ++ [ya] := by rw [List.take_add_one, hx]; rfl
     clear hr hm hcc hg hms
     by_cases h3 : 200 < ya.t.length
     ·have d3 : decide ((200 : Int) < ya.t.length) = true := by simp; omega
      have hP : (m.log.all fun x => decide (x.t.length ≤ 200)) = false := by
       rw [List.all_eq_false]
       exact ⟨ya, hxm, by simp; omega⟩
      go_wp2
      go_ret
      exact ⟨by first | rfl | (rw [hP]; rfl), (hb.alloc hso _)⟩
     ·have d3 : decide ((200 : Int) < ya.t.length) = false := by simp; omega
      go_wp2_with fail
      go_roundw
      case rel => exact ⟨j + 1, by omega, by go_num, by rw [htk]; exact fun x hx => (List.mem_append.1 hx).elim (hall x) (fun h => by rw [List.mem_singleton.1 h]; omega), hb.alloc hso _⟩
      case measure => simp [intOf]; omega
    ·obtain rfl : j = m.log.length := by omega
     rw [List.take_length] at hall
     have hP : (m.log.all fun x => decide (x.t.length ≤ 200)) = true := by
      rw [List.all_eq_true]
      exact fun x hx => decide_eq_true (hall x hx)
     go_wp2
     go_ret
     exact ⟨by first | rfl | (rw [hP]; rfl), hb⟩
end Go.Proofs.YtjhcgnmibnjocaaGreat
