import Derived.Test.YtjhcgnmibnjocaaGreatY16
import Derived.Test.YtjhcgnmibnjocaaGreatGA
import Derived.Deep.DeepCutAuto
/-! What a relay tells: its view; ticks. -/
namespace Go.Proofs.YtjhcgnmibnjocaaGreat
open Go.RowKit Go.Maps
set_option linter.unusedVariables false
set_option linter.unusedSimpArgs false
set_option maxHeartbeats 2000000 in
theorem rview_any {S T : Nat → Prop} {g : Nat} {r : Rl} {Am : Option Addr} {cm : Nat} {vl : Value} {mb : Nat} (w : World) (h : RelX w S T g r Am cm vl mb) (hok : r.ok) :
  Calls Tryz.prog 45 #[.pointer (some ⟨g, 0, none⟩)] w fun e w' => (∃ v, e = .returned (.agg #[.int .i64 r.v.e, .int .i64 r.v.p, v]) ∧ w'.ownsRow w.heap.size 3 1 v r.v.l.length (ints r.v.l)) ∧ Below w.heap.size w w' := by
 have hm := hok.mem
 have c0 := h.blk.cell
 have l0 := h.blk.lt
 have hcl := fun o1 o2 => clone_any Am r.v.l.length cm r.v.l ((w.alloc o1).alloc o2) (((h.rd.alloc (Nat.le_refl _) o1).alloc (by simp) o2).more (by simp; omega)) (by omega)
 have hR := fun o => Blk.made w o 44 #[.int .i64 r.v.e, .int .i64 r.v.p, .slice Am r.v.l.length cm]
 have hZ := Blk.new w 44 #[.int .i64 0, .int .i64 0, .slice none 0 0]
 go_enter Tryz.func45, Tryz.ntmps45
 go_wp2_with ((go_at_call 65; (with_reducible refine (hcl _ _).mono ?_); rintro e w1 ⟨⟨v, rfl, ho⟩, hb1⟩; obtain ⟨A1, cap, rfl, hcap⟩ := own_sl ho; obtain ⟨X, rfl⟩ := World.ext_of_below hb1; clear hb1))
 refine bodyPost_cell Tryz.results45 rfl (Blk.three (Blk.far (Blk.ext (hZ.alloc _) X) (by simp) _)) Tryz.underlying44 rfl (by kernel_rfl) rfl ⟨⟨_, rfl, ?_⟩, by (repeat' (first | with_reducible (first | exact Below.refl _ _ | refine Below.ext ?_ ?_ _ | refine Below.alloc ?_ ?_ _ | refine Below.setCell ?_ ?_ _ | refine Below.drew ?_ | assumption) | (simp [World.size_ext]; done) | (simp [World.size_ext]; omega)))⟩
 exact own_low (own_set (own_set (own_set (own_set ho (by first | (simp; done) | (simp; omega)) _) (by first | (simp; done) | (simp; omega)) _) (by first | (simp; done) | (simp; omega)) _) (by first | (simp; done) | (simp; omega)) _) (by first | (simp; done) | (simp; omega))
theorem rlen_any {S T : Nat → Prop} {g : Nat} {r : Rl} {Am : Option Addr} {cm : Nat} {vl : Value} {mb : Nat} (w : World) (h : RelX w S T g r Am cm vl mb) :
  Calls Tryz.prog 57 #[.pointer (some ⟨g, 0, none⟩)] w fun e w' => e = .returned (.int .i64 (r.log.length : Int)) ∧ w' = w := by
 obtain ⟨ms, _, hown, _⟩ := id h.own
 obtain ⟨Al, cl, hvl, hcl⟩ := own_sl hown
 clear hown
 subst hvl
 have c0 := h.blk.cell
 have l0 := h.blk.lt
 clear h
 go_enter Tryz.func57, Tryz.ntmps57
 go_wp2
 go_ret
 exact ⟨rfl, rfl⟩
theorem ships_more {r : Rl} {n : Int} {k t : Nat} (h : r.log.length ≤ k + t) : ∀ u, t ≤ u → shipsP r n k u = shipsP r n k t
 | 0, hu => by
  obtain rfl : t = 0 := by omega
  rfl
 | u + 1, hu => by
  rcases Nat.lt_or_ge u t with h' | h'
  ·obtain rfl : t = u + 1 := by omega
   rfl
  ·have e : shipsP r n k (u + 1) = shipsP r n k u ++ (match r.log[k + u]? with | some x => [⟨n, ⟨2, r.v.e, Vi.none, (k + u + 1 : Nat), r.sure, [x]⟩⟩] | .none => []) := rfl
   rw [e, List.getElem?_eq_none (by omega), ships_more h u h', List.append_nil]
theorem ships_next {r : Rl} {n : Int} {k t : Nat} {x : Ent} (h : r.log[k + t]? = some x) : shipsP r n k (t + 1) = shipsP r n k t ++ [⟨n, ⟨2, r.v.e, Vi.none, (k + t + 1 : Nat), r.sure, [x]⟩⟩] := by
 show shipsP r n k t ++ _ = _
 rw [h]
theorem ships_len (r : Rl) (n : Int) (k : Nat) : ∀ t, (shipsP r n k t).length ≤ t
 | 0 => Nat.le_refl _
 | t + 1 => by
  unfold shipsP
  rw [List.length_append]
  have := ships_len r n k t
  split <;> simp <;> omega
theorem wp_region_tree_below (B : Nat) {P : Program} {id : Nat} {Q : Exit → Act → World → Prop} {a : Act} {w : World} {l : List Oper} (Vs Ps : List Nat) (t : First.Tr) (hm : P.follows .mixedOrders = true)
  (hB : (Region.noSelect l.toArray && decide (t.fuel = l.length) && t.okB .any l.toArray Vs Ps (Array.replicate l.length false)) = true)
  (h : ∀ X, First.wpT P l.toArray (fun w w' => Below B w w') (Q .normal) (fun k => l.getD k default) t a (w.ext X)) : (Code.region id l.toArray true).wp P Q a w := by
 have hw₁ : ({ w with drawn := w.drawn + 1 } : World) = w.ext ⟨#[], w.drawn + 1⟩ := by simp [World.ext]
 exact First.wp_region_tree _ (fun w => Below.refl B w) (fun w w' w'' h h' => h.trans h') Vs Ps t hm hB (hw₁ ▸ h _)
theorem MgW.made {w : World} {T : Nat → Prop} {b1 b2 : Nat} {A B : Option Addr} {c d : Nat} {m : Mg} (h1 : w.ownsRow b1 3 1 (.slice A m.v.l.length c) m.v.l.length (ints m.v.l)) (h2 : OwnE w (Old b2 (.slice B m.log.length d)) b2 (.slice B m.log.length d) m.log) (hT1 : ∀ k, T k → k < b1) (hT2 : ∀ k, T k → k < b2) : MgW w T (.slice A m.v.l.length c) (.slice B m.log.length d) m :=
 ⟨⟨A, c, rfl, Reads.of_own h1, fun h0 a ha ht => by have := (own_addr h1 a ha).1; have := hT1 _ ht; omega⟩, B, d, rfl, h2.ents rfl hT2 (fun k hk => .inl (hT2 k hk))⟩
theorem OwnE.below {w w' : World} {T : Nat → Prop} {base : Nat} {v : Value} {l : List Ent} (h : OwnE w T base v l) (hb : Below w.heap.size w w') : OwnE w' T base v l := h.keep (Kp.of_below hb) (fun k _ hl => hb.block k hl)
end Go.Proofs.YtjhcgnmibnjocaaGreat
