import Derived.Test.YtjhcgnmibnjocaaGreatY50
/-! A relay's log, one entry of it. -/
namespace Go.Proofs.YtjhcgnmibnjocaaGreat
open Go.RowKit Go.Maps
set_option linter.unusedVariables false
set_option linter.unusedSimpArgs false
attribute [local irreducible] First.wpF
theorem ownE_one {w : World} {base c : Nat} {A : Option Addr} {x : Ent} (h : OwnE w (Old base (.slice A 1 c)) base (.slice A 1 c) [x]) :
  ∃ (b : Nat) (m : Em), A = some ⟨b, 0, none⟩ ∧ m.x = x ∧ x.ok ∧ Bsl w (Old base (.slice A 1 c)) m.v x.t ∧ w.cell? ⟨b, 0, none⟩ = some (.int .i64 x.e) ∧ w.cell? ⟨b, 1, none⟩ = some m.v ∧ base ≤ b ∧ b < w.heap.size := by
 obtain ⟨ms, hms, ho, hE⟩ := h
 obtain ⟨m, rfl⟩ : ∃ m, ms = [m] := by
  cases ms with
  | nil => cases hms
  | cons a l =>
   cases l with
   | nil => exact ⟨a, rfl⟩
   | cons b l => cases hms
 simp only [List.map_cons, List.map_nil, List.cons.injEq, and_true] at hms
 have hone : [x].length = 1 := rfl
 rw [hone] at ho
 obtain ⟨b, rfl⟩ := own_some ho (show 0 < 1 by omega)
 obtain ⟨hB, hok⟩ := hE m (by simp)
 obtain ⟨q1, _, ql⟩ := own_cellE ho (emV_get (ms := [m]) (i := 0) (m := m) rfl).1
 obtain ⟨q2, _, _⟩ := own_cellE ho (emV_get (ms := [m]) (i := 0) (m := m) rfl).2
 rw [hms] at q1 hB hok
 simp only [Nat.zero_mul, Nat.zero_add] at q1 q2
 exact ⟨b, m, rfl, hms, hok, hB, q1, q2, (own_addr ho _ rfl).1, ql⟩
set_option maxRecDepth 100000 in
set_option maxHeartbeats 4000000 in
theorem rlog_any {S T : Nat → Prop} {g : Nat} {r : Rl} (w : World) (h : RelW w S T g r) :
  Calls Tryz.prog 62 #[.pointer (some ⟨g, 0, none⟩)] w fun e w' => ∃ A1 c1, e = .returned (.slice A1 r.log.length c1) ∧ OwnE w' (Old w.heap.size (.slice A1 r.log.length c1)) w.heap.size (.slice A1 r.log.length c1) r.log ∧ Below w.heap.size w w' := by
 obtain ⟨hok, Am, cm, vl, mb, hX⟩ := h
 have hXo := hX.own
 obtain ⟨ms0, _, hown0, _⟩ := hXo
 obtain ⟨Al, cl, hvl, _⟩ := own_sl hown0
 clear hown0
 subst hvl
 have htw := twins_any Al r.log.length cl r.log w hX.ents hok.n
 have c0 := hX.blk.cell
 have l0 := hX.blk.lt
 go_enter Tryz.func62, Tryz.ntmps62
 go_wp2_with (go_at_call 36; (with_reducible refine htw.mono ?_); rintro e w2 ⟨A3, c3, rfl, hO3, hb3⟩)
 go_ret
 exact ⟨A3, c3, rfl, hO3, hb3⟩
set_option maxRecDepth 100000 in
set_option maxHeartbeats 4000000 in
theorem rentry_no {S T : Nat → Prop} {g : Nat} {r : Rl} (i : Int) (w : World) (h : RelW w S T g r) (hi : i < 0 ∨ (r.log.length : Int) ≤ i) :
  Calls Tryz.prog 56 #[.pointer (some ⟨g, 0, none⟩), .int .i64 i] w fun e w' => e = .returned (.tuple #[.agg #[.int .i64 0, .slice none 0 0], .bool false]) ∧ Below w.heap.size w w' := by
 obtain ⟨hok, Am, cm, vl, mb, hX⟩ := h
 have hXo := hX.own
 obtain ⟨ms0, _, hown0, _⟩ := hXo
 obtain ⟨Al, cl, hvl, _⟩ := own_sl hown0
 clear hown0
 subst hvl
 have c0 := hX.blk.cell
 have l0 := hX.blk.lt
 have hZ := Blk.new w 65 #[.int .i64 0, .slice none 0 0]
 rcases hi with hi | hi
 ·have d0 : decide (i < 0) = true := by simpa using hi
  clear hi
  go_enter Tryz.func56, Tryz.ntmps56
  go_wp2
  refine bodyPost_cell_tmp Tryz.results56 rfl hZ Tryz.underlying65 rfl (by kernel_rfl) rfl ⟨rfl, ?_⟩
  (repeat' (first | with_reducible (first | exact Below.refl _ _ | refine Below.ext ?_ ?_ _ | refine Below.alloc ?_ ?_ _ | refine Below.setCell ?_ ?_ _ | refine Below.drew ?_ | assumption) | (simp [World.size_ext]; done) | (simp [World.size_ext]; omega)))
 ·have d0 : decide (i < 0) = false := by simp; omega
  have d1 : decide ((r.log.length : Int) ≤ i) = true := by simpa using hi
  clear hi
  go_enter Tryz.func56, Tryz.ntmps56
  go_wp2
  refine bodyPost_cell_tmp Tryz.results56 rfl hZ Tryz.underlying65 rfl (by kernel_rfl) rfl ⟨rfl, ?_⟩
  (repeat' (first | with_reducible (first | exact Below.refl _ _ | refine Below.ext ?_ ?_ _ | refine Below.alloc ?_ ?_ _ | refine Below.setCell ?_ ?_ _ | refine Below.drew ?_ | assumption) | (simp [World.size_ext]; done) | (simp [World.size_ext]; omega)))
set_option maxRecDepth 100000 in
set_option maxHeartbeats 4000000 in
theorem rentry_yes {S T : Nat → Prop} {g : Nat} {r : Rl} (k : Nat) (x : Ent) (w : World) (h : RelW w S T g r) (hk : r.log[k]? = some x) :
  Calls Tryz.prog 56 #[.pointer (some ⟨g, 0, none⟩), .int .i64 (k : Int)] w fun e w' => ∃ u, e = .returned (.tuple #[.agg #[.int .i64 x.e, u], .bool true]) ∧ Bsl w' (fun k => k < w.heap.size) u x.t ∧ Below w.heap.size w w' := by
 obtain ⟨hok, Am, cm, vl, mb, hX⟩ := h
 have hkl : k < r.log.length := (List.getElem?_eq_some_iff.1 hk).1
 have hXo := hX.own
 obtain ⟨ms0, _, hown0, _⟩ := hXo
 obtain ⟨Al, cl, hvl, hcl⟩ := own_sl hown0
 subst hvl
 obtain ⟨bl, hbl⟩ := own_some hown0 (by omega)
 clear hown0
 subst hbl
 have c0 := hX.blk.cell
 have l0 := hX.blk.lt
 have hZ := Blk.new w 65 #[.int .i64 0, .slice none 0 0]
 have d0 : decide ((k : Int) < 0) = false := by simp
 have d1 : decide ((r.log.length : Int) ≤ k) = false := by simp; omega
 have d1' : decide (r.log.length ≤ k) = false := by simp; omega
 have hn := hok.n
 have hwr : IntKind.i64.wrap ((k : Int) + 1) = (k : Int) + 1 := IntWalk.i64_in _ (by omega)
 have zi : (0 : Int) ≤ k := by omega
 have zj : (k : Int) ≤ k + 1 := by omega
 have zc : (k : Int) + 1 ≤ cl := by omega
 have hE0 := hX.ents.part hk
 rw [Nat.zero_add] at hE0
 have hbA : Below w.heap.size w (w.alloc (.cells #[.int .i64 0, .slice none 0 0] 65)) := Below.alloc (Below.refl _ _) (Nat.le_refl _) _
 have htw := twins_any (some ⟨bl, k * 2, none⟩) 1 (cl - k) [x] _ (hE0.kp (Kp.of_below hbA)) (by omega)
 go_enter Tryz.func56, Tryz.ntmps56
 go_wp2_with (go_at_call 36; (with_reducible refine htw.mono ?_); rintro e w2 ⟨A3, c3, rfl, hO3, hb2⟩; obtain ⟨b3, m3, hA3, hms3, hok3, hB3, q1, q2, hb3n, hl3⟩ := ownE_one hO3; subst hA3; obtain ⟨a4, n4, c4, hv4⟩ := hB3.sl; rw [hv4] at q2; have hZ2 := hZ.below hb2 hZ.lt; have cZ := hZ2.cell; have fZ := hZ2.frozen; have lZ := hZ2.lt)
 have hs2 := hb2.size
 simp only [World.size_alloc] at hs2
 refine bodyPost_cell_tmp Tryz.results56 rfl (Blk.two hZ2) Tryz.underlying65 rfl (by kernel_rfl) rfl ⟨_, rfl, ?_, ?_⟩
 ·rw [hv4] at hB3
  have h0 := hB3.sub (T' := fun k => k < w.heap.size + 1) (fun k _ hk => .inl (by simp; exact hk))
  exact (h0.kp (((Kp.put w2 w.heap.size 0 _).trans (Kp.put _ w.heap.size 1 _)).weaken (fun k hk => by omega))).sub fun k _ hk => by omega
 ·exact (hbA.trans (hb2.mono (by simp))).trans (Kp.below ((Kp.put w2 w.heap.size 0 _).trans (Kp.put _ w.heap.size 1 _)) (by omega) (fun k hk => by omega))
end Go.Proofs.YtjhcgnmibnjocaaGreat
