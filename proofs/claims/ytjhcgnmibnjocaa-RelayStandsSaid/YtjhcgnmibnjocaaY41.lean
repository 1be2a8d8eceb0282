import Derived.Test.YtjhcgnmibnjocaaY40
import Derived.Test.YtjhcgnmibnjocaaY8
import Derived.Test.YtjhcgnmibnjocaaY17
/-! A message's bytes: the program's. -/
namespace Go.Proofs.Ytjhcgnmibnjocaa
open Go.RowKit Go.Maps
set_option linter.unusedVariables false
set_option linter.unusedSimpArgs false
def mgB (m : Mg) : List Nat := numB (zig m.k) ++ (numB (zig m.e) ++ (viewB m.v.e m.v.p m.v.l ++ (numB (zig m.i) ++ (numB (zig m.s) ++ logB m.log))))
/-- A message's numbers. -/
structure Mg.num (m : Mg) : Prop where
  k : I64 m.k
  e : I64 m.e
  v : m.v.ok
  i : I64 m.i
  s : I64 m.s
  vn : m.v.l.length ≤ 20
  ln : m.log.length ≤ 30
theorem viewB_le {e p : Int} {l : List Int} (he : I64 e) (hp : I64 p) (hl : ∀ x ∈ l, I64 x) (hn : l.length ≤ 20) : (viewB e p l).length ≤ 207 := by
  have h1 := numB_le _ (zig_lt _ he)
  have h2 := numB_le _ (zig_lt _ hp)
  have h3 := numB_le l.length (by omega)
  have h4 := tailB_le hl
  simp only [viewB, List.length_append]
  omega
theorem logB_le {l : List Ent} (h : ∀ x ∈ l, x.ok) (hn : l.length ≤ 4096) : (logB l).length ≤ 9 + 262162 * l.length := by
  have h1 := entsB_le h
  have h2 := numB_le l.length (by omega)
  simp only [logB, List.length_append]
  omega
theorem mgB_le {m : Mg} (h : m.num) (hok : ∀ x ∈ m.log, x.ok) : (mgB m).length ≤ 8000000 := by
  have h1 := numB_le _ (zig_lt _ h.k)
  have h2 := numB_le _ (zig_lt _ h.e)
  have h3 := viewB_le h.v.e h.v.p h.v.l h.vn
  have h4 := numB_le _ (zig_lt _ h.i)
  have h5 := numB_le _ (zig_lt _ h.s)
  have h6 := logB_le hok (by have := h.ln; omega)
  have := h.ln
  simp only [mgB, List.length_append]
  omega
theorem reads_wr {w w' : World} {A : Option Addr} {n : Nat} {l : List Int} (h : Reads w w.heap.size 1 A n (ints l)) {base g : Nat} {t : TypeId} {v : Value} {xs : List Nat} (hw : Wrt w' base g t v xs) (hbase : w.heap.size ≤ base) : 0 < n → ∀ a, A = some a → ¬(a.block = g ∨ v.ownBlock = some a.block) := fun h0 a ha hk => by
  obtain ⟨a', e, hb, _⟩ := h.2 h0
  rw [ha] at e; cases e
  rcases hk with hk | hk
  · have := hw.ge; omega
  · have := (hw.row.ge hk).1
    omega
set_option maxRecDepth 100000 in
set_option maxHeartbeats 4000000 in
theorem rencode_any {T : Nat → Prop} (m : Mg) (vm vl : Value) (w : World) (h : MgW w T vm vl m) (hm : m.num) :
    Calls Try.prog 26 #[.agg #[.int .i64 m.k, .int .i64 m.e, .int .i64 m.v.e, .int .i64 m.v.p, vm, .int .i64 m.i, .int .i64 m.s, vl]] w fun o w' => ∃ u, o = .returned u ∧ Row w' w.heap.size u (mgB m) ∧ Below w.heap.size w w' := by
  obtain ⟨Av, cv, Bv, dv, rfl, rfl, hrm, _, hEm⟩ := h.sl
  have hok := hEm.okAll
  have h1 := numB_le _ (zig_lt _ hm.k)
  have h2 := numB_le _ (zig_lt _ hm.e)
  have h3 := viewB_le hm.v.e hm.v.p hm.v.l hm.vn
  have h4 := numB_le _ (zig_lt _ hm.i)
  have h5 := numB_le _ (zig_lt _ hm.s)
  have h6 := logB_le hok (by have := hm.ln; omega)
  have hln := hm.ln
  have hvn := hm.vn
  have hP := Blk.new w 54 #[.int .i64 m.k, .int .i64 m.e, .int .i64 m.v.e, .int .i64 m.v.p, (.slice Av m.v.l.length cv), .int .i64 m.i, .int .i64 m.s, (.slice Bv m.log.length dv)]
  have hb0 : Below w.heap.size w (w.alloc (.cells #[.int .i64 m.k, .int .i64 m.e, .int .i64 m.v.e, .int .i64 m.v.p, (.slice Av m.v.l.length cv), .int .i64 m.i, .int .i64 m.s, (.slice Bv m.log.length dv)] 54)) := Below.alloc (Below.refl _ _) (Nat.le_refl _) _
  have hI1 := fun base g v W (hw : Wrt W base g 166 v []) => int_any base g v [] m.k W hw hm.k (by simp)
  simp only [List.nil_append] at hI1
  go_enter Try.func26, Try.ntmps26
  go_wp2_with (first | (go_at_call 64; (with_reducible refine (new_any _).mono ?_); rintro r w1 ⟨rfl, hw1, hb1⟩; (simp only [World.size_alloc] at hw1); have hb01 := hb0.trans (hb1.mono (by simp)); have hP1 := hP.below hb1 (by simp); have cP1 := hP1.cell; have lP1 := hP1.lt; have hz1 := hb01.size) | (go_at_call 65; (with_reducible refine (hI1 _ _ _ _ hw1).mono ?_); rintro r w2 ⟨rfl, v2, hw2, hc2⟩; have hb2 := hc2.below hw1; have hb02 := hb01.trans (hb2.mono (by omega)); have hP2 := hP1.below hb2 (by omega); have cP2 := hP2.cell; have lP2 := hP2.lt) | (go_at_call 65; (with_reducible refine (int_any _ _ _ _ m.e _ hw2 hm.e (by omega)).mono ?_); rintro r w3 ⟨rfl, v3, hw3, hc3⟩; have hb3 := hc3.below hw2; have hb03 := hb02.trans (hb3.mono (by omega)); have hP3 := hP2.below hb3 (by omega); have cP3 := hP3.cell; have lP3 := hP3.lt; have hrd := Reads.kp hrm (Kp.of_below (S := fun _ => False) hb03) (fun _ _ _ h => h)) | (go_at_call 66; (with_reducible refine (vput_any _ _ _ _ m.v.e m.v.p Av _ cv m.v.l _ hw3 hrd (reads_wr hrm hw3 (by omega)) hm.v.e hm.v.p hm.v.l (by omega) (by simp only [List.length_append]; omega)).mono ?_); rintro r w4 ⟨rfl, v4, hw4, hc4⟩; have hb4 := hc4.below hw3; have hb04 := hb03.trans (hb4.mono (by omega)); have hP4 := hP3.below hb4 (by omega); have cP4 := hP4.cell; have lP4 := hP4.lt) | (go_at_call 65; (with_reducible refine (int_any _ _ _ _ m.i _ hw4 hm.i (by simp only [List.length_append]; omega)).mono ?_); rintro r w5 ⟨rfl, v5, hw5, hc5⟩; have hb5 := hc5.below hw4; have hb05 := hb04.trans (hb5.mono (by omega)); have hP5 := hP4.below hb5 (by omega); have cP5 := hP5.cell; have lP5 := hP5.lt) | (go_at_call 65; (with_reducible refine (int_any _ _ _ _ m.s _ hw5 hm.s (by simp only [List.length_append]; omega)).mono ?_); rintro r w6 ⟨rfl, v6, hw6, hc6⟩; have hb6 := hc6.below hw5; have hb06 := hb05.trans (hb6.mono (by omega)); have hP6 := hP5.below hb6 (by omega); have cP6 := hP6.cell; have lP6 := hP6.lt) | (go_at_call 67; (with_reducible refine (putLog_any _ _ _ _ Bv _ dv m.log _ hw6 (hEm.wr hb06 hw6 (by omega)) (by omega) (by simp only [List.length_append]; omega)).mono ?_); rintro r w7 ⟨rfl, v7, hw7, hc7⟩; have hb07 := hb06.trans ((hc7.below hw6).mono (by omega))) | (go_at_call 68; (with_reducible refine (bytes_any _ _ _ _ _ hw7 (by simp only [List.length_append]; omega)).mono ?_); rintro r w8 ⟨u, rfl, hu, hb8⟩; have hs7 := hb07.size))
  refine bodyPost_ret (v := u) (by simp [results, Try.results26, go_sem] <;> rfl) rfl ⟨u, rfl, ?_, hb07.trans (hb8.mono hs7)⟩
  have := hu.base hs7
  simpa [mgB, List.append_assoc] using this
end Go.Proofs.Ytjhcgnmibnjocaa
