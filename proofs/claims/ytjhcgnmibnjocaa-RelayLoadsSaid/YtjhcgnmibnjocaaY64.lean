import Derived.Test.YtjhcgnmibnjocaaY63
import Derived.Test.YtjhcgnmibnjocaaY33
/-! The law: what any records tell of a relay, or why nothing, is the document's answer. -/
namespace Go.Proofs.Ytjhcgnmibnjocaa
open Go.RowKit Go.Maps
set_option linter.unusedVariables false
set_option linter.unusedSimpArgs false
attribute [local irreducible] First.wpF
theorem loaded_none {w' : World} {base : Nat} {e : Ending} (h : Loaded none w' base e) : e = .returned (.tuple #[.pointer none, .int .i64 200]) := h
theorem loaded_some {r : Rl} {w' : World} {base : Nat} {e : Ending} (h : Loaded (some r) w' base e) : ∃ g, e = .returned (.tuple #[.pointer (some ⟨g, 0, none⟩), .int .i64 0]) ∧ Rly w' base g (loadedP r) := h
theorem dloaded_none' {w' : World} {T : Nat → Prop} {e : Ending} (h : DLoaded none w' T e) : e = .returned (.tuple #[.agg #[.int .i64 0, .int .i64 0, .int .i64 0, .slice none 0 0, .slice none 0 0, .int .i64 0, .int .i64 0, .slice none 0 0, .bool false], .int .i64 200]) := h
theorem dloaded_some' {r : Rl} {w' : World} {T : Nat → Prop} {e : Ending} (h : DLoaded (some r) w' T e) : ∃ vm vl va, e = .returned (.tuple #[.agg #[.int .i64 (loadedP r).id, .int .i64 (loadedP r).v.e, .int .i64 (loadedP r).v.p, vm, vl, .int .i64 (loadedP r).joined, .int .i64 ((loadedP r).sure : Int), va, .bool (loadedP r).act], .int .i64 0]) ∧ DrW w' T vm vl va (loadedP r) := h
set_option maxRecDepth 100000 in
set_option maxHeartbeats 4000000 in
theorem law_relayLoads (id : Int) (A : Option Addr) (n c : Nat) (l : List (List Nat)) (w : World) (hR : Recs w (fun k => w.heap.size ≤ k) A n l) (hn : n ≤ 140737488355328) :
    Calls Try.prog 6 #[.int .i64 id, .slice A n c] w fun r w' => r = .returned (.bool true) ∧ Below w.heap.size w w' := by
  have hln := hR.len
  go_enter Try.func6, Try.ntmps6
  go_wp2
  go_loopw [5, 14] (fun vc vi wr => ∃ j : Nat, j ≤ n ∧ vi = .int .i64 (j : Int) ∧ vc = .int .i64 (j : Int) ∧ (∀ b ∈ l.take j, b.length ≤ 3000) ∧ Below w.heap.size w wr) (fun _ vi _ => ((n : Int) - intOf vi).toNat)
  case atStart => exact ⟨0, by omega, rfl, rfl, (fun b hb => by cases hb), Below.refl _ _⟩
  case round =>
    obtain ⟨j, hj, rfl, rfl, hbs, hb⟩ := hrel
    obtain ⟨wo, rfl⟩ : ∃ wo : World, wo = wr := ⟨_, rfl⟩
    have hso := hb.size
    have hRo := hR.kp (Kp.of_below hb)
    by_cases hlt : j < n
    · have hlj : (j : Int) < n := by omega
      obtain ⟨b, o, uA, un, uc, bs, rfl, hbl, hg, m1, hB⟩ := hRo.at_ hlt
      have hun : un = bs.length := by
        obtain ⟨A', c', e', _⟩ := hB.ex
        cases e'; rfl
      subst hun
      have htk : ∀ b ∈ l.take (j + 1), b.length ≤ 3000 ∨ b = bs := fun b hb' => by
        rw [List.take_add_one, hg] at hb'
        rcases List.mem_append.1 hb' with h | h
        · exact .inl (hbs b h)
        · simp at h; exact .inr h
      have HT := hide htk
      clear htk hbs hg hRo
      by_cases h30 : (30 : Int) ≤ j
      · have d1 : decide ((30 : Int) ≤ j) = true := decide_eq_true h30
        have d1' : decide (30 ≤ j) = true := decide_eq_true (by omega)
        clear h30
        go_wp2_with (go_at_call 10; (with_reducible refine (rawake_any _).mono ?_); rintro e w4 ⟨rfl, hb4⟩)
        go_ret
        exact ⟨rfl, hb.trans (hb4.mono hso)⟩
      · have d1 : decide ((30 : Int) ≤ j) = false := decide_eq_false h30
        have d1' : decide (30 ≤ j) = false := decide_eq_false (by omega)
        clear h30
        by_cases h3 : 3000 < bs.length
        · have d2 : decide ((3000 : Int) < bs.length) = true := decide_eq_true (by omega)
          have d2' : decide (3000 < bs.length) = true := decide_eq_true h3
          clear h3
          go_wp2_with (go_at_call 10; (with_reducible refine (rawake_any _).mono ?_); rintro e w4 ⟨rfl, hb4⟩)
          go_ret
          exact ⟨rfl, hb.trans (hb4.mono hso)⟩
        · have d2 : decide ((3000 : Int) < bs.length) = false := decide_eq_false (by omega)
          have d2' : decide (3000 < bs.length) = false := decide_eq_false h3
          have H3 := hide h3
          clear h3
          go_wp2
          go_roundw
          case rel =>
            refine ⟨j + 1, by omega, by go_num, by go_num, fun b hb' => ?_, hb⟩
            rcases HT.out b hb' with h | h
            · exact h
            · have := H3.out; rw [h]; omega
          case measure => simp [intOf]; omega
    · obtain rfl : j = n := by omega
      rw [List.take_of_length_le (by omega)] at hbs
      have d0 : decide ((j : Int) < j) = false := by simp
      by_cases hid : 0 ≤ id ∧ id < 8
      · have hL1 := load_any id A j c l wo hid hRo (fun k hk => by omega) (by omega) (fun b hb' => by have := hbs b hb'; omega)
        have hL2 := fun (W : World) (hW : Below w.heap.size w W) => dload_any (T := fun k => k < w.heap.size) id A j c l W hid (hR.kp (Kp.of_below hW)) (fun k hk => by have := hW.size; omega) (by omega) (fun b hb' => by have := hbs b hb'; omega)
        rcases hRS : restores (newP id) l with _ | r
        · rw [hRS] at hL1 hL2
          go_wp2_with (first | (go_at_call 30; (with_reducible refine hL1.mono ?_); rintro e w1 ⟨hb1, hld⟩; obtain rfl := loaded_none hld; have hb01 := hb.trans (hb1.mono hso)) | (go_at_call 31; (with_reducible refine (hL2 _ hb01).mono ?_); rintro e w2 ⟨hb2, hld2⟩; obtain rfl := dloaded_none' hld2; have hb02 := hb01.trans (hb2.mono hb01.size); have hb03 := hb02.alloc hb02.size (.cells #[.int .i64 0, .int .i64 0, .int .i64 0, .slice none 0 0, .slice none 0 0, .int .i64 0, .int .i64 0, .slice none 0 0, .bool false] 71)) | (go_at_call 10; (with_reducible refine (rawake_any _).mono ?_); rintro e w4 ⟨rfl, hb4⟩))
          go_ret
          exact ⟨rfl, hb03.trans (hb4.mono hb03.size)⟩
        · rw [hRS] at hL1 hL2
          go_upto_region 11 with (first | (go_at_call 30; (with_reducible refine hL1.mono ?_); rintro e w1 ⟨hb1, hld⟩; obtain ⟨g, rfl, hRl⟩ := loaded_some hld; have hb01 := hb.trans (hb1.mono hso)) | (go_at_call 31; (with_reducible refine (hL2 _ hb01).mono ?_); rintro e w2 ⟨hb2, hld2⟩; obtain ⟨vm, vl, va, rfl, hD⟩ := dloaded_some' hld2; obtain ⟨Am, cm, Bl, dl, Ca, fa, rfl, rfl, rfl⟩ := hD.sl; have hb02 := hb01.trans (hb2.mono hb01.size)))
          have hX2 := Blk.new w2 71 #[.int .i64 (loadedP r).id, .int .i64 (loadedP r).v.e, .int .i64 (loadedP r).v.p, (.slice Am (loadedP r).v.l.length cm), (.slice Bl (loadedP r).log.length dl), .int .i64 (loadedP r).joined, .int .i64 ((loadedP r).sure : Int), (.slice Ca (loadedP r).acks.length fa), .bool (loadedP r).act]
          have hb0 : Below w2.heap.size w2 (w2.alloc (.cells #[.int .i64 (loadedP r).id, .int .i64 (loadedP r).v.e, .int .i64 (loadedP r).v.p, (.slice Am (loadedP r).v.l.length cm), (.slice Bl (loadedP r).log.length dl), .int .i64 (loadedP r).joined, .int .i64 ((loadedP r).sure : Int), (.slice Ca (loadedP r).acks.length fa), .bool (loadedP r).act] 71)) := Below.alloc (Below.refl _ _) (Nat.le_refl _) _
          refine abstr (fun W => Below w.heap.size w W ∧ Blk W w2.heap.size 71 #[.int .i64 (loadedP r).id, .int .i64 (loadedP r).v.e, .int .i64 (loadedP r).v.p, (.slice Am (loadedP r).v.l.length cm), (.slice Bl (loadedP r).log.length dl), .int .i64 (loadedP r).joined, .int .i64 ((loadedP r).sure : Int), (.slice Ca (loadedP r).acks.length fa), .bool (loadedP r).act] ∧ DrW W (fun k => k < w.heap.size) (.slice Am (loadedP r).v.l.length cm) (.slice Bl (loadedP r).log.length dl) (.slice Ca (loadedP r).acks.length fa) (loadedP r) ∧ Rly W wo.heap.size g (loadedP r)) ⟨hb02.trans (hb0.mono hb02.size), hX2, hD.kp (Kp.of_below hb0), (hRl.below hb2).below hb0⟩ (fun W hW => ?_)
          clear hX2 hb0 hD hRl hb02 hb2 hb01 hb1 hld hld2 hL1 hL2 hRS
          obtain ⟨hb3, hX3, hD3, hR3⟩ := hW
          generalize w2.heap.size = px at *
          generalize loadedP r = r1 at *
          go_wp2_with (first | (go_at_call 10; (with_reducible refine (rawake_any _).mono ?_); rintro e w4 ⟨rfl, hb4⟩; have hX4 := hX3.below hb4 hX3.lt; have c4 := hX4.cell; have l4 := hX4.lt; obtain ⟨S4, T4, hW4, _⟩ := hR3.below hb4; have hb04 := hb3.trans (hb4.mono hb3.size); have hsm := lsame_any r1 g _ _ _ w4 hW4 (hD3.kp (Kp.of_below hb4)) (fun k hk => by have := hb04.size; omega)) | (go_at_call 32; (with_reducible refine hsm.mono ?_); rintro e w5 ⟨rfl, hb5⟩))
          go_ret
          exact ⟨rfl, hb04.trans (hb5.mono hb04.size)⟩
      · have hL1 := fun (W : World) (hW : Below w.heap.size w W) => load_no id A j c W hid
        have hL2 := fun (W : World) (hW : Below w.heap.size w W) => dload_no id A j c W hid
        go_wp2_with (first | (go_at_call 30; (with_reducible refine (hL1 _ hb).mono ?_); rintro e w1 ⟨rfl, hb1⟩; have hb01 := hb.trans (hb1.mono hso)) | (go_at_call 31; (with_reducible refine (hL2 _ hb01).mono ?_); rintro e w2 ⟨rfl, hb2⟩; have hb02 := hb01.trans (hb2.mono hb01.size); have hX := Blk.new w2 71 #[.int .i64 0, .int .i64 0, .int .i64 0, .slice none 0 0, .slice none 0 0, .int .i64 0, .int .i64 0, .slice none 0 0, .bool false]; have hb03 := hb02.alloc hb02.size (.cells #[.int .i64 0, .int .i64 0, .int .i64 0, .slice none 0 0, .slice none 0 0, .int .i64 0, .int .i64 0, .slice none 0 0, .bool false] 71)) | (go_at_call 10; (with_reducible refine (rawake_any _).mono ?_); rintro e w4 ⟨rfl, hb4⟩))
        go_ret
        exact ⟨rfl, hb03.trans (hb4.mono hb03.size)⟩
section
open Go.ChangeShapes Go.WideShapes Go.ChangeAt
variable {H : Type} {enc : TypeId × Value → H}
set_option maxRecDepth 100000 in
theorem recs_open {W : World} {base : Nat} {d : DataW H} {p : List MemPlace} {v : Value} (hv : Value.okWide Try.prog W .any base 42 v) (h : DataW.Trod enc Try.prog W 0 (fun _ => true) true 42 v d p) (hw : ∀ z ∈ d.weights Try.prog 42, z ≤ reachBytes) :
    ∃ A n c l, v = .slice A n c ∧ Recs W (fun k => W.heap.size ≤ k) A n l ∧ n ≤ 140737488355328 := by
  obtain ⟨A, n, c, rfl⟩ := okWide_slice Try.underlying42 hv
  obtain ⟨fuel, hf⟩ := h
  have : Inhabited (List Nat × Value) := ⟨([], .slice none 0 0)⟩
  obtain ⟨A', n', c', l, hcs, h1, h2, _, h3, h4, h5, h6⟩ := slice_trod (f := fun q : List Nat × Value => [q.2]) (k := 1) (ok := fun q => Bsl W (fun k => W.heap.size ≤ k) q.2 q.1) (by omega) (fun _ => rfl) Try.underlying42 (by kernel_rfl)
    (fun cs y n h hw => by
      obtain ⟨v, t, e, hB, _⟩ := bsl_open h hw
      exact ⟨(t, v), e, hB⟩) hf hw
  simp [Value.cells] at hcs
  obtain ⟨rfl, rfl, rfl⟩ := hcs
  rw [show Try.prog.bytesOf 32 = 24 by kernel_rfl] at h6
  have hrow : ∀ l : List (List Nat × Value), rowsV (fun q : List Nat × Value => [q.2]) l = l.map Prod.snd := fun l => by
    induction l with
    | nil => rfl
    | cons x l ih =>
      simp only [rowsV, List.flatMap_cons, List.map_cons] at *
      rw [ih]; rfl
  rw [hrow] at h3
  refine ⟨_, _, _, l.map Prod.fst, rfl, ⟨⟨l, rfl, h3, h4⟩, by rw [List.length_map]; exact h5, fun h0 a ha ht => ?_⟩, by omega⟩
  obtain ⟨a', e', hlt, _⟩ := h3.2 h0
  rw [ha] at e'; cases e'
  omega
set_option maxRecDepth 100000 in
theorem relayLoads_walk : LawWalkS enc Try.prog 6 Try.f6 := by
  intro W base args ds ps hval hA hlt _ hs
  rw [Try.params6] at hA hval hs
  obtain ⟨v0, v1, d0, d1, p0, p1, rfl, rfl, rfl, h0, h1⟩ := trodAll_two hA
  obtain ⟨id, rfl, _, _, _⟩ := open_int Try.underlying3 (hval 0 _ v0 rfl rfl) h0
  obtain ⟨A, n, c, l, rfl, hR, hn⟩ := recs_open (hval 1 _ v1 rfl rfl) h1 (weights_at hs (j := 1) rfl rfl)
  exact law_relayLoads id A n c l W hR hn
set_option maxRecDepth 100000 in
theorem relayLoads_lifted (os : Os) (started : os.Started) (H : Type) (enc : TypeId × Value → H) :
    ReturnsInHanded {} Try.checked os 6 .any (Rows.relayLoadsSpec.pre6 enc Try.prog Try.f6 Rows.relayLoadsRow.domain false) (Rows.relayLoadsSpec.post enc Try.prog Try.f6 false true false false) :=
  law_lifted_sized (C := Try.checked) own started (by kernel_rfl) Try.func6 laidOut (by kernel_rfl) rfl Try.underlying4 rfl rfl
    (fun ds h => by obtain ⟨d0, d1, rfl⟩ := list2 h; rfl)
    (ChangeSpec.witness6 (enc := enc) (C := Try.checked) false ⟨#[], #[.int .i64 0, .slice none 0 0], []⟩ 8 (by kernel_rfl) (by kernel_rfl) (by kernel_rfl) (by kernel_rfl))
    relayLoads_walk
theorem relayLoads_holds : Rows.RelayLoadsSaid :=
  OpenClaim.holds_of_wide 6 Try.f6 rfl rfl rfl rfl rfl rfl rfl ⟨rfl, rfl, rfl, rfl, rfl⟩ rfl rfl rfl rfl rfl (by kernel_rfl) Try.func6 (by kernel_rfl)
    (of_decide_eq_true (by kernel_rfl)) (by unfold Func.isWrapper; rw [if_neg (of_decide_eq_false (by kernel_rfl))]; exact ⟨rfl, rfl⟩)
    (fun os started H enc _ => relayLoads_lifted os started H enc)
#print axioms relayLoads_holds
end
end Go.Proofs.Ytjhcgnmibnjocaa
