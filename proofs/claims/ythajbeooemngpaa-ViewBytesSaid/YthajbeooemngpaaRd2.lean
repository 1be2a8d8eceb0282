import Derived.Test.YthajbeooemngpaaRd
import Derived.Test.YthajbeooemngpaaGet
import Derived.Outline
/-! The wire's reader: a number. -/
namespace Go.Proofs.Ythajbeooemngpaa
open Go.RowKit
set_option linter.unusedVariables false
set_option linter.unusedSimpArgs false
def numP (r : Rest) : Nat × Rest :=
  match (takeP 1 r).1 with
  | [] => (0, (takeP 1 r).2)
  | c :: _ => if c < 248 then (c, (takeP 1 r).2) else
    if (takeP (c - 247) (takeP 1 r).2).1 = [] then (0, (takeP (c - 247) (takeP 1 r).2).2) else
    if num (takeP (c - 247) (takeP 1 r).2).1 < 248 ∨ longN (num (takeP (c - 247) (takeP 1 r).2).1) ≠ c - 247 then (0, failP 10 (takeP (c - 247) (takeP 1 r).2).2) else (num (takeP (c - 247) (takeP 1 r).2).1, (takeP (c - 247) (takeP 1 r).2).2)
theorem takeP_err {n : Nat} {r : Rest} (h : r.e ≠ 0) : takeP n r = ([], r) := by unfold takeP; rw [if_pos h]
theorem takeP_short {n : Nat} {xs : List Nat} (h : xs.length < n) : takeP n ⟨xs, 0⟩ = ([], ⟨[], 9⟩) := by unfold takeP; rw [if_neg (by simp), if_pos h]
theorem takeP_ok {n : Nat} {xs : List Nat} (h : n ≤ xs.length) : takeP n ⟨xs, 0⟩ = (xs.take n, ⟨xs.drop n, 0⟩) := by unfold takeP; rw [if_neg (by simp), if_neg (by simp only; omega)]
theorem numP_err {r : Rest} (h : r.e ≠ 0) : numP r = (0, r) := by unfold numP; simp [takeP_err h]
theorem numP_short : numP ⟨[], 0⟩ = (0, ⟨[], 9⟩) := by unfold numP; rw [takeP_short (by simp)]
theorem takeP_cons (x : Nat) (t : List Nat) : takeP 1 ⟨x :: t, 0⟩ = ([x], ⟨t, 0⟩) := by rw [takeP_ok (by simp)]; rfl
theorem numP_low {x : Nat} (t : List Nat) (h : x < 248) : numP ⟨x :: t, 0⟩ = (x, ⟨t, 0⟩) := by unfold numP; simp [takeP_cons, h]
theorem numP_short2 {x : Nat} {t : List Nat} (h : ¬x < 248) (hl : t.length < x - 247) : numP ⟨x :: t, 0⟩ = (0, ⟨[], 9⟩) := by
  unfold numP
  simp only [takeP_cons]
  rw [if_neg h, takeP_short hl, if_pos rfl]
theorem numP_long {x : Nat} {t : List Nat} (h : ¬x < 248) (hl : x - 247 ≤ t.length) : numP ⟨x :: t, 0⟩ =
    if num (t.take (x - 247)) < 248 ∨ longN (num (t.take (x - 247))) ≠ x - 247 then (0, ⟨[], 10⟩) else (num (t.take (x - 247)), ⟨t.drop (x - 247), 0⟩) := by
  unfold numP
  simp only [takeP_cons]
  rw [if_neg h]
  have hk : 0 < x - 247 := by omega
  generalize x - 247 = k at *
  have hne : ¬t.take k = [] := fun e => by
    have h1 : (t.take k).length = 0 := by rw [e]; rfl
    rw [List.length_take] at h1
    omega
  rw [takeP_ok hl, if_neg hne]
  have e1 : failP 10 ⟨t.drop k, 0⟩ = ⟨[], 10⟩ := by unfold failP; rw [if_pos rfl]
  rw [e1]
set_option maxRecDepth 100000 in
theorem or_u64_8 (m x : Nat) (hm : m < 72057594037927936) (hx : x < 256) : bits .or .u64 ((m : Int) * 256) (x : Int) = ((m * 256 + x : Nat) : Int) := by
  have h1 : m <<< 8 + x = m <<< 8 ||| x := Nat.shiftLeft_add_eq_or_of_lt (by omega) _
  rw [Nat.shiftLeft_eq] at h1
  show IntKind.u64.wrap ((BitVec.ofInt 64 ((m : Int) * 256) ||| BitVec.ofInt 64 (x : Int)).toNat : Int) = _
  have e1 : (m * 256 : Nat) % 2 ^ 64 = m * 256 := Nat.mod_eq_of_lt (by omega)
  have e2 : x % 2 ^ 64 = x := Nat.mod_eq_of_lt (by omega)
  rw [show ((m : Int) * 256) = ((m * 256 : Nat) : Int) by omega, BitVec.ofInt_natCast, BitVec.ofInt_natCast, BitVec.toNat_or, BitVec.toNat_ofNat, BitVec.toNat_ofNat, e1, e2]
  have h2 : m * 256 ||| x = m * 256 + x := h1.symm
  rw [h2]
  show ((m * 256 + x : Nat) : Int) % 18446744073709551616 = _
  omega
set_option maxRecDepth 100000 in
theorem num_take_lt {l : List Nat} (hb : ∀ x ∈ l, x < 256) {i : Nat} (hi : i < 8) : num (l.take i) < 72057594037927936 := by
  have h1 := num_lt (l.take i) (fun x hx => hb x (List.mem_of_mem_take hx))
  have h3 : (l.take i).length ≤ 7 := by rw [List.length_take]; omega
  have h4 := Nat.pow_le_pow_right (show 0 < 256 by omega) h3
  omega
set_option maxRecDepth 100000 in
theorem num_lt64 {l : List Nat} (hb : ∀ x ∈ l, x < 256) (hi : l.length ≤ 8) : num l < 18446744073709551616 := by
  have h1 := num_lt l hb
  have h4 := Nat.pow_le_pow_right (show 0 < 256 by omega) hi
  omega
set_option maxRecDepth 100000 in
set_option maxHeartbeats 4000000 in
theorem rdnum_any (g b : Nat) (xs : List Nat) (e : Int) (w : World) (h : Rdr w g b xs e) :
    Calls Try.prog 49 #[.pointer (some ⟨g, 0, none⟩)] w fun e' w' => e' = .returned (.int .u64 ((numP ⟨xs, e⟩).1 : Nat)) ∧ Rdr w' g b (numP ⟨xs, e⟩).2.xs (numP ⟨xs, e⟩).2.e ∧ Only w w' g := by
  have ht := take_any g b xs e 1 w h (by omega)
  rw [show ((1 : Nat) : Int) = 1 from rfl] at ht
  by_cases h0 : e = 0
  · subst h0
    match xs, h, ht with
    | [], h, ht =>
      rw [numP_short]
      rw [takeP_short (by simp)] at ht
      dsimp only [List.length_nil] at ht
      go_enter Try.func49, Try.ntmps49
      go_wp2_with (go_at_call 82; (with_reducible refine ht.mono ?_); rintro e w1 ⟨A1, k1, rfl, hs1, hk1, hm1, hr1, ho1⟩)
      go_ret
      exact ⟨rfl, hr1, ho1⟩
    | x :: t, h, ht =>
      rw [takeP_cons] at ht
      dsimp only [List.length_cons, List.length_nil] at ht
      have hx := h.by_ x (by simp)
      by_cases hlow : x < 248
      · rw [numP_low t hlow]
        have hlow' : (x : Int) < 248 := by omega
        go_enter Try.func49, Try.ntmps49
        go_wp2_with (go_at_call 82; (with_reducible refine ht.mono ?_); rintro e w1 ⟨A1, k1, rfl, hs1, hk1, hm1, hr1, ho1⟩; obtain ⟨o1, rfl, hc1⟩ := hs1.ex (by simp); have c1 := hc1 0 x rfl; rw [Nat.add_zero] at c1)
        go_ret
        exact ⟨rfl, hr1, ho1⟩
      · have hlow' : ¬(x : Int) < 248 := by omega
        have e247 : ((x - 247 : Nat) : Int) = (x : Int) - 247 := by omega
        have hx' : (x : Int) < 256 := by omega
        have ht2 := fun w1 (h1 : Rdr w1 g b t 0) => take_any g b t 0 (x - 247) w1 h1 (by omega)
        simp only [e247] at ht2
        by_cases hl : x - 247 ≤ t.length
        · have HR := hide (numP_long hlow hl)
          generalize numP ⟨x :: t, 0⟩ = R at *
          simp only [takeP_ok hl] at ht2
          have hqb : ∀ y ∈ t.take (x - 247), y < 256 := fun y hy => h.by_ y (by simp [List.mem_of_mem_take hy])
          have hql : (t.take (x - 247)).length = x - 247 := by rw [List.length_take]; omega
          generalize t.take (x - 247) = q at *
          have hqi : (q.length : Int) = (x : Int) - 247 := by omega
          have hq8 : q.length ≤ 8 := by omega
          have hN := num_lt64 hqb hq8
          have hq0 : ((x : Int) - 247 == 0) = false := beq_false_of_ne (by omega)
          go_enter Try.func49, Try.ntmps49
          go_wp2_with (first | (go_at_call 82; (with_reducible refine ht.mono ?_); rintro e w1 ⟨A1, k1, rfl, hs1, hk1, hm1, hr1, ho1⟩; obtain ⟨o1, rfl, hc1⟩ := hs1.ex (by simp); have c1 := hc1 0 x rfl; rw [Nat.add_zero] at c1) | (go_at_call 82; (with_reducible refine (ht2 _ hr1).mono ?_); rintro e w2 ⟨A2, k2, rfl, hs2, hk2, hm2, hr2, ho2⟩))
          obtain ⟨o2, rfl, hc2⟩ := hs2.ex (by omega)
          have HQ := hide hql
          have HC := hide hc2
          clear hql hc2
          go_loop [5, 32] (fun n i => ∃ j m : Nat, j ≤ q.length ∧ i = .int .i64 (j : Int) ∧ n = .int .u64 (m : Int) ∧ Hid (m = num (q.take j))) (fun _ i => ((x : Int) - 247 - intOf i).toNat)
          case atStart => exact ⟨0, 0, by omega, rfl, rfl, rfl⟩
          case round =>
            obtain ⟨j, m, hj, rfl, rfl, hm⟩ := hrel
            by_cases hlt : j < q.length
            · have hjl : (j : Int) < (x : Int) - 247 := by omega
              obtain ⟨y, hy0⟩ : ∃ y, q[j]? = some y := ⟨_, List.getElem?_eq_getElem hlt⟩
              have hy := HC.out j y hy0
              have hyb := hqb y (List.mem_of_getElem? hy0)
              have hts : num (q.take (j + 1)) = num (q.take j) * 256 + y := by rw [List.take_add_one, hy0, ← num_snoc]; rfl
              clear hy0
              have hm7 := num_take_lt hqb (i := j) (by omega)
              rw [← hm.out] at hts hm7
              have HT := hide hts
              clear hts hm
              have HO := hide (or_u64_8 m y hm7 hyb)
              go_wp2
              go_round
              case rel => exact ⟨j + 1, m * 256 + y, by omega, by go_num, by rw [HO.out], HT.out.symm⟩
              case measure => simp [intOf]; omega
            · obtain rfl : j = q.length := by omega
              have hm2 := hm.out
              rw [List.take_of_length_le (Nat.le_refl _)] at hm2
              subst hm2
              clear hm HC
              have hN' : U64 (num q : Int) := by unfold U64; omega
              have hlong := fun w1 => long_any (num q : Int) w1 hN'
              rw [Int.toNat_natCast] at hlong
              generalize num q = N at *
              have hfl := fail_any g b (t.drop (x - 247)) 0 10 w2 hr2
              rw [show failP 10 ⟨t.drop (x - 247), 0⟩ = ⟨[], 10⟩ by unfold failP; rw [if_pos rfl]] at hfl
              by_cases h1 : N < 248
              · have hR : R = (0, ⟨[], 10⟩) := by rw [HR.out, if_pos (.inl h1)]
                have HR2 := hide hR
                clear HR hR
                have h1' : (N : Int) < 248 := by omega
                go_wp2_with (first | (go_at_call 83; (with_reducible refine hfl.mono ?_); rintro e w3 ⟨rfl, hr3, ho3⟩))
                go_ret
                rw [HR2.out]
                exact ⟨rfl, hr3, (ho1.trans ho2).trans ho3⟩
              · have h1' : ¬(N : Int) < 248 := by omega
                by_cases h2 : longN N = x - 247
                · have hR : R = (N, ⟨t.drop (x - 247), 0⟩) := by rw [HR.out, if_neg (fun h => by rcases h with h | h <;> omega)]
                  have HR2 := hide hR
                  clear HR hR
                  have h2' : ((longN N : Int) != (x : Int) - 247) = false := by rw [bne_eq_false_iff_eq]; omega
                  generalize longN N = L at *
                  clear h2
                  go_wp2_with (first | (go_at_call 80; (with_reducible refine (hlong _).mono ?_); rintro e w3 ⟨rfl, hb3⟩))
                  go_ret
                  rw [HR2.out]
                  exact ⟨rfl, hr2.below hb3, ((ho1.trans ho2).trans (Only.of_below hb3))⟩
                · have hR : R = (0, ⟨[], 10⟩) := by rw [HR.out, if_pos (.inr h2)]
                  have HR2 := hide hR
                  clear HR hR
                  have h2' : ((longN N : Int) != (x : Int) - 247) = true := by rw [bne_iff_ne]; omega
                  generalize longN N = L at *
                  clear h2
                  go_wp2_with (first | (go_at_call 80; (with_reducible refine (hlong _).mono ?_); rintro e w3 ⟨rfl, hb3⟩; have hfl3 := fail_any g b (t.drop (x - 247)) 0 10 w3 (hr2.below hb3)) | (go_at_call 83; (with_reducible refine hfl3.mono ?_); rintro e w4 ⟨rfl, hr4, ho4⟩))
                  go_ret
                  rw [HR2.out]
                  exact ⟨rfl, hr4, ((ho1.trans ho2).trans (Only.of_below hb3)).trans ho4⟩
        · rw [numP_short2 hlow (by omega)]
          simp only [takeP_short (show t.length < x - 247 by omega), List.length_nil] at ht2
          go_enter Try.func49, Try.ntmps49
          go_wp2_with (first | (go_at_call 82; (with_reducible refine ht.mono ?_); rintro e w1 ⟨A1, k1, rfl, hs1, hk1, hm1, hr1, ho1⟩; obtain ⟨o1, rfl, hc1⟩ := hs1.ex (by simp); have c1 := hc1 0 x rfl; rw [Nat.add_zero] at c1) | (go_at_call 82; (with_reducible refine (ht2 _ hr1).mono ?_); rintro e w2 ⟨A2, k2, rfl, hs2, hk2, hm2, hr2, ho2⟩))
          go_loop [5, 32] (fun n i => n = .int .u64 0 ∧ i = .int .i64 0) (fun _ i => 0)
          case atStart => exact ⟨rfl, rfl⟩
          case round =>
            obtain ⟨rfl, rfl⟩ := hrel
            go_wp2
            go_ret
            exact ⟨rfl, hr2, ho1.trans ho2⟩
  · rw [numP_err h0]
    rw [takeP_err h0] at ht
    dsimp only [List.length_nil] at ht
    go_enter Try.func49, Try.ntmps49
    go_wp2_with (go_at_call 82; (with_reducible refine ht.mono ?_); rintro e w1 ⟨A1, k1, rfl, hs1, hk1, hm1, hr1, ho1⟩)
    go_ret
    exact ⟨rfl, hr1, ho1⟩
end Go.Proofs.Ythajbeooemngpaa
