import Derived.Test.YtacnfcolkllagaaDoorDr
import Derived.Test.YtacnfcolkllagaaDoorStr
/-! The document's Number. -/
namespace Go.Proofs.YtacnfcolkllagaaDoor
open Go.RowKit
set_option linter.unusedVariables false
set_option linter.unusedSimpArgs false
structure NumA where
  x : Nat
  b : Bool
def NumOk (l : List UInt8) (m : Nat) (r : NumA) : Prop := numR l m = if r.b = true then some r.x else none
theorem drop9 {s : ByteArray} {i : Nat} (h : i < s.size) : s.data.toList.drop i = s[i] :: s.data.toList.drop (i + 1) := by
  have h' : i < s.data.toList.length := by rw [Array.length_toList]; exact h
  rw [List.drop_eq_getElem_cons h']
  rfl
theorem take9 {s : ByteArray} {i : Nat} (h : i < s.size) : s.data.toList.take (i + 1) = s.data.toList.take i ++ [s[i]] := by
  have h' : i < s.data.toList.length := by rw [Array.length_toList]; exact h
  rw [List.take_add_one, List.getElem?_eq_getElem h', Option.toList_some]
  rfl
set_option maxRecDepth 100000 in
set_option maxHeartbeats 8000000 in
theorem number_any (s : ByteArray) (m : Nat) (hm : m ≤ 4611686018427387904) (w : World) :
    Calls Tryd.prog 15 #[.string s, .int .u64 (m : Int)] w fun e w' => (∃ r : NumA, e = .returned (.tuple #[.int .u64 (r.x : Int), .bool r.b]) ∧ NumOk s.data.toList m r) ∧ w' = w := by
  have hsz := Lib.size_eq s
  by_cases h0 : s.size < 1
  · have d0 : (s.size : Int) < 1 := by omega
    have hR := hide (show numR s.data.toList m = none from by unfold numR; rw [if_pos (.inl (by omega))])
    clear hsz h0
    go_enter Tryd.func15, Tryd.ntmps15
    go_wp2
    refine bodyPost_ret (v := .tuple #[.int .u64 0, .bool false]) (by simp [results, Tryd.results15, go_sem] <;> rfl) rfl ⟨⟨⟨0, false⟩, rfl, ?_⟩, rfl⟩
    unfold NumOk
    rw [hR.out]; rfl
  have d0 : ¬ (s.size : Int) < 1 := by omega
  by_cases h19 : 19 < s.size
  · have d1 : (19 : Int) < s.size := by omega
    have hR := hide (show numR s.data.toList m = none from by unfold numR; rw [if_pos (.inr (.inl (by omega)))])
    clear hsz h0
    go_enter Tryd.func15, Tryd.ntmps15
    go_wp2
    refine bodyPost_ret (v := .tuple #[.int .u64 0, .bool false]) (by simp [results, Tryd.results15, go_sem] <;> rfl) rfl ⟨⟨⟨0, false⟩, rfl, ?_⟩, rfl⟩
    unfold NumOk
    rw [hR.out]; rfl
  have d1 : ¬ (19 : Int) < s.size := by omega
  have hp : 0 < s.size := by omega
  have hpi : (0 : Int) < s.size := by omega
  have hhd : s.data.toList.head? = some s[0] := by
    have := drop9 hp
    rw [List.drop_zero] at this
    rw [this]; rfl
  by_cases hz : s[0].toNat = 48 ∧ 1 < s.size
  · have d2 : ((s[0].toNat : Int) == 48) = true := by simp; omega
    have d3 : (1 : Int) < s.size := by omega
    have hR := hide (show numR s.data.toList m = none from by
      unfold numR
      rw [if_pos (.inr (.inr ⟨by rw [hhd]; congr 1; exact UInt8.toNat_inj.1 hz.1, by omega⟩))])
    clear hsz h0 hhd hz
    go_enter Tryd.func15, Tryd.ntmps15
    go_wp2
    refine bodyPost_ret (v := .tuple #[.int .u64 0, .bool false]) (by simp [results, Tryd.results15, go_sem] <;> rfl) rfl ⟨⟨⟨0, false⟩, rfl, ?_⟩, rfl⟩
    unfold NumOk
    rw [hR.out]; rfl
  have hN : numR s.data.toList m = if s.data.toList.all isD = true then (if valL s.data.toList 0 ≤ m then some (valL s.data.toList 0) else none) else none := by
    unfold numR
    rw [if_neg (by
      rintro (h | h | h)
      · omega
      · omega
      · refine hz ⟨?_, by omega⟩
        have := h.1
        rw [hhd] at this
        simp only [Option.some.injEq] at this
        rw [this]; rfl)]
  have hd : ((s[0].toNat : Int) == 48) = false ∨ ((s[0].toNat : Int) == 48) = true ∧ ¬ (1 : Int) < s.size := by
    by_cases h : s[0].toNat = 48
    · exact .inr ⟨by simp; omega, fun h1 => hz ⟨h, by omega⟩⟩
    · exact .inl (by simp; omega)
  have hH := hide (⟨hN, hsz⟩ : _ ∧ _)
  clear hN hsz hz hhd
  rcases hd with d2 | ⟨d2, d3⟩
  all_goals
    go_enter Tryd.func15, Tryd.ntmps15
    go_wp2
    clear d2
    go_loopw [6, 7] (fun s6 s7 wr => ∃ i : Nat, i ≤ s.size ∧ s7 = .int .i64 (i : Int) ∧ s6 = .int .u64 (valL (s.data.toList.take i) 0 : Nat) ∧ (s.data.toList.take i).all isD = true ∧ wr = w) (fun _ s7 _ => ((s.size : Int) - intOf s7).toNat)
    case atStart => exact ⟨0, by omega, rfl, rfl, rfl, rfl⟩
    case round =>
      obtain ⟨i, hi, rfl, rfl, hall, rfl⟩ := hrel
      by_cases hlt : i < s.size
      · have hii : (i : Int) < s.size := by omega
        have htk := take9 hlt
        obtain ⟨x, hx⟩ : ∃ x : UInt8, s[i] = x := ⟨_, rfl⟩
        rw [hx] at htk
        by_cases hdx : isD x = true
        · have hdd := isD_le hdx
          have e1 : decide ((x.toNat : Int) < 48) = false := decide_eq_false (by omega)
          have e2 : decide ((57 : Int) < (x.toNat : Int)) = false := decide_eq_false (by omega)
          have hv := valL_snoc (s.data.toList.take i) x 0
          have hlt2 := valL_lt _ 0 hall
          rw [← htk] at hv
          obtain ⟨v, hvv⟩ : ∃ v, valL (s.data.toList.take i) 0 = v := ⟨_, rfl⟩
          rw [hvv] at hv hlt2 ⊢
          have hb18 : v < 1000000000000000000 := by
            have h1 : (s.data.toList.take i).length ≤ 18 := by rw [List.length_take]; omega
            have h2 : (10 : Nat) ^ (s.data.toList.take i).length ≤ 10 ^ 18 := Nat.pow_le_pow_right (by decide) h1
            have e18 : (10 : Nat) ^ 18 = 1000000000000000000 := by decide
            rw [e18] at h2
            rw [Nat.zero_add, Nat.one_mul] at hlt2
            exact Nat.lt_of_lt_of_le hlt2 h2
          have hw1 : IntKind.u64.wrap ((v : Int) * 10) = (v : Int) * 10 := by rw [IntKind.wrap_u64]; omega
          have hw2 : IntKind.u8.wrap ((x.toNat : Int) - 48) = (x.toNat : Int) - 48 := by rw [IntKind.wrap_u8]; omega
          have hw3 : IntKind.u64.wrap ((v : Int) * 10 + ((x.toNat : Int) - 48)) = (v : Int) * 10 + ((x.toNat : Int) - 48) := by rw [IntKind.wrap_u64]; omega
          have hw4 : IntKind.u64.wrap ((x.toNat : Int) - 48) = (x.toNat : Int) - 48 := by rw [IntKind.wrap_u64]; omega
          have HN := hide (⟨hv, (show (s.data.toList.take (i + 1)).all isD = true from by rw [htk, List.all_append, hall]; simp [hdx]), hdd⟩ : _ ∧ _ ∧ _)
          clear htk hv hlt2 hvv hall hdd
          go_wp2
          go_roundw
          case rel =>
            obtain ⟨hv, hall', hdd⟩ := HN.out
            refine ⟨i + 1, by omega, by go_num, ?_, hall', by trivial⟩
            rw [hv]
            congr 1
            omega
          case measure => first | (simp [intOf]; done) | (simp [intOf]; omega)
        · have hR := hide (show numR s.data.toList m = none from by
            rw [hH.out.1, if_neg (fun h => hdx (by
              rw [List.all_eq_true] at h
              exact h x (by
                have : x ∈ s.data.toList.take (i + 1) := by rw [htk]; simp
                exact List.mem_of_mem_take this)))])
          have hor : x.toNat < 48 ∨ 48 ≤ x.toNat ∧ 57 < x.toNat := by
            rcases Nat.lt_or_ge x.toNat 48 with h | h
            · exact .inl h
            · refine .inr ⟨h, ?_⟩
              rcases Nat.lt_or_ge 57 x.toNat with h2 | h2
              · exact h2
              · exact absurd (by simp [isD, h, h2]) hdx
          rcases hor with h1 | ⟨h1, h2⟩
          · have e1 : decide ((x.toNat : Int) < 48) = true := decide_eq_true (by omega)
            clear htk hall hdx h1
            go_wp2
            refine bodyPost_ret (v := .tuple #[.int .u64 0, .bool false]) (by simp [results, Tryd.results15, go_sem] <;> rfl) rfl ⟨⟨⟨0, false⟩, rfl, ?_⟩, rfl⟩
            unfold NumOk
            rw [hR.out]; rfl
          · have e1 : decide ((x.toNat : Int) < 48) = false := decide_eq_false (by omega)
            have e2 : decide ((57 : Int) < (x.toNat : Int)) = true := decide_eq_true (by omega)
            clear htk hall hdx h1 h2
            go_wp2
            refine bodyPost_ret (v := .tuple #[.int .u64 0, .bool false]) (by simp [results, Tryd.results15, go_sem] <;> rfl) rfl ⟨⟨⟨0, false⟩, rfl, ?_⟩, rfl⟩
            unfold NumOk
            rw [hR.out]; rfl
      · obtain rfl : i = s.size := by omega
        rw [List.take_of_length_le (by have := hH.out.2; omega)] at hall ⊢
        have hR := hide (show numR s.data.toList m = if valL s.data.toList 0 ≤ m then some (valL s.data.toList 0) else none from by rw [hH.out.1, if_pos hall])
        obtain ⟨v, hvv⟩ : ∃ v, valL s.data.toList 0 = v := ⟨_, rfl⟩
        rw [hvv] at hR ⊢
        clear hall hH hvv
        by_cases hle : v ≤ m
        · have e1 : (v : Int) ≤ m := by omega
          go_wp2
          refine bodyPost_ret (v := .tuple #[.int .u64 (v : Int), .bool true]) (by simp [results, Tryd.results15, go_sem] <;> rfl) rfl ⟨⟨⟨v, true⟩, rfl, ?_⟩, rfl⟩
          unfold NumOk
          rw [hR.out, if_pos hle]; rfl
        · have e1 : ¬ (v : Int) ≤ m := by omega
          go_wp2
          refine bodyPost_ret (v := .tuple #[.int .u64 (v : Int), .bool false]) (by simp [results, Tryd.results15, go_sem] <;> rfl) rfl ⟨⟨⟨v, false⟩, rfl, ?_⟩, rfl⟩
          unfold NumOk
          rw [hR.out, if_neg hle]; rfl
end Go.Proofs.YtacnfcolkllagaaDoor
