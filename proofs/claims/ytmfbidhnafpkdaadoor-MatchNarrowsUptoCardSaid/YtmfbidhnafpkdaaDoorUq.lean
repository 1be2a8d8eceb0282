import Derived.Test.YtmfbidhnafpkdaaDoorQr
/-! The value with which a text begins. -/
namespace Go.Proofs.YtmfbidhnafpkdaaDoor
open Go.RowKit
set_option linter.unusedVariables false
set_option linter.unusedSimpArgs false
/-- The bytes up to the closing quote, and where the text goes on. -/
def uqF : Bool → List UInt8 → List UInt8 → Nat → Option (List UInt8 × Nat)
  | _, [], _, _ => none
  | true, x :: r, acc, k => if x = 34 ∨ x = 92 then uqF false r (acc ++ [x]) (k + 1) else none
  | false, x :: r, acc, k => if x = 34 then some (acc, k + 1) else if x = 92 then uqF true r acc (k + 1) else uqF false r (acc ++ [x]) (k + 1)
def uqS (l acc : List UInt8) (k : Nat) : Option (List UInt8 × Nat) := uqF false l acc k
def uqL : List UInt8 → Option (List UInt8 × Nat)
  | [] => none
  | x :: r => if x = 34 then uqS r [] 1 else none
def uqT (o : Option (List UInt8 × Nat)) : ByteArray := match o with | some p => ⟨p.1.toArray⟩ | none => ⟨#[]⟩
def uqN (o : Option (List UInt8 × Nat)) : Nat := match o with | some p => p.2 | none => 0
theorem drop_at {s : ByteArray} {i : Nat} (h : i < s.size) : s.data.toList.drop i = s[i] :: s.data.toList.drop (i + 1) := by
  have h' : i < s.data.toList.length := by rw [Array.length_toList]; exact h
  rw [List.drop_eq_getElem_cons h']
  rfl
theorem drop_end {s : ByteArray} {i : Nat} (h : s.size ≤ i) : s.data.toList.drop i = [] := List.drop_eq_nil_of_le (by rw [Array.length_toList]; exact h)
theorem uq_quote {s : ByteArray} {i : Nat} {acc : List UInt8} (h : i < s.size) (hx : s[i].toNat = 34) : uqS (s.data.toList.drop i) acc i = some (acc, i + 1) := by
  rw [drop_at h, uqS, uqF, if_pos (u8_34.1 hx)]
theorem uqF_nil (b : Bool) (acc : List UInt8) (k : Nat) : uqF b [] acc k = none := by cases b <;> rfl
theorem uq_end {s : ByteArray} {i : Nat} {acc : List UInt8} (h : s.size ≤ i) : uqS (s.data.toList.drop i) acc i = none := by
  rw [drop_end h, uqS, uqF_nil]
theorem uq_cut {s : ByteArray} {i : Nat} {acc : List UInt8} (h : i < s.size) (hx : s[i].toNat = 92) (he : s.size ≤ i + 1) : uqS (s.data.toList.drop i) acc i = none := by
  rw [drop_at h, drop_end he, uqS, uqF, if_neg (fun e => by rw [e] at hx; cases hx), if_pos (u8_92.1 hx), uqF_nil]
theorem uq_bad {s : ByteArray} {i : Nat} {acc : List UInt8} (h : i < s.size) (hx : s[i].toNat = 92) (he : i + 1 < s.size) (h1 : s[i + 1].toNat ≠ 34) (h2 : s[i + 1].toNat ≠ 92) : uqS (s.data.toList.drop i) acc i = none := by
  rw [drop_at h, drop_at he, uqS, uqF, if_neg (fun e => by rw [e] at hx; cases hx), if_pos (u8_92.1 hx), uqF, if_neg (fun e => e.elim (fun e => h1 (u8_34.2 e)) (fun e => h2 (u8_92.2 e)))]
theorem uq_esc {s : ByteArray} {i : Nat} {acc : List UInt8} (h : i < s.size) (hx : s[i].toNat = 92) (he : i + 1 < s.size) (h1 : s[i + 1].toNat = 34 ∨ s[i + 1].toNat = 92) : uqS (s.data.toList.drop i) acc i = uqS (s.data.toList.drop (i + 2)) (acc ++ [s[i + 1]]) (i + 2) := by
  conv => lhs; rw [drop_at h, drop_at he, uqS, uqF, if_neg (fun e => by rw [e] at hx; cases hx), if_pos (u8_92.1 hx), uqF, if_pos (h1.imp u8_34.1 u8_92.1)]
  rfl
theorem uq_step {s : ByteArray} {i : Nat} {acc : List UInt8} (h : i < s.size) (h1 : s[i].toNat ≠ 34) (h2 : s[i].toNat ≠ 92) : uqS (s.data.toList.drop i) acc i = uqS (s.data.toList.drop (i + 1)) (acc ++ [s[i]]) (i + 1) := by
  conv => lhs; rw [drop_at h, uqS, uqF, if_neg (fun e => h1 (u8_34.2 e)), if_neg (fun e => h2 (u8_92.2 e))]
  rfl
theorem uqL_cons (x : UInt8) (r : List UInt8) : uqL (x :: r) = if x = 34 then uqS r [] 1 else none := rfl
theorem uqL_eq {s : ByteArray} (h : 0 < s.size) (h1 : s[0].toNat = 34) : uqL s.data.toList = uqS (s.data.toList.drop 1) [] 1 := by
  have := drop_at h
  rw [List.drop_zero] at this
  conv => lhs; rw [this, uqL_cons, if_pos (u8_34.1 h1)]
theorem uqL_no {s : ByteArray} (h : 0 < s.size) (h1 : s[0].toNat ≠ 34) : uqL s.data.toList = none := by
  have := drop_at h
  rw [List.drop_zero] at this
  rw [this, uqL_cons, if_neg (fun e => h1 (u8_34.2 e))]
theorem uqL_nil {s : ByteArray} (h : s.size = 0) : uqL s.data.toList = none := by
  have : s.data.toList = [] := List.eq_nil_of_length_eq_zero (by rw [Array.length_toList]; exact h)
  rw [this, uqL]
set_option maxRecDepth 100000 in
set_option maxHeartbeats 16000000 in
theorem punq_any (s : ByteArray) (hs : s.size ≤ 140737488355328) (w : World) :
    Calls Tryd.prog 30 #[.string s] w fun e w' => e = .returned (.tuple #[.string (uqT (uqL s.data.toList)), .int .i64 (uqN (uqL s.data.toList))]) ∧ Below w.heap.size w w' := by
  rcases Nat.eq_zero_or_pos s.size with h0 | h0
  · have he := str_empty h0
    have he' : s.toList.isEmpty = true := by rw [he]; rfl
    rw [uqL_nil h0]
    go_enter Tryd.func30, Tryd.ntmps30
    go_wp2
    refine bodyPost_ret (v := .tuple #[.string ⟨#[]⟩, .int .i64 0]) (by simp [results, Tryd.results30, go_sem] <;> rfl) rfl ⟨rfl, Below.refl _ _⟩
  obtain ⟨he, he'⟩ := str_some h0
  have h0i : (0 : Int) < s.size := by omega
  by_cases h34 : s[0].toNat = 34
  · rw [uqL_eq h0 h34]
    have d0 : ((s[0].toNat : Int) == 34) = true := by simp; omega
    have d0' : ((s[0].toNat : Int) != 34) = false := by simp; omega
    generalize hR : uqS (s.data.toList.drop 1) [] 1 = R
    have hb0 := bld_new w
    have hbel0 : Below w.heap.size w (w.alloc (.cells #[.pointer none, .slice none 0 0] 66)) := Below.alloc (Below.refl _ _) (Nat.le_refl _) _
    go_enter Tryd.func30, Tryd.ntmps30
    go_wp2
    generalize hq : w.heap.size = q at *
    go_loopw [5] (fun s5 wr => ∃ (i : Nat) (acc : List UInt8), 1 ≤ i ∧ i ≤ s.size ∧ acc.length < i ∧ uqS (s.data.toList.drop i) acc i = R ∧ s5 = .int .i64 (i : Int) ∧ Bld q q acc wr ∧ Below q w wr) (fun s5 _ => ((s.size : Int) - intOf s5).toNat)
    case atStart => exact ⟨1, [], by omega, by omega, by simp, hR, rfl, hb0, hbel0⟩
    case round =>
      clear hb0 hbel0 hR
      obtain ⟨i, acc, hi1, hi, hacc, hR, rfl, hB, hb⟩ := hrel
      have hqw : q ≤ wr.heap.size := by rw [← hq]; exact hb.size
      by_cases hlt : i < s.size
      · have hii : (i : Int) < s.size := by omega
        by_cases h1 : s[i].toNat = 34
        · rw [uq_quote hlt h1] at hR
          subst hR
          have d1 : ((s[i].toNat : Int) == 34) = true := by simp; omega
          go_wp2_with (go_at_call 39; (with_reducible refine (bstr_any _ _ _ _ hB hqw).mono ?_); rintro e v2 ⟨rfl, hv2⟩)
          refine bodyPost_ret (v := .tuple #[.string ⟨acc.toArray⟩, .int .i64 ((i : Int) + 1)]) (by simp [results, Tryd.results30, go_sem] <;> rfl) rfl ⟨rfl, by first | exact hb.trans hv2 | (rw [hq]; exact hb.trans hv2)⟩
        have d1 : ((s[i].toNat : Int) == 34) = false := by simp; omega
        by_cases h2 : s[i].toNat = 92
        · have d2 : ((s[i].toNat : Int) == 92) = true := by simp; omega
          by_cases hend : i + 1 < s.size
          · have hei : (i : Int) + 1 < s.size := by omega
            have hni : ((i : Int) + 1 == s.size) = false := by simp; omega
            have hni' : ¬ ((i : Int) + 1 = s.size) := by omega
            have hni2 : ¬ (i + 1 = s.size) := by omega
            by_cases h3 : s[i + 1].toNat = 34 ∨ s[i + 1].toNat = 92
            · rw [uq_esc hlt h2 hend h3] at hR
              obtain ⟨y, hy⟩ : ∃ y, s[i + 1] = y := ⟨_, rfl⟩
              rw [hy] at h3 hR
              have hR := hide hR
              have d3 : ((y.toNat : Int) == 34) = true ∨ ((y.toNat : Int) == 34) = false ∧ ((y.toNat : Int) == 92) = true := by simp; omega
              have d3' : ((y.toNat : Int) != 34) = false ∧ ((y.toNat : Int) == 34) = true ∨ ((y.toNat : Int) != 34) = true ∧ ((y.toNat : Int) == 34) = false ∧ ((y.toNat : Int) != 92) = false ∧ ((y.toNat : Int) == 92) = true := by simp; omega
              clear d3
              rcases d3' with ⟨d3, d4⟩ | ⟨d3, d4, d5, d6⟩
              all_goals
                go_wp2_with (go_at_call 36; (with_reducible refine (bbyte_k _ _ _ y _ (by first | rfl | (simp at d4; omega) | (simp at d6; omega)) _ hB (by omega) hqw).mono ?_); rintro e v1 ⟨rfl, hB1, hv1⟩)
                go_roundw
                case rel => exact ⟨i + 2, acc ++ [y], by omega, by omega, by simp; omega, hR.out, by go_num, hB1, hb.trans hv1⟩
                case measure => simp [intOf]; omega
            · have e1 : s[i + 1].toNat ≠ 34 := fun e => h3 (.inl e)
              have e2 : s[i + 1].toNat ≠ 92 := fun e => h3 (.inr e)
              rw [uq_bad hlt h2 hend e1 e2] at hR
              subst hR
              obtain ⟨y, hy⟩ : ∃ y, s[i + 1] = y := ⟨_, rfl⟩
              rw [hy] at e1 e2
              have d3 : ((y.toNat : Int) == 34) = false := by simp; omega
              have d4 : ((y.toNat : Int) == 92) = false := by simp; omega
              have d5 : ((y.toNat : Int) != 34) = true := by simp; omega
              have d6 : ((y.toNat : Int) != 92) = true := by simp; omega
              clear h3
              go_wp2
              refine bodyPost_ret (v := .tuple #[.string ⟨#[]⟩, .int .i64 0]) (by simp [results, Tryd.results30, go_sem] <;> rfl) rfl ⟨rfl, by first | exact hb | (rw [hq]; exact hb)⟩
          · rw [uq_cut hlt h2 (by omega)] at hR
            subst hR
            have hni : ((i : Int) + 1 == s.size) = true := by simp; omega
            have hni' : (i : Int) + 1 = s.size := by omega
            have hni2 : i + 1 = s.size := by omega
            go_wp2
            refine bodyPost_ret (v := .tuple #[.string ⟨#[]⟩, .int .i64 0]) (by simp [results, Tryd.results30, go_sem] <;> rfl) rfl ⟨rfl, by first | exact hb | (rw [hq]; exact hb)⟩
        · rw [uq_step hlt h1 h2] at hR
          obtain ⟨x, hx⟩ : ∃ x, s[i] = x := ⟨_, rfl⟩
          rw [hx] at hR d1 h1 h2
          have d2 : ((x.toNat : Int) == 92) = false := by simp; omega
          have hR := hide hR
          go_wp2_with (go_at_call 36; (with_reducible refine (bbyte_any _ _ _ _ _ hB (by omega) hqw).mono ?_); rintro e v1 ⟨rfl, hB1, hv1⟩)
          go_roundw
          case rel => exact ⟨i + 1, acc ++ [x], by omega, by omega, by simp; omega, hR.out, by go_num, hB1, hb.trans hv1⟩
          case measure => simp [intOf]; omega
      · rw [uq_end (by omega)] at hR
        subst hR
        obtain rfl : i = s.size := by omega
        go_wp2
        refine bodyPost_ret (v := .tuple #[.string ⟨#[]⟩, .int .i64 0]) (by simp [results, Tryd.results30, go_sem] <;> rfl) rfl ⟨rfl, by first | exact hb | (rw [hq]; exact hb)⟩
  · rw [uqL_no h0 h34]
    have d1 : ((s[0].toNat : Int) == 34) = false := by simp; omega
    have d2 : ((s[0].toNat : Int) != 34) = true := by simp; omega
    go_enter Tryd.func30, Tryd.ntmps30
    go_wp2
    refine bodyPost_ret (v := .tuple #[.string ⟨#[]⟩, .int .i64 0]) (by simp [results, Tryd.results30, go_sem] <;> rfl) rfl ⟨rfl, Below.refl _ _⟩
set_option maxRecDepth 100000 in
set_option maxHeartbeats 16000000 in
theorem runq_any (s : ByteArray) (hs : s.size ≤ 140737488355328) (w : World) :
    Calls Tryd.prog 35 #[.string s] w fun e w' => e = .returned (.tuple #[.string (uqT (uqL s.data.toList)), .int .i64 (uqN (uqL s.data.toList))]) ∧ Below w.heap.size w w' := by
  rcases Nat.eq_zero_or_pos s.size with h0 | h0
  · have he := str_empty h0
    have he' : s.toList.isEmpty = true := by rw [he]; rfl
    rw [uqL_nil h0]
    go_enter Tryd.func35, Tryd.ntmps35
    go_wp2
    refine bodyPost_ret (v := .tuple #[.string ⟨#[]⟩, .int .i64 0]) (by simp [results, Tryd.results35, go_sem] <;> rfl) rfl ⟨rfl, Below.refl _ _⟩
  obtain ⟨he, he'⟩ := str_some h0
  have h0i : (0 : Int) < s.size := by omega
  by_cases h34 : s[0].toNat = 34
  · rw [uqL_eq h0 h34]
    have d0 : ((s[0].toNat : Int) == 34) = true := by simp; omega
    have d0' : ((s[0].toNat : Int) != 34) = false := by simp; omega
    generalize hR : uqS (s.data.toList.drop 1) [] 1 = R
    go_enter Tryd.func35, Tryd.ntmps35
    go_wp2
    generalize hq : w.heap.size = q at *
    go_loopw [4, 5] (fun s4 s5 wr => ∃ (i : Nat) (acc : List UInt8), 1 ≤ i ∧ i ≤ s.size ∧ acc.length < i ∧ uqS (s.data.toList.drop i) acc i = R ∧ s5 = .int .i64 (i : Int) ∧ Row wr q s4 (n8 acc) ∧ Below q w wr) (fun _ s5 _ => ((s.size : Int) - intOf s5).toNat)
    case atStart => exact ⟨1, [], by omega, by omega, by simp, hR, rfl, Row.nil _ _, by rw [← hq]; exact Below.refl _ _⟩
    case round =>
      clear hR
      obtain ⟨i, acc, hi1, hi, hacc, hR, rfl, hB, hb⟩ := hrel
      have hqw : q ≤ wr.heap.size := by rw [← hq]; exact hb.size
      by_cases hlt : i < s.size
      · have hii : (i : Int) < s.size := by omega
        by_cases h1 : s[i].toNat = 34
        · rw [uq_quote hlt h1] at hR
          subst hR
          have d1 : ((s[i].toNat : Int) == 34) = true := by simp; omega
          have d1' : ((s[i].toNat : Int) != 34) = false := by simp; omega
          obtain ⟨A2, n2, c2, rfl⟩ := hB.shape
          have hcv := Row.conv (P := Tryd.prog) (dst := 9) hB Tryd.underlying64 Tryd.underlying5 Tryd.underlying9
          rw [strOf_n8] at hcv
          go_wp2
          refine bodyPost_ret (v := .tuple #[.string ⟨acc.toArray⟩, .int .i64 ((i : Int) + 1)]) (by simp [results, Tryd.results35, go_sem] <;> rfl) rfl ⟨rfl, by first | exact hb | (rw [hq]; exact hb)⟩
        have d1 : ((s[i].toNat : Int) == 34) = false := by simp; omega
        have d1' : ((s[i].toNat : Int) != 34) = true := by simp; omega
        by_cases h2 : s[i].toNat = 92
        · have d2 : ((s[i].toNat : Int) == 92) = true := by simp; omega
          by_cases hend : i + 1 < s.size
          · have hei : (i : Int) + 1 < s.size := by omega
            have hni : ¬ ((s.size : Int) ≤ (i : Int) + 1) := by omega
            by_cases h3 : s[i + 1].toNat = 34 ∨ s[i + 1].toNat = 92
            · rw [uq_esc hlt h2 hend h3] at hR
              obtain ⟨y, hy⟩ : ∃ y, s[i + 1] = y := ⟨_, rfl⟩
              rw [hy] at h3 hR
              have hR := hide hR
              have d3 : ((y.toNat : Int) == 34) = true ∨ ((y.toNat : Int) == 34) = false ∧ ((y.toNat : Int) == 92) = true := by simp; omega
              have d3' : ((y.toNat : Int) != 34) = false ∧ ((y.toNat : Int) == 34) = true ∨ ((y.toNat : Int) != 34) = true ∧ ((y.toNat : Int) == 34) = false ∧ ((y.toNat : Int) != 92) = false ∧ ((y.toNat : Int) == 92) = true := by simp; omega
              clear d3
              rcases d3' with ⟨d3, d4⟩ | ⟨d3, d4, d5, d6⟩
              all_goals
                go_wp2_with (at_builtin; go_must (refine app_byte rfl (.tmp 46) (.tmp 50) 64 rfl Tryd.underlying64 infoU8 q _ (_) (y.toNat) _ ?c0 rfl hB _ (by first | rfl | simp [World.size_ext]) rfl ?c1 ?c2 ?_))
                case c0 => first | rfl | (simp at d4; omega) | (simp at d6; omega)
                case c1 => rw [n8_length]; omega
                try (case c2 => exact hqw)
                intro v1 w1 hr1 hc1
                have hb1 := hb.trans (hc1.below hB hqw)
                have he : n8 acc ++ [y.toNat] = n8 (acc ++ [y]) := by simp [n8]
                rw [he] at hr1
                clear he
                go_wp2
                go_roundw
                case rel => exact ⟨i + 2, acc ++ [y], by omega, by omega, by simp; omega, hR.out, by go_num, hr1, hb1⟩
                case measure => simp [intOf]; omega
            · have e1 : s[i + 1].toNat ≠ 34 := fun e => h3 (.inl e)
              have e2 : s[i + 1].toNat ≠ 92 := fun e => h3 (.inr e)
              rw [uq_bad hlt h2 hend e1 e2] at hR
              subst hR
              obtain ⟨y, hy⟩ : ∃ y, s[i + 1] = y := ⟨_, rfl⟩
              rw [hy] at e1 e2
              have d3 : ((y.toNat : Int) == 34) = false := by simp; omega
              have d4 : ((y.toNat : Int) == 92) = false := by simp; omega
              have d5 : ((y.toNat : Int) != 34) = true := by simp; omega
              have d6 : ((y.toNat : Int) != 92) = true := by simp; omega
              clear h3
              go_wp2
              refine bodyPost_ret (v := .tuple #[.string ⟨#[]⟩, .int .i64 0]) (by simp [results, Tryd.results35, go_sem] <;> rfl) rfl ⟨rfl, by first | exact hb | (rw [hq]; exact hb)⟩
          · rw [uq_cut hlt h2 (by omega)] at hR
            subst hR
            have hge : ¬ ((i : Int) + 1 < s.size) := by omega
            have hge' : (s.size : Int) ≤ (i : Int) + 1 := by omega
            go_wp2
            refine bodyPost_ret (v := .tuple #[.string ⟨#[]⟩, .int .i64 0]) (by simp [results, Tryd.results35, go_sem] <;> rfl) rfl ⟨rfl, by first | exact hb | (rw [hq]; exact hb)⟩
        · rw [uq_step hlt h1 h2] at hR
          obtain ⟨x, hx⟩ : ∃ x, s[i] = x := ⟨_, rfl⟩
          rw [hx] at hR d1 d1' h1 h2
          have d2 : ((x.toNat : Int) == 92) = false := by simp; omega
          have hR := hide hR
          go_wp2_with (at_builtin; go_must (refine app_byte rfl (.tmp 46) (.tmp 50) 64 rfl Tryd.underlying64 infoU8 q _ (_) (x.toNat) _ ?c0 rfl hB _ (by first | rfl | simp [World.size_ext]) rfl ?c1 ?c2 ?_))
          case c0 => rfl
          case c1 => rw [n8_length]; omega
          try (case c2 => exact hqw)
          intro v1 w1 hr1 hc1
          have hb1 := hb.trans (hc1.below hB hqw)
          have he : n8 acc ++ [x.toNat] = n8 (acc ++ [x]) := by simp [n8]
          rw [he] at hr1
          clear he
          go_wp2
          go_roundw
          case rel => exact ⟨i + 1, acc ++ [x], by omega, by omega, by simp; omega, hR.out, by go_num, hr1, hb1⟩
          case measure => simp [intOf]; omega
      · rw [uq_end (by omega)] at hR
        subst hR
        obtain rfl : i = s.size := by omega
        go_wp2
        refine bodyPost_ret (v := .tuple #[.string ⟨#[]⟩, .int .i64 0]) (by simp [results, Tryd.results35, go_sem] <;> rfl) rfl ⟨rfl, by first | exact hb | (rw [hq]; exact hb)⟩
  · rw [uqL_no h0 h34]
    have d1 : ((s[0].toNat : Int) == 34) = false := by simp; omega
    have d2 : ((s[0].toNat : Int) != 34) = true := by simp; omega
    go_enter Tryd.func35, Tryd.ntmps35
    go_wp2
    refine bodyPost_ret (v := .tuple #[.string ⟨#[]⟩, .int .i64 0]) (by simp [results, Tryd.results35, go_sem] <;> rfl) rfl ⟨rfl, Below.refl _ _⟩
end Go.Proofs.YtmfbidhnafpkdaaDoor

