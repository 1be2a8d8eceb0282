import Derived.Test.YtamnononemallaaDoorGB
import Derived.Test.YtamnononemallaaDoorGC
/-! Rules as a text. -/
namespace Go.Proofs.YtamnononemallaaDoor
open Go.RowKit
set_option linter.unusedVariables false
set_option linter.unusedSimpArgs false
def sgO (op : Int) : ByteArray := if 1 ≤ op ∧ op ≤ 4 then sgT op.toNat else ⟨#[]⟩
def rulB (x : Rul) : List UInt8 := x.a.data.toList ++ ((sgO x.op).data.toList ++ qL x.b.data.toList)
def rjt : List Rul → List UInt8
  | [] => []
  | x :: l => 44 :: (rulB x ++ rjt l)
def rj : List Rul → List UInt8
  | [] => []
  | x :: l => rulB x ++ rjt l
def rtB (l : List Rul) : ByteArray := ⟨(123 :: (rj l ++ [125])).toArray⟩
theorem rjt_append (l m : List Rul) : rjt (l ++ m) = rjt l ++ rjt m := by
  induction l with
  | nil => rfl
  | cons x l ih => simp [rjt, ih]
theorem rj_one {l : List Rul} {x : Rul} (h : l[0]? = some x) : rj (l.take 1) = rulB x := by
  cases l with
  | nil => cases h
  | cons y l =>
    cases h
    simp [rj, rjt]
theorem rj_append {l m : List Rul} (h : l ≠ []) : rj (l ++ m) = rj l ++ rjt m := by
  cases l with
  | nil => exact absurd rfl h
  | cons x l => simp [rj, rjt_append]
theorem rj_succ {l : List Rul} {i : Nat} {x : Rul} (h : l[i]? = some x) (h0 : 0 < i) : rj (l.take (i + 1)) = rj (l.take i) ++ 44 :: rulB x := by
  rw [List.take_add_one, h, rj_append (by
    intro e
    have h1 := (List.getElem?_eq_some_iff.1 h).1
    rcases List.take_eq_nil_iff.1 e with e | e
    · omega
    · subst e; simp at h1)]
  simp [rjt]
theorem rj_take_len (l : List Rul) (i : Nat) : (rj (l.take i)).length ≤ (rj l).length := by
  rcases Nat.eq_zero_or_pos i with h0 | h0
  · subst h0; simp [rj]
  · cases l with
    | nil => simp
    | cons x l =>
      conv => rhs; rw [← List.take_append_drop i (x :: l)]
      rw [rj_append (by cases i with | zero => omega | succ k => simp), List.length_append]
      omega
theorem sgO_len (op : Int) : (sgO op).data.toList.length ≤ 2 := by
  unfold sgO
  split
  · rename_i h
    rw [sgT_list]
    have : op.toNat = 1 ∨ op.toNat = 2 ∨ op.toNat = 3 ∨ op.toNat = 4 := by omega
    rcases this with e | e | e | e <;> rw [e] <;> decide
  · exact Nat.zero_le _
/-- Rules whose text is not too long. -/
structure ShortR (l : List Rul) : Prop where
  each : ∀ x ∈ l, 2 * x.b.size + 2 ≤ 140737488355328
  all : (rj l).length + 2 ≤ 140737488355328
theorem mt_one (jb : List UInt8) (x : Rul) : 123 :: jb ++ x.a.data.toList ++ (sgO x.op).data.toList ++ (⟨(qL x.b.data.toList).toArray⟩ : ByteArray).data.toList = 123 :: (jb ++ rulB x) := by
  simp [rulB]
theorem mt_none (jb : List UInt8) (x : Rul) (h : sgO x.op = ⟨#[]⟩) : 123 :: jb ++ x.a.data.toList ++ (⟨(qL x.b.data.toList).toArray⟩ : ByteArray).data.toList = 123 :: (jb ++ rulB x) := by
  simp [rulB, h]
set_option maxRecDepth 100000 in
set_option maxHeartbeats 16000000 in
theorem mtext_any (v : Value) (l : List Rul) (w : World) (h : Rz w v l) (hsh : ShortR l) (hg : Sg w) :
    Calls Tryd.prog 12 #[v] w fun e w' => e = .returned (.string (rtB l)) ∧ Below w.heap.size w w' := by
  obtain ⟨A, c, rfl⟩ := h.shape
  have hn1 := h.n.2
  have hall := hsh.all
  have h0 := bld_new w
  have hb0 : Below w.heap.size w (w.alloc (.cells #[.pointer none, .slice none 0 0] 64)) := Below.alloc (Below.refl _ _) (Nat.le_refl _) _
  go_enter Tryd.func12, Tryd.ntmps12
  go_wp2_with (go_at_call 24; (with_reducible refine (bbyteT _ _ [] 123 123 rfl _ h0 (by simp) (by simp)).mono ?_); rintro e w1 ⟨rfl, hB, hb1, _⟩)
  have hb := hb0.trans hb1
  have hgs := hg.big
  obtain ⟨q, hq⟩ : ∃ q, w.heap.size = q := ⟨_, rfl⟩
  have hlt0 : q < w1.heap.size := by have := hb1.size; simp at this; omega
  rw [hq] at hB hb ⊢
  clear hb0 hb1 h0
  go_loopw [9] (fun s9 wr => ∃ i : Nat, i ≤ l.length ∧ s9 = .int .i64 (i : Int) ∧ Bld q q (123 :: rj (l.take i)) wr ∧ Below q w wr) (fun s9 _ => ((l.length : Int) - intOf s9).toNat)
  case atStart => exact ⟨0, by omega, rfl, hB, hb⟩
  case round =>
    clear hB hb hlt0
    obtain ⟨i, hi, rfl, hB, hb⟩ := hrel
    have hjl := rj_take_len l i
    have hqw : q ≤ wr.heap.size := by rw [← hq]; exact hb.size
    by_cases hlt : i < l.length
    · obtain ⟨x, hx⟩ : ∃ x, l[i]? = some x := ⟨_, List.getElem?_eq_getElem hlt⟩
      obtain ⟨b, o, rfl, hbb, m0, m1, m2⟩ := (h.below (by rw [hq]; exact hb)).at_ hx
      have hii : (i : Int) < l.length := by omega
      have hQ := fun w => pquote_any x.b (hsh.each x (List.mem_of_getElem? hx)) w
      have hso := sgO_len x.op
      have hjl1 := rj_take_len l (i + 1)
      have hrl : (rulB x).length = x.a.size + (sgO x.op).data.toList.length + (qL x.b.data.toList).length := by
        have := Lib.size_eq x.a
        simp only [rulB, List.length_append]
        omega
      have hqa : q < wr.heap.size := by
        rcases hB with ⟨_, _, hv, _⟩ | ⟨_, _, hv, _⟩ <;> exact blk_lt hv
      have hne : wr.heap.size ≠ q := by omega
      have hr0 := Blk.new wr 60 #[.string x.a, .int .i64 x.op, .string x.b]
      have hB' := bld_below hB (Below.alloc (Below.refl _ _) (Nat.le_refl _) (.cells #[.string x.a, .int .i64 x.op, .string x.b] 60))
      have hbA : Below q w (wr.alloc (.cells #[.string x.a, .int .i64 x.op, .string x.b] 60)) := hb.alloc hqw _
      have hq0 : 1 < q := by omega
      have hat := hg.at_
      clear h hsh hg
      have hop : (∃ k : Nat, 1 ≤ k ∧ k ≤ 4 ∧ x.op = k ∧ sgO x.op = sgT k) ∨ (x.op < 1 ∧ sgO x.op = ⟨#[]⟩) ∨ (4 < x.op ∧ sgO x.op = ⟨#[]⟩) := by
        unfold sgO
        by_cases h1 : x.op < 1
        · exact .inr (.inl ⟨h1, if_neg (by omega)⟩)
        · by_cases h4 : 4 < x.op
          · exact .inr (.inr ⟨h4, if_neg (by omega)⟩)
          · exact .inl ⟨x.op.toNat, by omega, by omega, by omega, if_pos (by omega)⟩
      rcases Nat.eq_zero_or_pos i with hi0 | hi0
      · have d0 : decide (0 < i) = false := decide_eq_false (by omega)
        have hfin : rj (l.take (i + 1)) = rj (l.take i) ++ rulB x := by subst hi0; rw [rj_one hx]; simp [rj]
        have hfl := congrArg List.length hfin
        simp only [List.length_append] at hfl
        obtain ⟨acc, hacc⟩ : ∃ acc, 123 :: rj (l.take i) = acc := ⟨_, rfl⟩
        have hal : acc.length = (rj (l.take i)).length + 1 := by rw [← hacc]; rfl
        rw [hacc] at hB'
        rcases hop with ⟨k, o1, o4, ho, hso'⟩ | ⟨hop, hso'⟩ | ⟨hop, hso'⟩
        · have hH := hide (show acc ++ x.a.data.toList ++ (sgT k).data.toList ++ (⟨(qL x.b.data.toList).toArray⟩ : ByteArray).data.toList = 123 :: rj (l.take (i + 1)) from by rw [hfin, ← hacc]; simp [rulB, hso'])
          have hsl : (sgO x.op).data.toList.length = (sgT k).size := by rw [hso', Lib.size_eq]
          have hc := hat k o4
          have i1 : (1 : Int) ≤ x.op := by omega
          have i2 : x.op ≤ 4 := by omega
          have i3 : x.op < 5 := by omega
          have i4 : (0 : Int) ≤ x.op := by omega
          have hkn : x.op.toNat = k := by omega
          generalize qL x.b.data.toList = qq at *
          have hqz : (⟨qq.toArray⟩ : ByteArray).size = qq.length := by rw [Lib.size_eq]
          have hax := Lib.size_eq x.a
          have hszk := Lib.size_eq (sgT k)
          clear hfin hacc hso' hx hi0 ho hat hB
          go_wp2_with (first | (go_at_call 25; (with_reducible refine (bwsT _ _ _ x.a _ hB' (by skip; omega) (by have := hbA.size; omega)).mono ?_); rintro e v2 ⟨rfl, hB2, hv2, hk2⟩; have hr2 := hk2.blk hr0 hne (by decide); have rc2 := hr2.cell; have rf2 := hr2.frozen; have hb2 := hbA.trans hv2; have hc2 := (hb2.cell (p := ⟨1, k, none⟩) hq0).trans hc) | (go_at_call 25; (with_reducible refine (bwsT _ _ _ (sgT k) _ hB2 (by simp only [List.length_append, List.length_cons, List.length_nil]; omega) (by have := hb2.size; omega)).mono ?_); rintro e v3 ⟨rfl, hB3, hv3, hk3⟩; have hr3 := hk3.blk hr2 hne (by decide); have rc3 := hr3.cell; have rf3 := hr3.frozen; have hb3 := hb2.trans hv3) | (go_at_call 26; (with_reducible refine (hQ _).mono ?_); rintro e v4 ⟨rfl, hv4⟩; have hB4 := bld_below hB3 hv4; have hb4 := hb3.trans (hv4.mono (by have := hb3.size; omega))) | (go_at_call 25; (with_reducible refine (bwsT _ _ _ ⟨qq.toArray⟩ _ hB4 (by rw [hqz]; simp only [List.length_append, List.length_cons, List.length_nil]; omega) (by have := hb4.size; omega)).mono ?_); rintro e v5 ⟨rfl, hB5, hv5, hk5⟩; have hb5 := hb4.trans hv5))
          rw [hH.out] at hB5
          go_roundw
          case rel => exact ⟨i + 1, by omega, by go_num, hB5, hb5⟩
          case measure => first | (simp [intOf]; done) | (simp [intOf]; omega)
        · have hH := hide (show acc ++ x.a.data.toList ++ (⟨(qL x.b.data.toList).toArray⟩ : ByteArray).data.toList = 123 :: rj (l.take (i + 1)) from by rw [hfin, ← hacc]; simp [rulB, hso'])
          have i1 : ¬ (1 : Int) ≤ x.op := by omega
          generalize qL x.b.data.toList = qq at *
          have hqz : (⟨qq.toArray⟩ : ByteArray).size = qq.length := by rw [Lib.size_eq]
          have hax := Lib.size_eq x.a
          clear hfin hacc hso' hx hi0 hop hat hB
          go_wp2_with (first | (go_at_call 25; (with_reducible refine (bwsT _ _ _ x.a _ hB' (by skip; omega) (by have := hbA.size; omega)).mono ?_); rintro e v2 ⟨rfl, hB2, hv2, hk2⟩; have hr2 := hk2.blk hr0 hne (by decide); have rc2 := hr2.cell; have rf2 := hr2.frozen; have hb2 := hbA.trans hv2) | (go_at_call 26; (with_reducible refine (hQ _).mono ?_); rintro e v4 ⟨rfl, hv4⟩; have hB4 := bld_below hB2 hv4; have hb4 := hb2.trans (hv4.mono (by have := hb2.size; omega))) | (go_at_call 25; (with_reducible refine (bwsT _ _ _ ⟨qq.toArray⟩ _ hB4 (by rw [hqz]; simp only [List.length_append, List.length_cons, List.length_nil]; omega) (by have := hb4.size; omega)).mono ?_); rintro e v5 ⟨rfl, hB5, hv5, hk5⟩; have hb5 := hb4.trans hv5))
          rw [hH.out] at hB5
          go_roundw
          case rel => exact ⟨i + 1, by omega, by go_num, hB5, hb5⟩
          case measure => first | (simp [intOf]; done) | (simp [intOf]; omega)
        · have hH := hide (show acc ++ x.a.data.toList ++ (⟨(qL x.b.data.toList).toArray⟩ : ByteArray).data.toList = 123 :: rj (l.take (i + 1)) from by rw [hfin, ← hacc]; simp [rulB, hso'])
          have i1 : (1 : Int) ≤ x.op := by omega
          have i2 : ¬ x.op ≤ 4 := by omega
          generalize qL x.b.data.toList = qq at *
          have hqz : (⟨qq.toArray⟩ : ByteArray).size = qq.length := by rw [Lib.size_eq]
          have hax := Lib.size_eq x.a
          clear hfin hacc hso' hx hi0 hop hat hB
          go_wp2_with (first | (go_at_call 25; (with_reducible refine (bwsT _ _ _ x.a _ hB' (by skip; omega) (by have := hbA.size; omega)).mono ?_); rintro e v2 ⟨rfl, hB2, hv2, hk2⟩; have hr2 := hk2.blk hr0 hne (by decide); have rc2 := hr2.cell; have rf2 := hr2.frozen; have hb2 := hbA.trans hv2) | (go_at_call 26; (with_reducible refine (hQ _).mono ?_); rintro e v4 ⟨rfl, hv4⟩; have hB4 := bld_below hB2 hv4; have hb4 := hb2.trans (hv4.mono (by have := hb2.size; omega))) | (go_at_call 25; (with_reducible refine (bwsT _ _ _ ⟨qq.toArray⟩ _ hB4 (by rw [hqz]; simp only [List.length_append, List.length_cons, List.length_nil]; omega) (by have := hb4.size; omega)).mono ?_); rintro e v5 ⟨rfl, hB5, hv5, hk5⟩; have hb5 := hb4.trans hv5))
          rw [hH.out] at hB5
          go_roundw
          case rel => exact ⟨i + 1, by omega, by go_num, hB5, hb5⟩
          case measure => first | (simp [intOf]; done) | (simp [intOf]; omega)
      · have d0 : decide (0 < i) = true := decide_eq_true hi0
        have hfin : rj (l.take (i + 1)) = rj (l.take i) ++ 44 :: rulB x := rj_succ hx hi0
        have hfl := congrArg List.length hfin
        simp only [List.length_append, List.length_cons] at hfl
        obtain ⟨acc, hacc⟩ : ∃ acc, 123 :: rj (l.take i) = acc := ⟨_, rfl⟩
        have hal : acc.length = (rj (l.take i)).length + 1 := by rw [← hacc]; rfl
        rw [hacc] at hB'
        rcases hop with ⟨k, o1, o4, ho, hso'⟩ | ⟨hop, hso'⟩ | ⟨hop, hso'⟩
        · have hH := hide (show acc ++ [44] ++ x.a.data.toList ++ (sgT k).data.toList ++ (⟨(qL x.b.data.toList).toArray⟩ : ByteArray).data.toList = 123 :: rj (l.take (i + 1)) from by rw [hfin, ← hacc]; simp [rulB, hso'])
          have hsl : (sgO x.op).data.toList.length = (sgT k).size := by rw [hso', Lib.size_eq]
          have hc := hat k o4
          have i1 : (1 : Int) ≤ x.op := by omega
          have i2 : x.op ≤ 4 := by omega
          have i3 : x.op < 5 := by omega
          have i4 : (0 : Int) ≤ x.op := by omega
          have hkn : x.op.toNat = k := by omega
          generalize qL x.b.data.toList = qq at *
          have hqz : (⟨qq.toArray⟩ : ByteArray).size = qq.length := by rw [Lib.size_eq]
          have hax := Lib.size_eq x.a
          have hszk := Lib.size_eq (sgT k)
          clear hfin hacc hso' hx hi0 ho hat hB
          go_wp2_with (first | (go_at_call 24; (with_reducible refine (bbyteT _ _ _ 44 44 rfl _ hB' (by omega) (by have := hbA.size; omega)).mono ?_); rintro e v1 ⟨rfl, hB1, hv1, hk1⟩; have hr1 := hk1.blk hr0 hne (by decide); have rc1 := hr1.cell; have rf1 := hr1.frozen; have hb1 := hbA.trans hv1) | (go_at_call 25; (with_reducible refine (bwsT _ _ _ x.a _ hB1 (by simp; omega) (by have := hb1.size; omega)).mono ?_); rintro e v2 ⟨rfl, hB2, hv2, hk2⟩; have hr2 := hk2.blk hr1 hne (by decide); have rc2 := hr2.cell; have rf2 := hr2.frozen; have hb2 := hb1.trans hv2; have hc2 := (hb2.cell (p := ⟨1, k, none⟩) hq0).trans hc) | (go_at_call 25; (with_reducible refine (bwsT _ _ _ (sgT k) _ hB2 (by simp only [List.length_append, List.length_cons, List.length_nil]; omega) (by have := hb2.size; omega)).mono ?_); rintro e v3 ⟨rfl, hB3, hv3, hk3⟩; have hr3 := hk3.blk hr2 hne (by decide); have rc3 := hr3.cell; have rf3 := hr3.frozen; have hb3 := hb2.trans hv3) | (go_at_call 26; (with_reducible refine (hQ _).mono ?_); rintro e v4 ⟨rfl, hv4⟩; have hB4 := bld_below hB3 hv4; have hb4 := hb3.trans (hv4.mono (by have := hb3.size; omega))) | (go_at_call 25; (with_reducible refine (bwsT _ _ _ ⟨qq.toArray⟩ _ hB4 (by rw [hqz]; simp only [List.length_append, List.length_cons, List.length_nil]; omega) (by have := hb4.size; omega)).mono ?_); rintro e v5 ⟨rfl, hB5, hv5, hk5⟩; have hb5 := hb4.trans hv5))
          rw [hH.out] at hB5
          go_roundw
          case rel => exact ⟨i + 1, by omega, by go_num, hB5, hb5⟩
          case measure => first | (simp [intOf]; done) | (simp [intOf]; omega)
        · have hH := hide (show acc ++ [44] ++ x.a.data.toList ++ (⟨(qL x.b.data.toList).toArray⟩ : ByteArray).data.toList = 123 :: rj (l.take (i + 1)) from by rw [hfin, ← hacc]; simp [rulB, hso'])
          have i1 : ¬ (1 : Int) ≤ x.op := by omega
          generalize qL x.b.data.toList = qq at *
          have hqz : (⟨qq.toArray⟩ : ByteArray).size = qq.length := by rw [Lib.size_eq]
          have hax := Lib.size_eq x.a
          clear hfin hacc hso' hx hi0 hop hat hB
          go_wp2_with (first | (go_at_call 24; (with_reducible refine (bbyteT _ _ _ 44 44 rfl _ hB' (by omega) (by have := hbA.size; omega)).mono ?_); rintro e v1 ⟨rfl, hB1, hv1, hk1⟩; have hr1 := hk1.blk hr0 hne (by decide); have rc1 := hr1.cell; have rf1 := hr1.frozen; have hb1 := hbA.trans hv1) | (go_at_call 25; (with_reducible refine (bwsT _ _ _ x.a _ hB1 (by simp; omega) (by have := hb1.size; omega)).mono ?_); rintro e v2 ⟨rfl, hB2, hv2, hk2⟩; have hr2 := hk2.blk hr1 hne (by decide); have rc2 := hr2.cell; have rf2 := hr2.frozen; have hb2 := hb1.trans hv2) | (go_at_call 26; (with_reducible refine (hQ _).mono ?_); rintro e v4 ⟨rfl, hv4⟩; have hB4 := bld_below hB2 hv4; have hb4 := hb2.trans (hv4.mono (by have := hb2.size; omega))) | (go_at_call 25; (with_reducible refine (bwsT _ _ _ ⟨qq.toArray⟩ _ hB4 (by rw [hqz]; simp only [List.length_append, List.length_cons, List.length_nil]; omega) (by have := hb4.size; omega)).mono ?_); rintro e v5 ⟨rfl, hB5, hv5, hk5⟩; have hb5 := hb4.trans hv5))
          rw [hH.out] at hB5
          go_roundw
          case rel => exact ⟨i + 1, by omega, by go_num, hB5, hb5⟩
          case measure => first | (simp [intOf]; done) | (simp [intOf]; omega)
        · have hH := hide (show acc ++ [44] ++ x.a.data.toList ++ (⟨(qL x.b.data.toList).toArray⟩ : ByteArray).data.toList = 123 :: rj (l.take (i + 1)) from by rw [hfin, ← hacc]; simp [rulB, hso'])
          have i1 : (1 : Int) ≤ x.op := by omega
          have i2 : ¬ x.op ≤ 4 := by omega
          generalize qL x.b.data.toList = qq at *
          have hqz : (⟨qq.toArray⟩ : ByteArray).size = qq.length := by rw [Lib.size_eq]
          have hax := Lib.size_eq x.a
          clear hfin hacc hso' hx hi0 hop hat hB
          go_wp2_with (first | (go_at_call 24; (with_reducible refine (bbyteT _ _ _ 44 44 rfl _ hB' (by omega) (by have := hbA.size; omega)).mono ?_); rintro e v1 ⟨rfl, hB1, hv1, hk1⟩; have hr1 := hk1.blk hr0 hne (by decide); have rc1 := hr1.cell; have rf1 := hr1.frozen; have hb1 := hbA.trans hv1) | (go_at_call 25; (with_reducible refine (bwsT _ _ _ x.a _ hB1 (by simp; omega) (by have := hb1.size; omega)).mono ?_); rintro e v2 ⟨rfl, hB2, hv2, hk2⟩; have hr2 := hk2.blk hr1 hne (by decide); have rc2 := hr2.cell; have rf2 := hr2.frozen; have hb2 := hb1.trans hv2) | (go_at_call 26; (with_reducible refine (hQ _).mono ?_); rintro e v4 ⟨rfl, hv4⟩; have hB4 := bld_below hB2 hv4; have hb4 := hb2.trans (hv4.mono (by have := hb2.size; omega))) | (go_at_call 25; (with_reducible refine (bwsT _ _ _ ⟨qq.toArray⟩ _ hB4 (by rw [hqz]; simp only [List.length_append, List.length_cons, List.length_nil]; omega) (by have := hb4.size; omega)).mono ?_); rintro e v5 ⟨rfl, hB5, hv5, hk5⟩; have hb5 := hb4.trans hv5))
          rw [hH.out] at hB5
          go_roundw
          case rel => exact ⟨i + 1, by omega, by go_num, hB5, hb5⟩
          case measure => first | (simp [intOf]; done) | (simp [intOf]; omega)
    · obtain rfl : i = l.length := by omega
      rw [List.take_length] at hB
      have hH := hide (show (⟨(123 :: rj l ++ [125]).toArray⟩ : ByteArray) = rtB l from rfl)
      clear h hsh hg
      go_wp2_with (first
        | (go_at_call 24; (with_reducible refine (bbyteT _ _ _ 125 125 rfl _ hB (by simp; omega) hqw).mono ?_); rintro e v1 ⟨rfl, hB1, hv1, hk1⟩; have hb1 := hb.trans hv1)
        | (go_at_call 27; (with_reducible refine (bstr_any _ _ _ _ hB1 (by have := hb1.size; omega)).mono ?_); rintro e v2 ⟨rfl, hv2⟩))
      go_ret
      exact ⟨by rw [← hH.out]; rfl, by rw [hq]; exact hb1.trans hv2⟩
end Go.Proofs.YtamnononemallaaDoor
