import Derived.Test.YthajbeooemngpaaItem
/-! Lists of things, laid by the program and by the document. -/
namespace Go.Proofs.Ythajbeooemngpaa
open Go.RowKit
set_option linter.unusedVariables false
set_option linter.unusedSimpArgs false
structure It where
  kind : Int
  num : Int
  int : Int
  flag : Bool
  text : ByteArray
  wall : Int
  tick : Int
  mark : Int
  most : Int
  deriving Inhabited
def It.cells (x : It) : List Value := [.int .i64 x.kind, .int .u64 x.num, .int .i64 x.int, .bool x.flag, .string x.text, .int .i64 x.wall, .int .u32 x.tick, .int .u32 x.mark, .int .i64 x.most]
def It.ok (x : It) : Prop := I64 x.kind ∧ U64 x.num ∧ I64 x.int ∧ I64 x.wall ∧ U32 x.tick ∧ U32 x.mark ∧ I64 x.most
def itms (l : List It) : List Value := l.flatMap It.cells
theorem itms_length (l : List It) : (itms l).length = l.length * 9 := by
  induction l with
  | nil => rfl
  | cons p l ih =>
    simp only [itms, List.flatMap_cons, List.length_append, List.length_cons] at *
    rw [ih]
    simp only [It.cells, List.length_cons, List.length_nil]
    omega
theorem itms_get : ∀ (l : List It) (i : Nat) (x : It), l[i]? = some x → ∀ k v, x.cells[k]? = some v → (itms l)[i * 9 + k]? = some v
  | q :: l, 0, p, h, k, v, hv => by
    simp only [List.getElem?_cons_zero, Option.some.injEq] at h
    subst h
    have e : itms (q :: l) = q.cells ++ itms l := rfl
    have hk : k < q.cells.length := (List.getElem?_eq_some_iff.1 hv).1
    rw [e, Nat.zero_mul, Nat.zero_add, List.getElem?_append_left hk, hv]
  | q :: l, i + 1, p, h, k, v, hv => by
    have := itms_get l i p (by simpa using h) k v hv
    have e : itms (q :: l) = q.cells ++ itms l := rfl
    have hl : q.cells.length = 9 := rfl
    rw [e, List.getElem?_append_right (by rw [hl]; omega), hl, show (i + 1) * 9 + k - 9 = i * 9 + k by omega]
    exact this
/-- A thing's bytes. -/
def itemB (x : It) : List Nat := if x.kind = 0 then numB x.num.toNat else if x.kind = 1 then numB (zig x.int) else if x.kind = 2 then flagB x.flag else if x.kind = 3 then textB x.text else if x.kind = 4 then stampBytes x.wall x.tick x.mark else []
def itemsB (l : List It) : List Nat := l.flatMap itemB
theorem itemsB_take {l : List It} {j : Nat} {x : It} (h : l[j]? = some x) : itemsB (l.take (j + 1)) = itemsB (l.take j) ++ itemB x := by
  rw [List.take_add_one, h]
  simp [itemsB]
theorem itemsB_le (l : List It) (j : Nat) : (itemsB (l.take j)).length ≤ (itemsB l).length := by
  have : itemsB l = itemsB (l.take j) ++ itemsB (l.drop j) := by
    unfold itemsB
    rw [← List.flatMap_append, List.take_append_drop]
  rw [this, List.length_append]
  omega
/-- A writer and a row beside it. -/
structure Two (w : World) (base g : Nat) (t : TypeId) (v vo : Value) (xs ys : List Nat) : Prop where
  wr : Wrt w base g t v xs
  row : Row w base vo ys
  dis : ∀ k, vo.ownBlock = some k → k ≠ g ∧ v.ownBlock ≠ some k
theorem Two.step1 {w w' : World} {base g : Nat} {t : TypeId} {v v' vo : Value} {xs xs' ys : List Nat} (h : Two w base g t v vo xs ys) (hw : Wrt w' base g t v' xs') (hc : Chw w w' g v v') : Two w' base g t v' vo xs' ys :=
  ⟨hw, h.row.keep fun k hk e => hc.block k hk (h.dis k e).1 (h.dis k e).2, fun k e => ⟨(h.dis k e).1, hc.old (h.row.ge e).2 (h.dis k e).2⟩⟩
theorem Two.step2 {w w' : World} {base g : Nat} {t : TypeId} {v vo vo' : Value} {xs ys ys' : List Nat} (h : Two w base g t v vo xs ys) (hr : Row w' base vo' ys') (hc : Chg w w' vo vo') : Two w' base g t v vo' xs ys' := by
  refine ⟨⟨(hc.block g h.wr.blk.lt fun e => (h.dis g e).1 rfl).trans h.wr.blk, h.wr.row.keep fun k hk e => hc.block k hk fun e' => (h.dis k e').2 e, h.wr.ne, h.wr.ge⟩, hr, fun k e => ?_⟩
  rcases hc.lies with e' | ⟨b, e', hb⟩
  · rw [e'] at e
    exact h.dis k e
  · rw [e'] at e
    cases e
    have := h.wr.blk.lt
    exact ⟨by omega, h.wr.row.far hb⟩
theorem Two.below {w w' : World} {base g : Nat} {t : TypeId} {v vo : Value} {xs ys : List Nat} (h : Two w base g t v vo xs ys) (hb : Below w.heap.size w w') : Two w' base g t v vo xs ys :=
  ⟨h.wr.below hb, h.row.below hb, h.dis⟩
set_option maxRecDepth 100000 in
set_option maxHeartbeats 1000000 in
theorem laid_any (A : Option Addr) (n c : Nat) (l : List It) (w : World) (hr : Reads w w.heap.size 9 A n (itms l)) (hok : ∀ x ∈ l, x.ok) (hlen : (itemsB l).length + 64 ≤ 140737488355328) (hn : n ≤ 9223372036854775807) :
    Calls Try.prog 22 #[.slice A n c] w fun e w' => ∃ u v, e = .returned (.tuple #[u, v]) ∧ Row w' w.heap.size u (itemsB l) ∧ Row w' w.heap.size v (itemsB l) ∧ Below w.heap.size w w' := by
  have hl : l.length = n := by have := hr.1; rw [itms_length] at this; omega
  go_enter Try.func22, Try.ntmps22
  go_wp2_with (first | (go_at_call 23; (with_reducible refine (new_any _).mono ?_); rintro e w1 ⟨rfl, hw1, hb1⟩))
  go_loopw [5, 11] (fun vo vi wr => ∃ (j : Nat) (v : Value), j ≤ n ∧ vi = .int .i64 (j : Int) ∧ Two wr w.heap.size w.heap.size 124 v vo (itemsB (l.take j)) (itemsB (l.take j)) ∧ Below w.heap.size w wr) (fun _ vi _ => ((n : Int) - intOf vi).toNat)
  case atStart => exact ⟨0, _, by omega, rfl, ⟨hw1, Row.nil _ _, fun k e => by cases e⟩, hb1⟩
  case round =>
    clear hw1 hb1
    obtain ⟨j, v, hj, rfl, ht, hb⟩ := hrel
    obtain ⟨wo, rfl⟩ : ∃ wo : World, wo = wr := ⟨_, rfl⟩
    have hs := hb.size
    have hgl := ht.wr.blk.lt
    by_cases hlt : j < n
    · obtain ⟨b, o, rfl, hbb, hc⟩ := hr.plain (by omega) (by omega)
      obtain ⟨x, hx⟩ : ∃ x, l[j]? = some x := ⟨l[j]'(by omega), List.getElem?_eq_getElem (by omega)⟩
      have hxo := hok x (List.mem_of_getElem? hx)
      have HT := hide (itemsB_take hx)
      have hle := itemsB_le l (j + 1)
      rw [HT.out, List.length_append] at hle
      have hcell : ∀ k u, x.cells[k]? = some u → wo.cell? ⟨b, o + j * 9 + k, none⟩ = some u := fun k u hu => by
        rw [hb.cell (p := ⟨b, _, none⟩) hbb, Nat.add_assoc]
        exact hc _ _ (itms_get l j x hx k u hu)
      have m0 := hcell 0 _ rfl
      have m1 := hcell 1 _ rfl
      have m2 := hcell 2 _ rfl
      have m3 := hcell 3 _ rfl
      have m4 := hcell 4 _ rfl
      have m5 := hcell 5 _ rfl
      have m6 := hcell 6 _ rfl
      have m7 := hcell 7 _ rfl
      have m8 := hcell 8 _ rfl
      rw [Nat.add_zero] at m0
      have hbw : b < wo.heap.size := by omega
      have hlj : (j : Int) < n := by omega
      have h0 := ht.below (Below.alloc (Below.refl _ _) (Nat.le_refl _) (.cells x.cells.toArray 51))
      have hBs := Blk.new wo 51 x.cells.toArray
      have hne1 := ht.wr.row.far (Nat.le_refl _)
      have hne2 : wo.heap.size ≠ w.heap.size := by omega
      clear hc hr hcell hok hx
      obtain ⟨xk, xn, xi, xf, xs, xa, xb, xc, xm⟩ := x
      obtain ⟨o1, o2, o3, o4, o5, o6, o7⟩ := hxo
      simp only [It.cells] at *
      by_cases k0 : xk = 0
      · subst k0
        rw [show itemB ⟨0, xn, xi, xf, xs, xa, xb, xc, xm⟩ = numB xn.toNat from rfl] at HT hle
        have hlA : (itemsB (l.take j)).length + 9 ≤ 140737488355328 := by omega
        go_wp2_with (first | (go_at_call 45; (with_reducible refine (num_any _ _ _ _ _ _ h0.wr o2 hlA).mono ?_); rintro e w2 ⟨rfl, v2, hv2, hg2⟩; have h2 := h0.step1 hv2 hg2; have hB2 := Blk.chw hBs hg2 hne2 hne1; have c2 := Blk.cell hB2; have f2 := Blk.frozen hB2; have l2 := Blk.lt hB2; have hs2 := hg2.size; simp only [World.size_alloc] at hs2) | (go_at_call 67; (with_reducible refine (rnum_any _ _ _ _ _ h2.row (by omega) o2 hlA).mono ?_); rintro e w3 ⟨v3, rfl, hr3, hg3⟩; have h3 := h2.step2 hr3 hg3))
        go_roundw; (case rel => exact ⟨j + 1, v2, by omega, by go_num, by rw [HT.out]; exact h3, ((hb.alloc hs _).trans ((hg2.below h0.wr).mono (by omega))).trans ((hg3.below h2.row (by omega)).mono (Nat.le_refl _))⟩); (case measure => simp [intOf]; omega)
      · by_cases k1 : xk = 1
        · subst k1
          rw [show itemB ⟨1, xn, xi, xf, xs, xa, xb, xc, xm⟩ = numB (zig xi) from rfl] at HT hle
          have hlA : (itemsB (l.take j)).length + 9 ≤ 140737488355328 := by omega
          clear k0
          go_wp2_with (first | (go_at_call 46; (with_reducible refine (int_any _ _ _ _ _ _ h0.wr o3 hlA).mono ?_); rintro e w2 ⟨rfl, v2, hv2, hg2⟩; have h2 := h0.step1 hv2 hg2; have hB2 := Blk.chw hBs hg2 hne2 hne1; have c2 := Blk.cell hB2; have f2 := Blk.frozen hB2; have l2 := Blk.lt hB2; have hs2 := hg2.size; simp only [World.size_alloc] at hs2) | (go_at_call 68; (with_reducible refine (rint_any _ _ _ _ _ h2.row (by omega) o3 hlA).mono ?_); rintro e w3 ⟨v3, rfl, hr3, hg3⟩; have h3 := h2.step2 hr3 hg3))
          go_roundw; (case rel => exact ⟨j + 1, v2, by omega, by go_num, by rw [HT.out]; exact h3, ((hb.alloc hs _).trans ((hg2.below h0.wr).mono (by omega))).trans ((hg3.below h2.row (by omega)).mono (Nat.le_refl _))⟩); (case measure => simp [intOf]; omega)
        · by_cases k2 : xk = 2
          · subst k2
            rw [show itemB ⟨2, xn, xi, xf, xs, xa, xb, xc, xm⟩ = flagB xf from rfl] at HT hle
            have hlA : (itemsB (l.take j)).length + 9 ≤ 140737488355328 := by omega
            clear k0 k1
            go_wp2_with (first | (go_at_call 47; (with_reducible refine (flag_any _ _ _ _ _ _ h0.wr hlA).mono ?_); rintro e w2 ⟨rfl, v2, hv2, hg2⟩; have h2 := h0.step1 hv2 hg2; have hB2 := Blk.chw hBs hg2 hne2 hne1; have c2 := Blk.cell hB2; have f2 := Blk.frozen hB2; have l2 := Blk.lt hB2; have hs2 := hg2.size; simp only [World.size_alloc] at hs2) | (go_at_call 70; (with_reducible refine (rflag_any _ _ _ _ _ h2.row (by omega) hlA).mono ?_); rintro e w3 ⟨v3, rfl, hr3, hg3⟩; have h3 := h2.step2 hr3 hg3))
            go_roundw; (case rel => exact ⟨j + 1, v2, by omega, by go_num, by rw [HT.out]; exact h3, ((hb.alloc hs _).trans ((hg2.below h0.wr).mono (by omega))).trans ((hg3.below h2.row (by omega)).mono (Nat.le_refl _))⟩); (case measure => simp [intOf]; omega)
          · by_cases k3 : xk = 3
            · subst k3
              rw [show itemB ⟨3, xn, xi, xf, xs, xa, xb, xc, xm⟩ = textB xs from rfl] at HT hle
              have hlA : (itemsB (l.take j)).length + 9 + xs.size ≤ 140737488355328 := by
                unfold textB at hle
                rw [List.length_append, numsOf_length] at hle
                omega
              clear k0 k1 k2
              go_wp2_with (first | (go_at_call 24; (with_reducible refine (text_any _ _ _ _ _ _ h0.wr hlA).mono ?_); rintro e w2 ⟨rfl, v2, hv2, hg2⟩; have h2 := h0.step1 hv2 hg2; have hB2 := Blk.chw hBs hg2 hne2 hne1; have c2 := Blk.cell hB2; have f2 := Blk.frozen hB2; have l2 := Blk.lt hB2; have hs2 := hg2.size; simp only [World.size_alloc] at hs2) | (go_at_call 71; (with_reducible refine (rtext_any _ _ _ _ _ h2.row (by omega) hlA).mono ?_); rintro e w3 ⟨v3, rfl, hr3, hg3⟩; have h3 := h2.step2 hr3 hg3))
              go_roundw; (case rel => exact ⟨j + 1, v2, by omega, by go_num, by rw [HT.out]; exact h3, ((hb.alloc hs _).trans ((hg2.below h0.wr).mono (by omega))).trans ((hg3.below h2.row (by omega)).mono (Nat.le_refl _))⟩); (case measure => simp [intOf]; omega)
            · by_cases k4 : xk = 4
              · subst k4
                rw [show itemB ⟨4, xn, xi, xf, xs, xa, xb, xc, xm⟩ = stampBytes xa xb xc from rfl] at HT hle
                have hlA : (itemsB (l.take j)).length + 16 ≤ 140737488355328 := by omega
                clear k0 k1 k2 k3
                go_wp2_with (first | (go_at_call 72; (with_reducible refine (sto_any _ _ _ _).mono ?_); rintro e w1 ⟨rfl, hb1⟩; have h1 := h0.below hb1; have hB1 := Blk.below hBs hb1 (Blk.lt hBs); have hs1 := hb1.size; simp only [World.size_alloc] at hs1) | (go_at_call 48; (with_reducible refine (stampw_any _ _ _ _ _ _ _ _ h1.wr o4 o5 o6 hlA).mono ?_); rintro e w2 ⟨rfl, v2, hv2, hg2⟩; have h2 := h1.step1 hv2 hg2; have hB2 := Blk.chw hB1 hg2 hne2 hne1; have c2 := Blk.cell hB2; have f2 := Blk.frozen hB2; have l2 := Blk.lt hB2; have hs2 := hg2.size) | (go_at_call 73; (with_reducible refine (rstamp_any _ _ _ _ _ _ _ h2.row (by omega) o4 o5 o6 hlA).mono ?_); rintro e w3 ⟨v3, rfl, hr3, hg3⟩; have h3 := h2.step2 hr3 hg3))
                go_roundw
                case rel => exact ⟨j + 1, v2, by omega, by go_num, by rw [HT.out]; exact h3, (((hb.alloc hs _).trans (hb1.mono (by simp; omega))).trans ((hg2.below h1.wr).mono (by omega))).trans ((hg3.below h2.row (by omega)).mono (Nat.le_refl _))⟩
                case measure => simp [intOf]; omega
              · rw [show itemB ⟨xk, xn, xi, xf, xs, xa, xb, xc, xm⟩ = [] by simp [itemB, k0, k1, k2, k3, k4]] at HT hle
                have e0 : (xk == 0) = false := by simpa using k0
                have e1 : (xk == 1) = false := by simpa using k1
                have e2 : (xk == 2) = false := by simpa using k2
                have e3 : (xk == 3) = false := by simpa using k3
                have e4 : (xk == 4) = false := by simpa using k4
                go_wp2
                go_roundw
                case rel => exact ⟨j + 1, v, by omega, by go_num, by rw [HT.out, List.append_nil]; exact h0, hb.alloc hs _⟩
                case measure => simp [intOf]; omega
    · obtain rfl : j = n := by omega
      rw [List.take_of_length_le (by omega)] at ht
      have hlB : (itemsB l).length + 9 ≤ 140737488355328 := by omega
      clear hr
      go_wp2_with (first | (go_at_call 25; (with_reducible refine (bytes_any _ _ _ _ _ ht.wr hlB).mono ?_); rintro e w6 ⟨u, rfl, hu6, hb6⟩))
      refine bodyPost_ret (v := .tuple #[u, _]) (by simp [results, Try.results22, go_sem] <;> rfl) rfl ⟨u, _, rfl, hu6.base hs, ht.row.below hb6, hb.trans (hb6.mono hs)⟩
end Go.Proofs.Ythajbeooemngpaa
