import Derived.Test.YtacnfcolkllagaaDoorPa
import Derived.Test.YtacnfcolkllagaaDoorOnly
import Derived.Test.YtacnfcolkllagaaDoorFirst
/-! The stamp that a text is: the document's. -/
namespace Go.Proofs.YtacnfcolkllagaaDoor
open Go.RowKit
set_option linter.unusedVariables false
set_option linter.unusedSimpArgs false
/-- Parts, three of them, behind them nothing: as the document's array holds them. -/
def par3 (l : List (List UInt8)) (k : Nat) : ByteArray := ⟨(l.getD k []).toArray⟩
theorem Blk.at_ {w : World} {g : Nat} {t : TypeId} {cs : Array Value} (h : w.heap.size = g) : Blk (w.alloc (.cells cs t)) g t cs := h ▸ Blk.new w t cs
theorem par3_dot (l : List UInt8) (k : Nat) : par3 (dotL (l ++ [46])) k = par3 (dotL l) k := by
  unfold par3
  rw [dotL_dot]
  congr 2
  simp only [List.getD_eq_getElem?_getD, List.getElem?_append]
  split
  · rfl
  · rename_i h
    rw [List.getElem?_eq_none (l := dotL l) (by omega)]
    rcases Nat.eq_zero_or_pos (k - (dotL l).length) with h0 | h0
    · rw [h0]; rfl
    · rw [List.getElem?_eq_none (by simp; omega)]
theorem par3_byte {y : UInt8} (hy : y ≠ 46) (l : List UInt8) (k : Nat) : par3 (dotL (l ++ [y])) k = if k + 1 = (dotL l).length then par3 (dotL l) k ++ ⟨#[y]⟩ else par3 (dotL l) k := by
  have hl : (dotL l).length ≠ 0 := fun h => dotL_ne l (List.length_eq_zero_iff.1 h)
  have hg : (dotL l).getLast (dotL_ne l) = (dotL l).getD ((dotL l).length - 1) [] := by
    rw [List.getLast_eq_getElem, List.getD_eq_getElem?_getD, List.getElem?_eq_getElem (by omega)]; rfl
  unfold par3
  rw [dotL_byte hy, hg]
  by_cases hk : k + 1 = (dotL l).length
  · rw [if_pos hk]
    apply ByteArray.ext
    simp only [ByteArray.data_append]
    apply Array.toList_inj.1
    rw [List.getD_eq_getElem?_getD, List.getElem?_append_right (by rw [List.length_dropLast]; omega), List.length_dropLast, show k - ((dotL l).length - 1) = 0 by omega]
    simp only [List.getElem?_cons_zero, Option.getD_some, Array.toList_append, show (dotL l).length - 1 = k by omega]
  · rw [if_neg hk]
    congr 2
    rw [List.getD_eq_getElem?_getD, List.getD_eq_getElem?_getD]
    congr 1
    rcases Nat.lt_or_ge k ((dotL l).length - 1) with h | h
    · rw [List.getElem?_append_left (by rw [List.length_dropLast]; exact h), List.getElem?_dropLast, if_pos h]
    · rw [List.getElem?_append_right (by rw [List.length_dropLast]; exact h), List.length_dropLast, List.getElem?_eq_none (by simp; omega), List.getElem?_eq_none (by omega)]
theorem dotL_lenb {y : UInt8} (hy : y ≠ 46) (l : List UInt8) : (dotL (l ++ [y])).length = (dotL l).length := by
  have hl : (dotL l).length ≠ 0 := fun h => dotL_ne l (List.length_eq_zero_iff.1 h)
  rw [dotL_byte hy]; simp; omega
theorem dotL_lend (l : List UInt8) : (dotL (l ++ [46])).length = (dotL l).length + 1 := by rw [dotL_dot]; simp
theorem dotL_pos (l : List UInt8) : 0 < (dotL l).length := List.length_pos_iff.2 (dotL_ne l)
theorem dotL_more (l : List UInt8) : ∀ m : List UInt8, (dotL l).length ≤ (dotL (l ++ m)).length := by
  intro m
  induction m generalizing l with
  | nil => simp
  | cons x m ih =>
    have := ih (l ++ [x])
    rw [List.append_assoc] at this
    refine Nat.le_trans ?_ this
    by_cases hx : x = 46
    · subst hx; rw [dotL_lend]; omega
    · rw [dotL_lenb hx]; exact Nat.le_refl _
theorem dotL_size : ∀ l : List UInt8, ∀ x ∈ dotL l, x.length ≤ l.length
  | [], x, h => by simp [dotL] at h; subst h; exact Nat.le_refl _
  | y :: l, x, h => by
    have ih := dotL_size l
    unfold dotL at h
    split at h
    · rcases List.mem_cons.1 h with rfl | h
      · simp
      · have := ih x h; simp only [List.length_cons]; omega
    · split at h
      · simp at h; subst h; simp
      · rename_i p r hd
        rcases List.mem_cons.1 h with rfl | h
        · have := ih p (by rw [hd]; simp); simp only [List.length_cons]; omega
        · have := ih x (by rw [hd]; simp [h]); simp only [List.length_cons]; omega
theorem par3_size (l : List UInt8) (k : Nat) : (par3 (dotL l) k).size ≤ l.length := by
  unfold par3
  rw [Lib.size_eq]
  simp only [List.toList_toArray]
  rcases Nat.lt_or_ge k (dotL l).length with h | h
  · have := dotL_size l ((dotL l)[k]) (List.getElem_mem h)
    rw [List.getD_eq_getElem?_getD, List.getElem?_eq_getElem h]
    exact this
  · rw [List.getD_eq_getElem?_getD, List.getElem?_eq_none h]; simp
theorem par3_three {D : List (List UInt8)} (h : D.length = 3) : D = [(par3 D 0).data.toList, (par3 D 1).data.toList, (par3 D 2).data.toList] := by
  match D, h with
  | [a, b, c], _ => simp [par3]
theorem num_some (s : ByteArray) (m : Nat) (hm : m ≤ 4611686018427387904) (M : Int) (hM : M = (m : Int)) {x : Nat} (h : numR s.data.toList m = some x) (w : World) :
    Calls Tryd.prog 15 #[.string s, .int .u64 M] w fun e w' => e = .returned (.tuple #[.int .u64 (x : Int), .bool true]) ∧ w' = w :=
  hM ▸ (number_any s m hm w).mono fun e w' ⟨⟨⟨r, b⟩, he, hr⟩, hw⟩ => by
    unfold NumOk at hr
    dsimp only at hr he
    rw [h] at hr
    cases b with
    | false => simp at hr
    | true => simp at hr; subst hr; exact ⟨he, hw⟩
theorem num_none (s : ByteArray) (m : Nat) (hm : m ≤ 4611686018427387904) (M : Int) (hM : M = (m : Int)) (h : numR s.data.toList m = none) (w : World) :
    Calls Tryd.prog 15 #[.string s, .int .u64 M] w fun e w' => (∃ r : Nat, e = .returned (.tuple #[.int .u64 (r : Int), .bool false])) ∧ w' = w :=
  hM ▸ (number_any s m hm w).mono fun e w' ⟨⟨⟨r, b⟩, he, hr⟩, hw⟩ => by
    unfold NumOk at hr
    dsimp only at hr he
    rw [h] at hr
    cases b with
    | false => exact ⟨⟨r, he⟩, hw⟩
    | true => simp at hr
theorem num_all (s : ByteArray) (m : Nat) (hm : m ≤ 4611686018427387904) (M : Int) (hM : M = (m : Int)) (w : World) :
    Calls Tryd.prog 15 #[.string s, .int .u64 M] w fun e w' => (∃ r : NumA, e = .returned (.tuple #[.int .u64 (r.x : Int), .bool r.b])) ∧ w' = w :=
  hM ▸ (number_any s m hm w).mono fun e w' ⟨⟨r, he, hr⟩, hw⟩ => ⟨⟨r, he⟩, hw⟩
theorem num_le {l : List UInt8} {m x : Nat} (hm : m ≤ 4611686018427387904) (h : numR l m = some x) : x ≤ m := by
  rw [partP_eq l m hm] at h
  split at h
  · rename_i hc; injection h with h; omega
  · cases h
theorem stO_bad {D : List (List UInt8)} (h : numR (par3 D 0).data.toList 4611686018427387904 = none ∨ numR (par3 D 1).data.toList 4294967295 = none ∨ numR (par3 D 2).data.toList 4294967295 = none) : stO D = none := by
  by_cases h3 : D.length = 3
  · rw [par3_three h3]
    unfold stO
    dsimp only
    rcases h with h | h | h
    · rw [h]
    · rw [h]; split <;> rfl
    · rw [h]; split
      · rfl
      · split <;> rfl
  · exact stO_len h3
theorem stO_good {D : List (List UInt8)} {x y z : Nat} (h3 : D.length = 3) (h0 : numR (par3 D 0).data.toList 4611686018427387904 = some x) (h1 : numR (par3 D 1).data.toList 4294967295 = some y) (h2 : numR (par3 D 2).data.toList 4294967295 = some z) : stO D = some ⟨x, y, z⟩ := by
  rw [par3_three h3]
  unfold stO
  dsimp only
  rw [h0, h1, h2]
set_option maxRecDepth 100000 in
set_option maxHeartbeats 8000000 in
theorem rsparse_any (s : ByteArray) (hs : s.size < 4294967281) (w : World) :
    Calls Tryd.prog 7 #[.string s] w fun e w' => e = .returned (.tuple #[.agg #[.int .i64 (stW (stO (dotL s.data.toList))), .int .u32 (stT (stO (dotL s.data.toList))), .int .u32 (stM (stO (dotL s.data.toList)))], .int .i64 (stE (stO (dotL s.data.toList)))]) ∧ Below w.heap.size w w' := by
  go_enter Tryd.func7, Tryd.ntmps7
  go_wp2
  refine abstr (fun W => Below w.heap.size w W ∧ Blk W w.heap.size 24 #[.int .i64 0, .int .u32 0, .int .u32 0] ∧ Blk W (w.heap.size + 1) 44 #[.string ⟨#[]⟩, .string ⟨#[]⟩, .string ⟨#[]⟩]) ⟨by (repeat' (first | with_reducible exact Below.refl _ _ | with_reducible refine Below.ext ?_ ?_ _ | with_reducible refine Below.alloc ?_ ?_ _ | with_reducible refine Below.setCell ?_ ?_ _ | with_reducible refine Below.drew ?_ | with_reducible assumption | (simp [World.size_ext]; done) | (simp [World.size_ext]; omega))), by (repeat' (first | with_reducible exact Blk.at_ (by simp) | with_reducible refine Blk.alloc ?_ _ | with_reducible apply Blk.set_to | with_reducible refine Blk.far ?_ ?_ _ | rfl | (simp; done) | (simp; omega))), by (repeat' (first | with_reducible exact Blk.at_ (by simp) | with_reducible refine Blk.alloc ?_ _ | with_reducible apply Blk.set_to | with_reducible refine Blk.far ?_ ?_ _ | rfl | (simp; done) | (simp; omega)))⟩ (fun W hW => ?_)
  obtain ⟨hb0, hA0, hB0⟩ := hW
  obtain ⟨q, hq⟩ : ∃ q, w.heap.size = q := ⟨_, rfl⟩
  obtain ⟨p, hp⟩ : ∃ p, w.heap.size + 1 = p := ⟨_, rfl⟩
  rw [hp] at hB0
  rw [hp]
  rw [hq] at hA0
  simp only [hq]
  have hpq : q ≤ p := by omega
  have npq : p ≠ q := by omega
  have nqp : q ≠ p := by omega
  clear hp
  go_loopw [5, 6] (fun s5 s6 wr => ∃ i n : Nat, i ≤ s.size ∧ s6 = .int .i64 (i : Int) ∧ s5 = .int .i64 (n : Int) ∧ (dotL (s.data.toList.take i)).length = n + 1 ∧ n ≤ 2 ∧ Below w.heap.size w wr ∧ Blk wr q 24 #[.int .i64 0, .int .u32 0, .int .u32 0] ∧ Blk wr p 44 #[.string (par3 (dotL (s.data.toList.take i)) 0), .string (par3 (dotL (s.data.toList.take i)) 1), .string (par3 (dotL (s.data.toList.take i)) 2)]) (fun _ s6 _ => ((s.size : Int) - intOf s6).toNat)
  case atStart => exact ⟨0, 0, by omega, rfl, rfl, by simp [dotL], by omega, hb0, hA0, hB0⟩
  case round =>
    obtain ⟨i, n, hi, rfl, rfl, hn, hn2, hb, hA, hB⟩ := hrel
    clear hb0 hA0 hB0
    have kf := hA.frozen
    have kc := hA.cell
    by_cases hlt : i < s.size
    · have hii : (i : Int) < s.size := by omega
      have hii1 : (i : Int) + 1 ≤ s.size := by omega
      have hi3 : 0 ≤ (i : Int) + 1 := by omega
      have hi4 : (i : Int) ≤ (i : Int) + 1 := by omega
      have hwi : IntKind.i64.wrap ((i : Int) + 1) = (i : Int) + 1 := by rw [IntKind.wrap_i64]; omega
      have htk := take9 hlt
      obtain ⟨x, hx⟩ : ∃ x : UInt8, s[i] = x := ⟨_, rfl⟩
      rw [hx] at htk
      by_cases hdx : x = 46
      · subst hdx
        have e1 : (((46 : UInt8).toNat : Int) != 46) = false := by decide
        have HL := dotL_lend (s.data.toList.take i)
        rw [← htk] at HL
        by_cases h3 : n = 2
        · have hO := hide (stO_len (l := dotL s.data.toList) (by
            have := dotL_more (s.data.toList.take (i + 1)) (s.data.toList.drop (i + 1))
            rw [List.take_append_drop] at this
            omega))
          subst h3
          clear htk HL hn
          go_wp2
          refine bodyPost_cell_tmp (cs := #[.int .i64 0, .int .u32 0, .int .u32 0]) Tryd.results7 rfl (by first | exact Blk.three hA | exact hA) Tryd.underlying24 rfl (by kernel_rfl) rfl ⟨?_, ?_⟩
          · rw [hO.out]; rfl
          · first | exact hb | (rw [← hq]; exact hb.setCell (by first | exact Nat.le_refl _ | (simp; done)) _ |>.setCell (by first | exact Nat.le_refl _ | (simp; done)) _ |>.setCell (by first | exact Nat.le_refl _ | (simp; done)) _)
        · have z0 := par3_dot (s.data.toList.take i)
          rw [← htk] at z0
          have HN := hide (show n + 1 ≤ 2 ∧ (dotL (s.data.toList.take (i + 1))).length = n + 1 + 1 from ⟨by omega, by omega⟩)
          have e2 : ¬ (2 : Int) < (n : Int) + 1 := by omega
          rw [← z0, ← z0, ← z0] at hB
          clear htk HL hn z0
          go_wp2
          go_roundw
          case rel => exact ⟨i + 1, n + 1, by omega, by go_num, by go_num, HN.out.2, HN.out.1, hb, hA, hB⟩
          case measure => first | (simp [intOf]; done) | (simp [intOf]; omega)
      · have e1 : ((x.toNat : Int) != 46) = true := by
          rw [bne_iff_ne]
          intro h
          refine hdx (UInt8.toNat_inj.1 ?_)
          have e46 : (46 : UInt8).toNat = 46 := rfl
          omega
        have hL := dotL_lenb hdx (s.data.toList.take i)
        have hs0 := par3_byte hdx (s.data.toList.take i)
        rw [← htk, hn] at hs0
        rw [← htk, hn] at hL
        have z0 := par3_size (s.data.toList.take i) 0
        have z1 := par3_size (s.data.toList.take i) 1
        have z2 := par3_size (s.data.toList.take i) 2
        have hex : s.extract i (i + 1) = ⟨#[x]⟩ := by
          apply ByteArray.ext
          apply Array.toList_inj.1
          rw [Lib.extract_data, drop9 hlt, hx, show i + 1 - i = 1 by omega]
          rfl
        have hlen : (s.data.toList.take i).length = i := by rw [List.length_take, Array.length_toList]; exact Nat.min_eq_left (Nat.le_of_lt hlt)
        rw [hlen] at z0 z1 z2
        obtain ⟨D, hD⟩ : ∃ D, dotL (s.data.toList.take (i + 1)) = D := ⟨_, rfl⟩
        rw [hD] at hs0 hL
        have HR := hide hD
        have HL := hide hL
        have hs00 := hs0 0
        have hs01 := hs0 1
        have hs02 := hs0 2
        clear htk hn hdx hD hL hlen hs0
        rcases (show n = 0 ∨ n = 1 ∨ n = 2 by omega) with rfl | rfl | rfl
        · rw [if_pos rfl] at hs00
          rw [if_neg (by decide)] at hs01 hs02
          rw [← hs01, ← hs02] at hB
          generalize par3 (dotL (s.data.toList.take i)) 0 = p0 at *
          have HS := hide hs00
          have g1 : ¬ (9223372036854775807 < p0.size + 1) := by omega
          clear hs00 hs01 hs02 z1 z2
          have kfB := hB.frozen
          have kcB := hB.cell
          have klB := hB.lt
          go_wp2
          refine First.wp_region_first_ext [3, 8] [0, 1, 2, 4, 5, 6, 7, 9, 10] [(true, false, 0), (true, false, 1), (true, false, 2), (true, true, 3), (true, false, 4), (true, false, 5), (true, false, 6), (true, false, 7), (true, true, 8), (true, false, 9), (true, false, 10), (false, false, 11)] (by kernel_rfl) (by kernel_rfl) (fun X => ?_); simp only [List.map_cons, List.map_nil, List.getD_cons_zero, List.getD_cons_succ]
          (repeat (first | (refine First.wpF_pure (fun K hK => ?_); go_simp; first | (refine hK _ _ ?_; clear hK K) | (apply Exists.intro; refine ⟨fun _ => ?_, hK _ _ ?_⟩; fail)) | (refine First.wpF_free (fun K hK => ?_); go_simp; first | (refine hK _ _ ?_; clear hK K))))
          refine First.wpF_must (fun K hK => ?_)
          go_wp2
          (refine hK _ _ (fun hnd => by first | exact Bool.noConfusion hnd | assumption | with_reducible exact grown_alloc _ _ | with_reducible exact First.Grown.refl _ | with_reducible exact First.Grown.cat _ _ _ | with_reducible exact First.Grown.ext _ _) ?_; clear hK K)
          refine First.wpF_nil ?_
          go_wp2
          go_roundw
          case rel =>
            refine ⟨i + 1, _, by omega, by go_num, rfl, by rw [HR.out]; exact HL.out, by omega, ?_, ?_, ?_⟩
            · have hbs := hb.size
              exact (hb.trans ((World.below_ext wr X).mono hbs)).setCell (by show w.heap.size ≤ p; omega) _
            · exact (hA.ext X).far nqp _
            · rw [HR.out, HS.out]
              exact (hB.ext X).set_ _ _
          case measure => first | (simp [intOf]; done) | (simp [intOf]; omega)
        · rw [if_pos rfl] at hs01
          rw [if_neg (by decide)] at hs00 hs02
          rw [← hs00, ← hs02] at hB
          generalize par3 (dotL (s.data.toList.take i)) 1 = p1 at *
          have HS := hide hs01
          have g1 : ¬ (9223372036854775807 < p1.size + 1) := by omega
          clear hs00 hs01 hs02 z0 z2
          have kfB := hB.frozen
          have kcB := hB.cell
          have klB := hB.lt
          go_wp2
          refine First.wp_region_first_ext [3, 8] [0, 1, 2, 4, 5, 6, 7, 9, 10] [(true, false, 0), (true, false, 1), (true, false, 2), (true, true, 3), (true, false, 4), (true, false, 5), (true, false, 6), (true, false, 7), (true, true, 8), (true, false, 9), (true, false, 10), (false, false, 11)] (by kernel_rfl) (by kernel_rfl) (fun X => ?_); simp only [List.map_cons, List.map_nil, List.getD_cons_zero, List.getD_cons_succ]
          (repeat (first | (refine First.wpF_pure (fun K hK => ?_); go_simp; first | (refine hK _ _ ?_; clear hK K) | (apply Exists.intro; refine ⟨fun _ => ?_, hK _ _ ?_⟩; fail)) | (refine First.wpF_free (fun K hK => ?_); go_simp; first | (refine hK _ _ ?_; clear hK K))))
          refine First.wpF_must (fun K hK => ?_)
          go_wp2
          (refine hK _ _ (fun hnd => by first | exact Bool.noConfusion hnd | assumption | with_reducible exact grown_alloc _ _ | with_reducible exact First.Grown.refl _ | with_reducible exact First.Grown.cat _ _ _ | with_reducible exact First.Grown.ext _ _) ?_; clear hK K)
          refine First.wpF_nil ?_
          go_wp2
          go_roundw
          case rel =>
            refine ⟨i + 1, _, by omega, by go_num, rfl, by rw [HR.out]; exact HL.out, by omega, ?_, ?_, ?_⟩
            · have hbs := hb.size
              exact (hb.trans ((World.below_ext wr X).mono hbs)).setCell (by show w.heap.size ≤ p; omega) _
            · exact (hA.ext X).far nqp _
            · rw [HR.out, HS.out]
              exact (hB.ext X).set_ _ _
          case measure => first | (simp [intOf]; done) | (simp [intOf]; omega)
        · rw [if_pos rfl] at hs02
          rw [if_neg (by decide)] at hs00 hs01
          rw [← hs00, ← hs01] at hB
          generalize par3 (dotL (s.data.toList.take i)) 2 = p2 at *
          have HS := hide hs02
          have g1 : ¬ (9223372036854775807 < p2.size + 1) := by omega
          clear hs00 hs01 hs02 z0 z1
          have kfB := hB.frozen
          have kcB := hB.cell
          have klB := hB.lt
          go_wp2
          refine First.wp_region_first_ext [3, 8] [0, 1, 2, 4, 5, 6, 7, 9, 10] [(true, false, 0), (true, false, 1), (true, false, 2), (true, true, 3), (true, false, 4), (true, false, 5), (true, false, 6), (true, false, 7), (true, true, 8), (true, false, 9), (true, false, 10), (false, false, 11)] (by kernel_rfl) (by kernel_rfl) (fun X => ?_); simp only [List.map_cons, List.map_nil, List.getD_cons_zero, List.getD_cons_succ]
          (repeat (first | (refine First.wpF_pure (fun K hK => ?_); go_simp; first | (refine hK _ _ ?_; clear hK K) | (apply Exists.intro; refine ⟨fun _ => ?_, hK _ _ ?_⟩; fail)) | (refine First.wpF_free (fun K hK => ?_); go_simp; first | (refine hK _ _ ?_; clear hK K))))
          refine First.wpF_must (fun K hK => ?_)
          go_wp2
          (refine hK _ _ (fun hnd => by first | exact Bool.noConfusion hnd | assumption | with_reducible exact grown_alloc _ _ | with_reducible exact First.Grown.refl _ | with_reducible exact First.Grown.cat _ _ _ | with_reducible exact First.Grown.ext _ _) ?_; clear hK K)
          refine First.wpF_nil ?_
          go_wp2
          go_roundw
          case rel =>
            refine ⟨i + 1, _, by omega, by go_num, rfl, by rw [HR.out]; exact HL.out, by omega, ?_, ?_, ?_⟩
            · have hbs := hb.size
              exact (hb.trans ((World.below_ext wr X).mono hbs)).setCell (by show w.heap.size ≤ p; omega) _
            · exact (hA.ext X).far nqp _
            · rw [HR.out, HS.out]
              exact (hB.ext X).set_ _ _
          case measure => first | (simp [intOf]; done) | (simp [intOf]; omega)
    · obtain rfl : i = s.size := by omega
      rw [List.take_of_length_le (by have := Lib.size_eq s; omega)] at hn hB
      obtain ⟨D, hD⟩ : ∃ D, dotL s.data.toList = D := ⟨_, rfl⟩
      rw [hD] at hn hB
      have cB := hB.cell
      have fB := hB.frozen
      have HD := hide hD
      clear hD
      cases h0 : numR (par3 D 0).data.toList 4611686018427387904 with
      | none =>
        have hO := hide (show stO (dotL s.data.toList) = none from by rw [HD.out]; exact stO_bad (D := D) (.inl h0))
        have c0 := num_none _ 4611686018427387904 (by omega) 4611686018427387904 rfl h0 wr
        have c1 := num_all (par3 D 1) 4294967295 (by omega) 4294967295 rfl wr
        have c2 := num_all (par3 D 2) 4294967295 (by omega) 4294967295 rfl wr
        clear h0 hn
        go_wp2_with (first
          | (go_at_call 15; first
            | ((with_reducible refine c0.mono ?_); first | (rintro e w1 ⟨rfl, rfl⟩) | (rintro e w1 ⟨⟨r1, rfl⟩, rfl⟩))
            | ((with_reducible refine c1.mono ?_); first | (rintro e w1 ⟨rfl, rfl⟩) | (rintro e w1 ⟨⟨r1, rfl⟩, rfl⟩))
            | ((with_reducible refine c2.mono ?_); first | (rintro e w1 ⟨rfl, rfl⟩) | (rintro e w1 ⟨⟨r1, rfl⟩, rfl⟩))))
        trace_state
        refine bodyPost_cell_tmp (cs := #[.int .i64 0, .int .u32 0, .int .u32 0]) Tryd.results7 rfl (by first | exact Blk.three hA | exact hA) Tryd.underlying24 rfl (by kernel_rfl) rfl ⟨?_, ?_⟩
        · rw [hO.out]; rfl
        · first | exact hb | (rw [← hq]; exact hb.setCell (by first | exact Nat.le_refl _ | (simp; done)) _ |>.setCell (by first | exact Nat.le_refl _ | (simp; done)) _ |>.setCell (by first | exact Nat.le_refl _ | (simp; done)) _)
      | some x =>
      have x0 := num_le (by omega) h0
      cases h1 : numR (par3 D 1).data.toList 4294967295 with
      | none =>
        have hO := hide (show stO (dotL s.data.toList) = none from by rw [HD.out]; exact stO_bad (D := D) (.inr (.inl h1)))
        have c0 := num_some _ 4611686018427387904 (by omega) 4611686018427387904 rfl h0 wr
        have c1 := num_none _ 4294967295 (by omega) 4294967295 rfl h1 wr
        have c2 := num_all (par3 D 2) 4294967295 (by omega) 4294967295 rfl wr
        clear h0 h1 hn
        go_wp2_with (first
          | (go_at_call 15; first
            | ((with_reducible refine c0.mono ?_); first | (rintro e w1 ⟨rfl, rfl⟩) | (rintro e w1 ⟨⟨r1, rfl⟩, rfl⟩))
            | ((with_reducible refine c1.mono ?_); first | (rintro e w1 ⟨rfl, rfl⟩) | (rintro e w1 ⟨⟨r1, rfl⟩, rfl⟩))
            | ((with_reducible refine c2.mono ?_); first | (rintro e w1 ⟨rfl, rfl⟩) | (rintro e w1 ⟨⟨r1, rfl⟩, rfl⟩))))
        refine bodyPost_cell_tmp (cs := #[.int .i64 0, .int .u32 0, .int .u32 0]) Tryd.results7 rfl (by first | exact Blk.three hA | exact hA) Tryd.underlying24 rfl (by kernel_rfl) rfl ⟨?_, ?_⟩
        · rw [hO.out]; rfl
        · first | exact hb | (rw [← hq]; exact hb.setCell (by first | exact Nat.le_refl _ | (simp; done)) _ |>.setCell (by first | exact Nat.le_refl _ | (simp; done)) _ |>.setCell (by first | exact Nat.le_refl _ | (simp; done)) _)
      | some y =>
      have x1 := num_le (by omega) h1
      cases h2 : numR (par3 D 2).data.toList 4294967295 with
      | none =>
        have hO := hide (show stO (dotL s.data.toList) = none from by rw [HD.out]; exact stO_bad (D := D) (.inr (.inr h2)))
        have c0 := num_some _ 4611686018427387904 (by omega) 4611686018427387904 rfl h0 wr
        have c1 := num_some _ 4294967295 (by omega) 4294967295 rfl h1 wr
        have c2 := num_none _ 4294967295 (by omega) 4294967295 rfl h2 wr
        clear h0 h1 h2 hn
        go_wp2_with (first
          | (go_at_call 15; first
            | ((with_reducible refine c0.mono ?_); first | (rintro e w1 ⟨rfl, rfl⟩) | (rintro e w1 ⟨⟨r1, rfl⟩, rfl⟩))
            | ((with_reducible refine c1.mono ?_); first | (rintro e w1 ⟨rfl, rfl⟩) | (rintro e w1 ⟨⟨r1, rfl⟩, rfl⟩))
            | ((with_reducible refine c2.mono ?_); first | (rintro e w1 ⟨rfl, rfl⟩) | (rintro e w1 ⟨⟨r1, rfl⟩, rfl⟩))))
        refine bodyPost_cell_tmp (cs := #[.int .i64 0, .int .u32 0, .int .u32 0]) Tryd.results7 rfl (by first | exact Blk.three hA | exact hA) Tryd.underlying24 rfl (by kernel_rfl) rfl ⟨?_, ?_⟩
        · rw [hO.out]; rfl
        · first | exact hb | (rw [← hq]; exact hb.setCell (by first | exact Nat.le_refl _ | (simp; done)) _ |>.setCell (by first | exact Nat.le_refl _ | (simp; done)) _ |>.setCell (by first | exact Nat.le_refl _ | (simp; done)) _)
      | some z =>
      have x2 := num_le (by omega) h2
      have c0 := num_some _ 4611686018427387904 (by omega) 4611686018427387904 rfl h0 wr
      have c1 := num_some _ 4294967295 (by omega) 4294967295 rfl h1 wr
      have c2 := num_some _ 4294967295 (by omega) 4294967295 rfl h2 wr
      by_cases h3 : n = 2
      · have hO := hide (show stO (dotL s.data.toList) = some ⟨x, y, z⟩ from by rw [HD.out]; exact stO_good (by omega) h0 h1 h2)
        subst h3
        have v1 : IntKind.i64.wrap (x : Int) = x := by rw [IntKind.wrap_i64]; omega
        have v2 : IntKind.u32.wrap (y : Int) = y := by rw [IntKind.wrap_u32]; omega
        have v3 : IntKind.u32.wrap (z : Int) = z := by rw [IntKind.wrap_u32]; omega
        clear h0 h1 h2 hn
        go_wp2_with (first
          | (go_at_call 15; first
            | ((with_reducible refine c0.mono ?_); first | (rintro e w1 ⟨rfl, rfl⟩) | (rintro e w1 ⟨⟨r1, rfl⟩, rfl⟩))
            | ((with_reducible refine c1.mono ?_); first | (rintro e w1 ⟨rfl, rfl⟩) | (rintro e w1 ⟨⟨r1, rfl⟩, rfl⟩))
            | ((with_reducible refine c2.mono ?_); first | (rintro e w1 ⟨rfl, rfl⟩) | (rintro e w1 ⟨⟨r1, rfl⟩, rfl⟩))))
        refine bodyPost_cell_tmp (cs := #[.int .i64 (x : Int), .int .u32 (y : Int), .int .u32 (z : Int)]) Tryd.results7 rfl (Blk.three hA) Tryd.underlying24 rfl (by kernel_rfl) rfl ⟨?_, ?_⟩
        · rw [hO.out]; rfl
        · rw [← hq]; exact hb.setCell (by first | exact Nat.le_refl _ | (simp; done)) _ |>.setCell (by first | exact Nat.le_refl _ | (simp; done)) _ |>.setCell (by first | exact Nat.le_refl _ | (simp; done)) _
      · have hO := hide (show stO (dotL s.data.toList) = none from by rw [HD.out]; exact stO_len (l := D) (by omega))
        have e9 : ((n : Int) != 2) = true := by simp; omega
        clear h0 h1 h2 hn
        go_wp2_with (first
          | (go_at_call 15; first
            | ((with_reducible refine c0.mono ?_); first | (rintro e w1 ⟨rfl, rfl⟩) | (rintro e w1 ⟨⟨r1, rfl⟩, rfl⟩))
            | ((with_reducible refine c1.mono ?_); first | (rintro e w1 ⟨rfl, rfl⟩) | (rintro e w1 ⟨⟨r1, rfl⟩, rfl⟩))
            | ((with_reducible refine c2.mono ?_); first | (rintro e w1 ⟨rfl, rfl⟩) | (rintro e w1 ⟨⟨r1, rfl⟩, rfl⟩))))
        refine bodyPost_cell_tmp (cs := #[.int .i64 0, .int .u32 0, .int .u32 0]) Tryd.results7 rfl (by first | exact Blk.three hA | exact hA) Tryd.underlying24 rfl (by kernel_rfl) rfl ⟨?_, ?_⟩
        · rw [hO.out]; rfl
        · first | exact hb | (rw [← hq]; exact hb.setCell (by first | exact Nat.le_refl _ | (simp; done)) _ |>.setCell (by first | exact Nat.le_refl _ | (simp; done)) _ |>.setCell (by first | exact Nat.le_refl _ | (simp; done)) _)
end Go.Proofs.YtacnfcolkllagaaDoor
