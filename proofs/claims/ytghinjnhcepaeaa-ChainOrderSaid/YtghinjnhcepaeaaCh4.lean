import Derived.Test.YtghinjnhcepaeaaCh3
import Derived.Deep.RegionLaw
/-! slices.Insert of one version. -/
namespace Go.Proofs.Ytghinjnhcepaeaa
open Go.RowKit
set_option linter.unusedVariables false
set_option linter.unusedSimpArgs false
theorem vsV_append (l m : List Ver) : vsV (l ++ m) = vsV l ++ vsV m := by simp [vsV, rowsV]
theorem vsV_cons (x : Ver) (l : List Ver) : vsV (x :: l) = x.cells ++ vsV l := by simp [vsV, rowsV]
theorem vsV_take (l : List Ver) (i : Nat) : vsV (l.take i) = (vsV l).take (i * 6) := by
  induction l generalizing i with
  | nil => simp [vsV, rowsV]
  | cons x l ih =>
    cases i with
    | zero => simp [vsV, rowsV]
    | succ i =>
      rw [List.take_succ_cons, vsV_cons, vsV_cons, ih, List.take_append, List.take_of_length_le (l := x.cells) (by rw [Ver.len]; omega), Ver.len]
      congr 2; omega
theorem vsV_drop (l : List Ver) (i : Nat) : vsV (l.drop i) = (vsV l).drop (i * 6) := by
  induction l generalizing i with
  | nil => simp [vsV, rowsV]
  | cons x l ih =>
    cases i with
    | zero => simp [vsV, rowsV]
    | succ i =>
      rw [List.drop_succ_cons, ih, vsV_cons, List.drop_append, List.drop_of_length_le (l := x.cells) (by rw [Ver.len]; omega), Ver.len, List.nil_append]
      congr 1; omega
set_option maxRecDepth 100000 in
set_option maxHeartbeats 4000000 in
theorem insert_end (base : Nat) (v : Value) (n : Nat) (l : List Ver) (x : Ver) (q : Nat) (w : World) (ho : w.ownsRow base 31 6 v n (vsV l)) (hbase : base ≤ w.heap.size) (hq : Blk w q 31 x.arr) (hn : (n + 1) * 48 ≤ 140737488355328) :
    Calls Try.prog 31 #[v, .int .i64 (n : Int), .slice (some ⟨q, 0, none⟩) 1 1] w fun e w' => (∃ u, e = .returned u ∧ w'.ownsRow base 31 6 u (n + 1) (vsV (l ++ [x]))) ∧ Below base w w' := by
  have hl : l.length = n := by have := ho.1; rw [vsV_length] at this; omega
  obtain ⟨i0, hi, hz0, hz1, hz2⟩ := info_parts infoV
  have hc := hq.cell
  obtain ⟨A, cap, rfl, hcap⟩ := own_slice ho
  have hnn : (n : Int) ≤ cap := by omega
  rcases Nat.eq_or_lt_of_le hcap with hcc | hcc
  · subst hcc
    go_enter Try.func31, Try.ntmps31
    go_wp2_with (at_builtin; refine wpList_append_own _ rfl _ _ 35 rfl base 31 i0 (.agg #[.int .i64 0, .int .u32 0, .int .u32 0, .int .i64 0, .int .i64 0, .string ⟨#[]⟩]) 6 48 Try.underlying35 hi hz0 hz1 hz2 rfl (by decide) _ _ _ rfl ho ⟨q, 0, none⟩ 1 1 x.cells rfl ?qc1 ?qc2 ?qc3 ?qc4 ?qc5 ?qc6 ?_)
    case qc1 => rfl
    case qc2 => exact fun j u hu => by rw [add_plain, Nat.zero_add, hc]; exact (Array.getElem?_toList (xs := x.arr)).symm.trans hu
    case qc3 => exact fun u hu => vsV_one (l := [x]) (by rw [vsV_cons]; exact List.mem_append_left _ hu)
    case qc4 => unfold maxLen; omega
    case qc5 => omega
    case qc6 => omega
    intro v' w1 hown hgrow hnil
    go_wp2
    go_ret
    have hB := own_below (Below.refl base w) ho hgrow (Nat.le_refl _) hbase
    refine ⟨⟨v', rfl, ?_⟩, hB⟩
    rw [vsV_append, vsV_cons]
    simpa [vsV, rowsV] using hown
  · have hc2 : ¬ cap = n := by omega
    go_enter Try.func31, Try.ntmps31
    go_wp2_with (at_builtin; refine wpList_append_own _ rfl _ _ 35 rfl base 31 i0 (.agg #[.int .i64 0, .int .u32 0, .int .u32 0, .int .i64 0, .int .i64 0, .string ⟨#[]⟩]) 6 48 Try.underlying35 hi hz0 hz1 hz2 rfl (by decide) _ _ _ rfl ho ⟨q, 0, none⟩ 1 1 x.cells rfl ?qc1 ?qc2 ?qc3 ?qc4 ?qc5 ?qc6 ?_)
    case qc1 => rfl
    case qc2 => exact fun j u hu => by rw [add_plain, Nat.zero_add, hc]; exact (Array.getElem?_toList (xs := x.arr)).symm.trans hu
    case qc3 => exact fun u hu => vsV_one (l := [x]) (by rw [vsV_cons]; exact List.mem_append_left _ hu)
    case qc4 => unfold maxLen; omega
    case qc5 => omega
    case qc6 => omega
    intro v' w1 hown hgrow hnil
    go_wp2
    go_ret
    have hB := own_below (Below.refl base w) ho hgrow (Nat.le_refl _) hbase
    refine ⟨⟨v', rfl, ?_⟩, hB⟩
    rw [vsV_append, vsV_cons]
    simpa [vsV, rowsV] using hown
theorem take_spliced {cs : Array Value} {a b c : List Value} {N : Nat} (hN : N = a.length + b.length + c.length) (hs : N ≤ cs.size) (h1 : ∀ j, j < a.length → cs[j]? = a[j]?) (h2 : ∀ j, j < b.length → cs[a.length + j]? = b[j]?) (h3 : ∀ j, j < c.length → cs[a.length + b.length + j]? = c[j]?) :
    cs.toList.take N = a ++ (b ++ c) := by
  apply List.ext_getElem?
  intro j
  rcases Nat.lt_or_ge j N with h | h
  · rw [List.getElem?_take_of_lt h, Array.getElem?_toList]
    rcases Nat.lt_or_ge j a.length with h' | h'
    · rw [List.getElem?_append_left h', h1 j h']
    · rw [List.getElem?_append_right h']
      rcases Nat.lt_or_ge (j - a.length) b.length with h'' | h''
      · rw [List.getElem?_append_left h'', ← h2 _ h'', show a.length + (j - a.length) = j by omega]
      · rw [List.getElem?_append_right h'', ← h3 _ (by omega), show a.length + b.length + (j - a.length - b.length) = j by omega]
  · rw [List.getElem?_eq_none (by rw [List.length_take]; omega), List.getElem?_eq_none (by simp only [List.length_append]; omega)]
set_option maxRecDepth 100000 in
set_option maxHeartbeats 4000000 in
theorem insert_grow (base g n i : Nat) (l : List Ver) (x : Ver) (q : Nat) (cur : Array Value) (w : World) (hg : Blk w g 31 cur) (hcur : cur.toList.take (n * 6) = vsV l) (hl : l.length = n) (hi : i < n) (hbase : base ≤ w.heap.size) (hq : Blk w q 31 x.arr) (hn : (n + 1) * 48 ≤ 140737488355328) :
    Calls Try.prog 31 #[.slice (some ⟨g, 0, none⟩) n n, .int .i64 (i : Int), .slice (some ⟨q, 0, none⟩) 1 1] w fun e w' => (∃ u, e = .returned u ∧ w'.ownsRow base 31 6 u (n + 1) (vsV (l.take i ++ x :: l.drop i))) ∧ Below base w w' := by
  obtain ⟨i0, hi0, hz0, hzs, hzb⟩ := info_parts infoV
  have hvl : (vsV l).length = n * 6 := by rw [vsV_length, hl]
  have hcg : ∀ j u, (vsV l)[j]? = some u → cur[j]? = some u := fun j u hu => by
    rw [← hcur, List.getElem?_take] at hu
    split at hu
    · rwa [Array.getElem?_toList] at hu
    · cases hu
  have hold : (Builtin.firstCells i0.size i (.slice (some ⟨g, 0, none⟩) i n)).run Try.prog w.drew = .ok (vsV (l.take i)).toArray w.drew := by
    rw [hzs]
    refine run_firstCells_some w.drew 6 i ⟨g, 0, none⟩ i n _ (by rw [vsV_length, List.length_take]; omega) (fun j u hj => ?_)
    rw [add_plain, Nat.zero_add]
    rw [vsV_take, List.getElem?_take] at hj
    split at hj
    · exact (hg.cell j).trans (hcg j u hj)
    · cases hj
  have hik : i + (n + 1 - i) = n + 1 := by omega
  obtain ⟨G, hG⟩ : ∃ G, G = grownCap w (n + 1) n 31 := ⟨_, rfl⟩
  have hGn : n + 1 ≤ G := by rw [hG]; exact grownCap_ge w _ _ _
  have hGm : G ≤ maxLen := by rw [hG]; exact grownCap_le_maxLen w (n + 1) n 31 (by unfold maxLen; omega)
  obtain ⟨ROW, hROW⟩ : ∃ ROW : Array Value, ROW = (vsV (l.take i)).toArray ++ Builtin.zeroCells (Value.agg #[.int .i64 0, .int .u32 0, .int .u32 0, .int .i64 0, .int .i64 0, .string ⟨#[]⟩]).cells (n + 1 - i) ++ Builtin.zeroCells (Value.agg #[.int .i64 0, .int .u32 0, .int .u32 0, .int .i64 0, .int .i64 0, .string ⟨#[]⟩]).cells (G - (n + 1)) := ⟨_, rfl⟩
  have hlt : (l.take i).length = i := by rw [List.length_take]; omega
  have hR : ∀ j, j < i * 6 → ROW[j]? = (vsV (l.take i))[j]? := fun j hj => by
    rw [hROW, Array.getElem?_append_left (by rw [Array.size_append, List.size_toArray, vsV_length, hlt]; omega), Array.getElem?_append_left (by rw [List.size_toArray, vsV_length, hlt]; omega)]
    simp
  have hRs : ROW.size = G * 6 := by
    rw [hROW]
    simp only [Array.size_append, size_zeroCells, List.size_toArray, vsV_length, hlt]
    rw [show (Value.agg #[.int .i64 0, .int .u32 0, .int .u32 0, .int .i64 0, .int .i64 0, .string ⟨#[]⟩]).cells.size = 6 from rfl]
    omega
  have hrz : ∀ ty, (Builtin.append_ #[35, 3] ty #[.slice (some ⟨g, 0, none⟩) i n, .int .i64 ((n : Int) + 1 - (i : Int))]).run Try.prog w = .ok (.slice (some ⟨w.heap.size, 0, none⟩) (n + 1) G) (w.drew.alloc (.cells ROW 31)) := fun ty => by
    have h := Lib.run_append_grow_zeros w 35 3 ty 31 i0 _ .i64 .i64 Try.underlying35 Try.underlying3 hi0 hz0 (some ⟨g, 0, none⟩) i n (vsV (l.take i)) hold (n + 1 - i) (by omega) (by omega) (by omega) (by omega) (by rw [hzb]; omega) (by rw [hzb, hik]; exact growslice_fits (by omega) hn)
    rw [hik, ← hG, ← hROW] at h
    rw [show (n : Int) + 1 - (i : Int) = ((n + 1 - i : Nat) : Int) by omega]
    exact h
  have hB1 : Blk (w.drew.alloc (.cells ROW 31)) w.heap.size 31 ROW := Blk.new w.drew _ _
  have hbel1 : Below w.heap.size w (w.drew.alloc (.cells ROW 31)) := (Below.drew (Below.refl _ _)).alloc (Nat.le_refl _) _
  have hgl := hg.lt
  have hql := hq.lt
  have hq1 := hq.below hbel1 hql
  have hg1 := hg.below hbel1 hgl
  generalize w.drew.alloc (.cells ROW 31) = W1 at *
  have hsz : (Try.prog.info? 31).map (·.size) = some 6 := by rw [hi0]; simp [hzs]
  generalize w.heap.size = p at *
  have hpq : q ≠ p := by omega
  have hpg : g ≠ p := by omega
  -- the version goes in
  obtain ⟨R2, hB2, hs2, hb2, hm2, _⟩ := blk_splice x.cells (i * 6) W1 ROW hB1 (by rw [hRs]; show i * 6 + 6 ≤ G * 6; omega)
  have hcpA : ∀ ty dc, (Builtin.copy_ #[35, 35] ty #[.slice (some ⟨p, i * 6, none⟩) (n + 1 - i) dc, .slice (some ⟨q, 0, none⟩) 1 1]).run Try.prog W1 = .ok (goInt 1) (W1.setCells p (i * 6) x.cells) := fun ty dc => by
    have h := run_copy_k (P := Try.prog) 6 W1 35 35 ty 31 p (i * 6) (n + 1 - i) dc ⟨q, 0, none⟩ 1 1 x.cells Try.underlying35 hsz 1 (Nat.min_eq_left (by omega)) rfl
      (fun j u hu => by rw [add_plain, Nat.zero_add, hq1.cell]; exact (Array.getElem?_toList (xs := x.arr)).symm.trans hu)
      (fun j hj => by rw [hB1.cell, Array.getElem?_eq_getElem (by rw [Ver.len] at hj; omega)]; rfl) (fun j hj => hB1.frozen _) (fun u hu => vsV_one (l := [x]) (by rw [vsV_cons]; exact List.mem_append_left _ hu))
    exact h
  have hg2 : Blk (W1.setCells p (i * 6) x.cells) g 31 cur := Blk.only hg1 (only_setCells _ _ _) hpg
  have hO2 : Only W1 (W1.setCells p (i * 6) x.cells) p := only_setCells _ _ _
  generalize W1.setCells p (i * 6) x.cells = W2 at *
  -- what stood behind goes up
  have hdl : (vsV (l.drop i)).length = (n - i) * 6 := by rw [vsV_length, List.length_drop, hl]
  obtain ⟨R3, hB3, hs3, hb3, hm3, _⟩ := blk_splice (vsV (l.drop i)) ((i + 1) * 6) W2.drew R2 hB2.drew (by rw [hs2, hRs, hdl]; omega)
  have hcpB : ∀ ty dc sc, (Builtin.copy_ #[35, 35] ty #[.slice (some ⟨p, (i + 1) * 6, none⟩) (n + 1 - (i + 1)) dc, .slice (some ⟨g, i * 6, none⟩) (n - i) sc]).run Try.prog W2.drew = .ok (goInt ((n - i : Nat) : Int)) (W2.drew.setCells p ((i + 1) * 6) (vsV (l.drop i))) := fun ty dc sc => by
    have h := run_copy_k (P := Try.prog) 6 W2.drew 35 35 ty 31 p ((i + 1) * 6) (n + 1 - (i + 1)) dc ⟨g, i * 6, none⟩ (n - i) sc (vsV (l.drop i)) Try.underlying35 hsz (n - i) (Nat.min_eq_left (by omega)) hdl
      (fun j u hu => by
        rw [vsV_drop, List.getElem?_drop] at hu
        rw [add_plain, hg2.drew.cell]
        exact hcg _ u hu)
      (fun j hj => by rw [hB2.drew.cell, Array.getElem?_eq_getElem (by rw [hdl] at hj; omega)]; rfl) (fun j hj => hB2.drew.frozen _) (fun u hu => vsV_one hu)
    exact h
  have hO3 : Only W2 (W2.drew.setCells p ((i + 1) * 6) (vsV (l.drop i))) p := ⟨(only_setCells _ _ _).os, (only_setCells _ _ _).tape, (only_setCells _ _ _).output, (only_setCells _ _ W2.drew).size, fun k hk hn => (only_setCells _ _ W2.drew).block k hk hn⟩
  have hfin : (W2.drew.setCells p ((i + 1) * 6) (vsV (l.drop i))).ownsRow base 31 6 (.slice (some ⟨p, 0, none⟩) (n + 1) G) (n + 1) (vsV (l.take i ++ x :: l.drop i)) := by
    refine hB3.own (by omega) hGn hGm (by rw [hs3, hs2, hRs]) ?_ (by rw [vsV_length, List.length_append, List.length_cons, hlt, List.length_drop, hl]; omega)
    rw [vsV_append, vsV_cons]
    have hla : (vsV (l.take i)).length = i * 6 := by rw [vsV_length, hlt]
    refine take_spliced (by rw [hla, hdl, Ver.len]; omega) (by rw [hs3, hs2, hRs]; omega) (fun j hj => ?_) (fun j hj => ?_) (fun j hj => ?_)
    · rw [hla] at hj
      rw [hb3 j (by omega), hb2 j hj, hR j hj]
    · rw [hla, hb3 _ (by rw [Ver.len] at hj; omega), hm2 j hj]
    · rw [hla, Ver.len, show i * 6 + 6 + j = (i + 1) * 6 + j by omega, hm3 j hj]
  have hbelF : Below base w (W2.drew.setCells p ((i + 1) * 6) (vsV (l.drop i))) := ((hbel1.mono (by omega)).trans (hO2.below (by omega) (by have := Blk.lt hB1; omega))).trans (hO3.below (by omega) (by have := Blk.lt hB1; have := hO2.size; omega))
  have hw1 : IntKind.i64.wrap ((i : Int) + 1) = (i : Int) + 1 := by rw [IntKind.wrap_i64]; omega
  have hz2 : ¬ ((i : Int) = (n : Int)) := by omega
  have hb3' : (i : Int) ≤ (n : Int) := by omega
  have hin : i ≤ n := by omega
  have htn : ((i : Int) + 1).toNat = i + 1 := by omega
  have hGi : ¬ (G = i) := by omega
  have hGi1 : ¬ (G = i + 1) := by omega
  have hx0 : (0 : Int) ≤ (i : Int) + 1 := by omega
  have hx1 : (i : Int) + 1 ≤ (n : Int) + 1 := by omega
  have hx2 : i + 1 ≤ n + 1 := by omega
  have hx3 : i + 1 ≤ G := by omega
  have hni : ¬ (n = i) := by omega
  have HF := hide (⟨hfin, hbelF⟩ : _ ∧ _)
  clear hfin hbelF hR hm2 hb2 hm3 hb3 hcg hcur hold hROW hG hO2 hO3 hs2 hs3 hdl hvl
  go_enter Try.func31, Try.ntmps31
  go_wp2_with (first
    | (at_builtin; refine Lib.wpList_append_run _ rfl _ _ _ _ rfl _ _ rfl rfl _ _ (hrz _) ?_)
    | (at_builtin; refine wpList_copy_runI _ rfl _ _ 35 35 rfl _ _ rfl rfl (hcpA _ _) ?_))
  go_region_law (refine step_copy_runI rfl _ _ 35 35 rfl (.slice (some ⟨p, (i + 1) * 6, none⟩) (n + 1 - (i + 1)) (G - (i + 1))) (.slice (some ⟨g, i * 6, none⟩) (n - i) (n - i)) (by simp [Act.eval, Act.put]) (by simp [Act.eval, Act.put]) (hcpB _ _ _) ?_)
  go_wp2
  go_ret
  exact ⟨⟨_, rfl, HF.out.1⟩, HF.out.2⟩
end Go.Proofs.Ytghinjnhcepaeaa
