import Derived.Test.YtghinjnhcepaeaaCh4
/-! slices.Insert of one version where there is room; wherever. -/
namespace Go.Proofs.Ytghinjnhcepaeaa
open Go.RowKit
set_option linter.unusedVariables false
set_option linter.unusedSimpArgs false
set_option maxRecDepth 100000 in
set_option maxHeartbeats 4000000 in
theorem insert_room (base g n c i : Nat) (l : List Ver) (x : Ver) (q : Nat) (cur : Array Value) (w : World) (hg : Blk w g 31 cur) (hcur : cur.toList.take (n * 6) = vsV l) (hcs : cur.size = c * 6) (hl : l.length = n) (hi : i < n) (hc : n + 1 ≤ c) (hcm : c ≤ maxLen) (hbg : base ≤ g) (hbase : base ≤ w.heap.size) (hq : Blk w q 31 x.arr) (hqg : q ≠ g) (hn : (n + 1) * 48 ≤ 140737488355328) :
    Calls Try.prog 31 #[.slice (some ⟨g, 0, none⟩) n c, .int .i64 (i : Int), .slice (some ⟨q, 0, none⟩) 1 1] w fun e w' => (∃ u, e = .returned u ∧ w'.ownsRow base 31 6 u (n + 1) (vsV (l.take i ++ x :: l.drop i))) ∧ Below base w w' := by
  obtain ⟨i0, hi0, hz0, hzs, hzb⟩ := info_parts infoV
  have hvl : (vsV l).length = n * 6 := by rw [vsV_length, hl]
  have hcg : ∀ j u, (vsV l)[j]? = some u → cur[j]? = some u := fun j u hu => by
    rw [← hcur, List.getElem?_take] at hu
    split at hu
    · rwa [Array.getElem?_toList] at hu
    · cases hu
  have hlt : (l.take i).length = i := by rw [List.length_take]; omega
  have hsz : (Try.prog.info? 31).map (·.size) = some 6 := by rw [hi0]; simp [hzs]
  have hdl : (vsV (l.drop i)).length = (n - i) * 6 := by rw [vsV_length, List.length_drop, hl]
  have hgl := hg.lt
  have hql := hq.lt
  -- what stood behind goes up
  obtain ⟨R2, hB2, hs2, hb2, hm2, _⟩ := blk_splice (vsV (l.drop i)) ((i + 1) * 6) w.drew cur hg.drew (by rw [hcs, hdl]; omega)
  have hcpA : ∀ ty dc sc, (Builtin.copy_ #[35, 35] ty #[.slice (some ⟨g, (i + 1) * 6, none⟩) (n + 1 - (i + 1)) dc, .slice (some ⟨g, i * 6, none⟩) (n + 1 - i) sc]).run Try.prog w.drew = .ok (goInt ((n - i : Nat) : Int)) (w.drew.setCells g ((i + 1) * 6) (vsV (l.drop i))) := fun ty dc sc => by
    have h := run_copy_k (P := Try.prog) 6 w.drew 35 35 ty 31 g ((i + 1) * 6) (n + 1 - (i + 1)) dc ⟨g, i * 6, none⟩ (n + 1 - i) sc (vsV (l.drop i)) Try.underlying35 hsz (n - i) ((Nat.min_eq_right (by omega)).trans (by omega)) hdl
      (fun j u hu => by
        rw [vsV_drop, List.getElem?_drop] at hu
        rw [add_plain, hg.drew.cell]
        exact hcg _ u hu)
      (fun j hj => by rw [hg.drew.cell, Array.getElem?_eq_getElem (by rw [hdl] at hj; omega)]; rfl) (fun j hj => hg.drew.frozen _) (fun u hu => vsV_one hu)
    exact h
  have hO2 : Only w (w.drew.setCells g ((i + 1) * 6) (vsV (l.drop i))) g := ⟨(only_setCells _ _ _).os, (only_setCells _ _ _).tape, (only_setCells _ _ _).output, (only_setCells _ _ w.drew).size, fun k hk hn => (only_setCells _ _ w.drew).block k hk hn⟩
  generalize w.drew.setCells g ((i + 1) * 6) (vsV (l.drop i)) = W2 at *
  have hq2 : Blk W2 q 31 x.arr := Blk.only hq hO2 hqg
  obtain ⟨R3, hB3, hs3, hb3, hm3, ha3⟩ := blk_splice x.cells (i * 6) W2 R2 hB2 (by rw [hs2, hcs]; show i * 6 + 6 ≤ c * 6; omega)
  have hcpB : ∀ ty dc, (Builtin.copy_ #[35, 35] ty #[.slice (some ⟨g, i * 6, none⟩) (n + 1 - i) dc, .slice (some ⟨q, 0, none⟩) 1 1]).run Try.prog W2 = .ok (goInt 1) (W2.setCells g (i * 6) x.cells) := fun ty dc => by
    have h := run_copy_k (P := Try.prog) 6 W2 35 35 ty 31 g (i * 6) (n + 1 - i) dc ⟨q, 0, none⟩ 1 1 x.cells Try.underlying35 hsz 1 (Nat.min_eq_left (by omega)) rfl
      (fun j u hu => by rw [add_plain, Nat.zero_add, hq2.cell]; exact (Array.getElem?_toList (xs := x.arr)).symm.trans hu)
      (fun j hj => by rw [hB2.cell, Array.getElem?_eq_getElem (by rw [Ver.len] at hj; omega)]; rfl) (fun j hj => hB2.frozen _) (fun u hu => vsV_one (l := [x]) (by rw [vsV_cons]; exact List.mem_append_left _ hu))
    exact h
  have hO3 := only_setCells (g := g) x.cells (i * 6) W2
  have hfin : (W2.setCells g (i * 6) x.cells).ownsRow base 31 6 (.slice (some ⟨g, 0, none⟩) (n + 1) c) (n + 1) (vsV (l.take i ++ x :: l.drop i)) := by
    refine hB3.own hbg hc hcm (by rw [hs3, hs2, hcs]) ?_ (by rw [vsV_length, List.length_append, List.length_cons, hlt, List.length_drop, hl]; omega)
    rw [vsV_append, vsV_cons]
    have hla : (vsV (l.take i)).length = i * 6 := by rw [vsV_length, hlt]
    refine take_spliced (by rw [hla, hdl, Ver.len]; omega) (by rw [hs3, hs2, hcs]; omega) (fun j hj => ?_) (fun j hj => ?_) (fun j hj => ?_)
    · rw [hla] at hj
      have hj2 : j < (vsV l).length := by omega
      rw [hb3 j (by omega), hb2 j (by omega), vsV_take, List.getElem?_take_of_lt hj, List.getElem?_eq_getElem hj2]
      exact hcg j _ (List.getElem?_eq_getElem hj2)
    · rw [hla, hm3 j hj]
    · rw [hla, Ver.len, show i * 6 + 6 + j = (i + 1) * 6 + j by omega, ha3 _ (by rw [Ver.len]; omega), hm2 j hj]
  generalize W2.setCells g (i * 6) x.cells = W3 at *
  have hbelF : Below base w W3 := (hO2.trans hO3).below hbg hbase
  have hov : ∀ lb cb, (callFunc 35 #[.slice (some ⟨q, 0, none⟩) 1 1, .slice (some ⟨g, (i + 1) * 6, none⟩) lb cb]).run Try.prog w = .ok (.value (.bool false)) w := fun lb cb => by
    have h6 : ∀ w, (Go.sizeOf 31).run Try.prog w = .ok 6 w := fun w => by simp [sizeOf, typeInfo, hi0, hzs]
    rw [run_callFunc_extern (P := Try.prog) (fn := Try.f35) (by kernel_rfl) (by kernel_rfl) (by kernel_rfl) (by kernel_rfl) (e := Extern.SlicesOverlaps.overlaps #[35, 35] #[4]) (by kernel_rfl),
      Lib.run_overlaps_apart w 35 4 31 Try.underlying35 6 h6 ⟨q, 0, none⟩ ⟨g, (i + 1) * 6, none⟩ 1 1 lb cb hqg 31 31 6 cur.size ?h1 ?h2 (by omega) (hq.frozen 0) (hq.frozen 6)]
    · rfl
    · have := hq
      unfold Blk at this
      simp [World.shape?, this, Ver.arr]
    · have := hg
      unfold Blk at this
      simp [World.shape?, this]
  have hw1 : IntKind.i64.wrap ((i : Int) + 1) = (i : Int) + 1 := by rw [IntKind.wrap_i64]; omega
  have hz2 : ¬ ((i : Int) = (n : Int)) := by omega
  have hb3' : (i : Int) ≤ (n : Int) := by omega
  have hin : i ≤ n := by omega
  have hnc : ¬ (c : Int) < (n : Int) + 1 := by omega
  have htn : ((i : Int) + 1).toNat = i + 1 := by omega
  have hGi : ¬ (c = i) := by omega
  have hGi1 : ¬ (c = i + 1) := by omega
  have hx0 : (0 : Int) ≤ (i : Int) + 1 := by omega
  have hx1 : (i : Int) + 1 ≤ (n : Int) + 1 := by omega
  have hx2 : i + 1 ≤ n + 1 := by omega
  have hx3 : i + 1 ≤ c := by omega
  have hni : ¬ (n = i) := by omega
  have HF := hide (⟨hfin, hbelF⟩ : _ ∧ _)
  clear hfin hbelF hm2 hb2 hm3 hb3 ha3 hcg hcur hO2 hO3 hs2 hs3 hdl hvl
  have hx7 : (i : Int) ≤ (n : Int) + 1 := by omega
  have hx8 : i ≤ n + 1 := by omega
  have hx4 : (n : Int) + 1 ≤ (c : Int) := by omega
  have hx5 : (0 : Int) ≤ (n : Int) + 1 := by omega
  have hx6 : ((n : Int) + 1).toNat = n + 1 := by omega
  go_enter Try.func31, Try.ntmps31
  go_wp2_with (simp only [hov])
  go_region_law (refine step_copy_runI rfl _ _ 35 35 rfl (.slice (some ⟨g, (i + 1) * 6, none⟩) (n + 1 - (i + 1)) (c - (i + 1))) (.slice (some ⟨g, i * 6, none⟩) (n + 1 - i) (c - i)) (by simp [Act.eval, Act.put]) (by simp [Act.eval, Act.put]) (hcpA _ _ _) ?_)
  go_wp2_with (at_builtin; refine wpList_copy_runI _ rfl _ _ 35 35 rfl _ _ rfl rfl (hcpB _ _) ?_)
  go_ret
  exact ⟨⟨_, rfl, HF.out.1⟩, HF.out.2⟩
theorem insert_any (base : Nat) (v : Value) (n i : Nat) (l : List Ver) (x : Ver) (q : Nat) (w : World) (ho : w.ownsRow base 31 6 v n (vsV l)) (hi : i ≤ n) (hbase : base ≤ w.heap.size) (hq : Blk w q 31 x.arr) (hqv : v.ownBlock ≠ some q) (hn : (n + 1) * 48 ≤ 140737488355328) :
    Calls Try.prog 31 #[v, .int .i64 (i : Int), .slice (some ⟨q, 0, none⟩) 1 1] w fun e w' => (∃ u, e = .returned u ∧ w'.ownsRow base 31 6 u (n + 1) (vsV (l.take i ++ x :: l.drop i))) ∧ Below base w w' := by
  have hl : l.length = n := by have := ho.1; rw [vsV_length] at this; omega
  rcases Nat.eq_or_lt_of_le hi with e | hin
  · subst e
    have := insert_end base v i l x q w ho hbase hq hn
    rwa [List.take_of_length_le (by omega), List.drop_of_length_le (by omega)]
  · rcases ho.2 with ⟨_, h0⟩ | ⟨g, cap, cur, rfl, hbg, hg, hnc, hm, hs, ht⟩
    · omega
    · have hqg : q ≠ g := fun e => hqv (by rw [e]; rfl)
      rcases Nat.eq_or_lt_of_le hnc with e | hroom
      · subst e
        exact insert_grow base g n i l x q cur w hg ht hl hin hbase hq hn
      · exact insert_room base g n cap i l x q cur w hg ht hs hl hin hroom hm hbg hbase hq hqg hn
end Go.Proofs.Ytghinjnhcepaeaa
