import Derived.Test.YtghinjnhcepaeaaCh23
import Derived.Test.YtghinjnhcepaeaaGrow
/-! The law on cuts. -/
namespace Go.Proofs.Ytghinjnhcepaeaa
open Go.RowKit
set_option linter.unusedVariables false
set_option linter.unusedSimpArgs false
theorem Chn.stores {W : World} {u v0 v1 v2 v3 v4 v5 : Value} {L : List Ver} {a1 a2 : Nat} (h : Chn W u L) (X : Ext) (b1 : W.heap.size ≤ a1) (b2 : W.heap.size ≤ a2) :
    Chn (((((((W.ext X).setCell ⟨a1, 0, none⟩ v0).setCell ⟨a1, 1, none⟩ v1).setCell ⟨a1, 2, none⟩ v2).setCell ⟨a2, 0, none⟩ v3).setCell ⟨a2, 1, none⟩ v4).setCell ⟨a2, 2, none⟩ v5) u L := by
  obtain ⟨A, c, e, h1, h2, h3⟩ := h
  refine ⟨A, c, e, h1, h2, Reads.more (B := W.heap.size) ?_ (by simp [World.size_ext])⟩
  exact ((((((h3.ext (Nat.le_refl _) X).setCell (p := ⟨a1, 0, none⟩) b1 v0).setCell (p := ⟨a1, 1, none⟩) b1 v1).setCell (p := ⟨a1, 2, none⟩) b1 v2).setCell (p := ⟨a2, 0, none⟩) b2 v3).setCell (p := ⟨a2, 1, none⟩) b2 v4).setCell (p := ⟨a2, 2, none⟩) b2 v5
theorem stores_blk1 {W : World} {x y z v0 v1 v2 v3 v4 v5 : Value} {T : TypeId} {a1 a2 : Nat} (h : Blk W a1 T #[x, y, z]) (n : a1 ≠ a2) : Blk ((((((W.setCell ⟨a1, 0, none⟩ v0).setCell ⟨a1, 1, none⟩ v1).setCell ⟨a1, 2, none⟩ v2).setCell ⟨a2, 0, none⟩ v3).setCell ⟨a2, 1, none⟩ v4).setCell ⟨a2, 2, none⟩ v5) a1 T #[v0, v1, v2] :=
  ((h.three.far (p := ⟨a2, 0, none⟩) n v3).far (p := ⟨a2, 1, none⟩) n v4).far (p := ⟨a2, 2, none⟩) n v5
theorem stores_blk2 {W : World} {x y z v0 v1 v2 v3 v4 v5 : Value} {T : TypeId} {a1 a2 : Nat} (h : Blk W a2 T #[x, y, z]) (n : a2 ≠ a1) : Blk ((((((W.setCell ⟨a1, 0, none⟩ v0).setCell ⟨a1, 1, none⟩ v1).setCell ⟨a1, 2, none⟩ v2).setCell ⟨a2, 0, none⟩ v3).setCell ⟨a2, 1, none⟩ v4).setCell ⟨a2, 2, none⟩ v5) a2 T #[v3, v4, v5] :=
  Blk.three (((h.far (p := ⟨a1, 0, none⟩) n v0).far (p := ⟨a1, 1, none⟩) n v1).far (p := ⟨a1, 2, none⟩) n v2)
theorem stores_below {B : Nat} {w W : World} {v0 v1 v2 v3 v4 v5 : Value} {a1 a2 : Nat} (h : Below B w W) (n1 : B ≤ a1) (n2 : B ≤ a2) : Below B w ((((((W.setCell ⟨a1, 0, none⟩ v0).setCell ⟨a1, 1, none⟩ v1).setCell ⟨a1, 2, none⟩ v2).setCell ⟨a2, 0, none⟩ v3).setCell ⟨a2, 1, none⟩ v4).setCell ⟨a2, 2, none⟩ v5) :=
  (((((h.setCell (p := ⟨a1, 0, none⟩) n1 v0).setCell (p := ⟨a1, 1, none⟩) n1 v1).setCell (p := ⟨a1, 2, none⟩) n1 v2).setCell (p := ⟨a2, 0, none⟩) n2 v3).setCell (p := ⟨a2, 1, none⟩) n2 v4).setCell (p := ⟨a2, 2, none⟩) n2 v5
/-- What is read does not lie in a block. -/
def Off (p : Nat) (v : Value) (L : List Ver) : Prop := ∀ ad n c, v = .slice (some ad) n c → L ≠ [] → ad.block ≠ p
theorem Chn.off {w : World} {v : Value} {L : List Ver} {p : Nat} (h : Chn w v L) (hp : w.heap.size ≤ p) : Off p v L := fun ad n c e hL => by
  obtain ⟨A, c', e', _, _, h3⟩ := h
  obtain ⟨ad', ea, hb, _⟩ := h3.2 (List.length_pos_iff.2 hL)
  rw [e'] at e
  cases e; cases ea
  omega
theorem Chn2.off {B : Nat} {w : World} {v : Value} {L : List Ver} {p : Nat} (h : Chn2 B w v L) (hp : p < B) : Off p v L := fun ad n c e hL => by
  obtain ⟨A, c', e', _, h2, _⟩ := h
  rw [e'] at e
  cases e
  rcases h2 with ⟨e, _⟩ | ⟨b, o, e, hB⟩
  · cases e
  · cases e; show b ≠ p; omega
theorem Chn.set1 {w : World} {v : Value} {L : List Ver} {p i : Nat} (h : Chn w v L) (ho : Off p v L) (u : Value) : Chn (w.setCell ⟨p, i, none⟩ u) v L := by
  obtain ⟨A, c, e, h1, h2, h3⟩ := h
  refine ⟨A, c, e, h1, h2, h3.1, fun hn => ?_⟩
  obtain ⟨ad, ea, hb, hc⟩ := h3.2 hn
  subst ea
  have hne := ho ad _ _ e (by intro h; rw [h] at hn; simp at hn)
  refine ⟨ad, rfl, by simpa using hb, fun j u' hu => ?_⟩
  rw [World.cell?_setCell_other w _ _ u (fun e => by
    have := congrArg Addr.block e
    rw [block_of_add] at this
    exact hne this.symm)]
  exact hc j u' hu
theorem Chn.set3 {w : World} {v : Value} {L : List Ver} {p : Nat} {v0 v1 v2 : Value} (h : Chn w v L) (ho : Off p v L) : Chn (((w.setCell ⟨p, 0, none⟩ v0).setCell ⟨p, 1, none⟩ v1).setCell ⟨p, 2, none⟩ v2) v L := ((h.set1 ho v0).set1 ho v1).set1 ho v2
theorem cut_g2 {s : Value} {L : List Ver} (t : Ver) (w : World) (h : Chn w s L) (hg : Good L) (ht : t.ok) (hn : L.length * 48 ≤ 140737488355328) :
    Calls Try.prog 19 #[s, .agg #[.int .i64 t.a, .int .u32 t.b, .int .u32 t.c]] w fun e w' => (∃ u, e = .returned u ∧ Chn2 w.heap.size w' u (cutV L t.k)) ∧ Below w.heap.size w w' := by
  obtain ⟨A, c, rfl, hc, hA, hr⟩ := h
  exact (vcut_any A _ c L t w hr hA hc hn hg.srt hg.ok ht).mono fun e w' ⟨⟨u, h, ho⟩, hb⟩ => ⟨⟨u, h, Chn2.own ho⟩, hb⟩
theorem Chn.shape {W : World} {u : Value} {L : List Ver} (h : Chn W u L) : ∃ A c, u = .slice A L.length c := by
  obtain ⟨A, c, e, _⟩ := h; exact ⟨A, c, e⟩
theorem cutV_le (L : List Ver) (k : Int) : (cutV L k).length ≤ L.length := by unfold cutV; rw [List.length_drop]; omega
set_option maxRecDepth 100000 in
set_option maxHeartbeats 16000000 in
theorem law_cuts (A : Option Addr) (n c : Nat) (l : List Ver) (A' : Option Addr) (n' c' : Nat) (m : List Ver) (t y : Ver) (w : World) (hr : Reads w w.heap.size 6 A n (vsV l)) (hn : n ≤ 9223372036854775807) (hok : ∀ x ∈ l, x.ok)
    (hr' : Reads w w.heap.size 6 A' n' (vsV m)) (hn' : n' ≤ 9223372036854775807) (hok' : ∀ x ∈ m, x.ok) (ht : t.ok) (hy : y.ok) :
    Calls Try.prog 6 #[.slice A n c, .slice A' n' c', .agg #[.int .i64 t.a, .int .u32 t.b, .int .u32 t.c], .agg #[.int .i64 y.a, .int .u32 y.b, .int .u32 y.c]] w fun e w' => e = .returned (.bool true) ∧ Below w.heap.size w w' := by
  have hl' := vreads_len hr'
  obtain ⟨q, hq⟩ : ∃ q, w.heap.size = q := ⟨_, rfl⟩
  have hr1 := ((hr.alloc (Nat.le_refl _) (.cells #[.int .i64 t.a, .int .u32 t.b, .int .u32 t.c] 24)).alloc (by simp) (.cells #[.int .i64 y.a, .int .u32 y.b, .int .u32 y.c] 24)).more (B' := ((w.alloc (.cells #[.int .i64 t.a, .int .u32 t.b, .int .u32 t.c] 24)).alloc (.cells #[.int .i64 y.a, .int .u32 y.b, .int .u32 y.c] 24)).heap.size) (by simp; omega)
  have hM := made_any A n c l _ hr1 hn hok
  have hO0 := (Blk.new w 24 #[.int .i64 t.a, .int .u32 t.b, .int .u32 t.c]).alloc (.cells #[.int .i64 y.a, .int .u32 y.b, .int .u32 y.c] 24)
  have hY0 := Blk.made w (.cells #[.int .i64 t.a, .int .u32 t.b, .int .u32 t.c] 24) 24 #[.int .i64 y.a, .int .u32 y.b, .int .u32 y.c]
  have hb0 : Below w.heap.size w ((w.alloc (.cells #[.int .i64 t.a, .int .u32 t.b, .int .u32 t.c] 24)).alloc (.cells #[.int .i64 y.a, .int .u32 y.b, .int .u32 y.c] 24)) := by (repeat' (first | with_reducible exact Below.refl _ _ | with_reducible refine Below.ext ?_ ?_ _ | with_reducible refine Below.alloc ?_ ?_ _ | with_reducible refine Below.setCell ?_ ?_ _ | with_reducible refine Below.drew ?_ | with_reducible assumption | (simp [World.size_ext]; done) | (simp [World.size_ext]; omega)))
  have hs0 : w.heap.size ≤ ((w.alloc (.cells #[.int .i64 t.a, .int .u32 t.b, .int .u32 t.c] 24)).alloc (.cells #[.int .i64 y.a, .int .u32 y.b, .int .u32 y.c] 24)).heap.size := by simp; omega
  have hG := ML_good hok 60
  have hL := ML_length l 60
  generalize ML l 60 = L at *
  clear hr hr1 hok
  go_enter Try.func6, Try.ntmps6
  go_wp2_with (first
    | (go_at_call 12; (with_reducible refine hM.mono ?_); rintro e w1 ⟨⟨u, v, rfl, hu, hv⟩, hb1⟩)
    | (go_at_call 8; (with_reducible refine (chawake_any _).mono ?_); rintro e w2 ⟨rfl, hb2⟩))
  refine abstr (fun W => Below q w W ∧ Blk W q 24 #[.int .i64 t.a, .int .u32 t.b, .int .u32 t.c] ∧ Blk W (q + 1) 24 #[.int .i64 y.a, .int .u32 y.b, .int .u32 y.c] ∧ Chn W u L)
    ⟨by rw [← hq]; exact (hb0.trans (hb1.mono hs0)).trans (hb2.mono (Nat.le_trans hs0 hb1.size)), by rw [← hq]; exact (hO0.below hb1 hO0.lt).below hb2 (hO0.below hb1 hO0.lt).lt, by rw [← hq]; exact (hY0.below hb1 hY0.lt).below hb2 (hY0.below hb1 hY0.lt).lt, hu.below hb2⟩ (fun W hW => ?_)
  obtain ⟨hbW, hOW, hYW, huW⟩ := hW
  clear hM hO0 hY0 hb0 hs0 hb1 hb2 hu hv
  obtain ⟨Au, cu, hue⟩ := huW.shape
  subst hue
  have cO := hOW.cell
  have cY := hYW.cell
  have lO := hOW.lt
  have lY := hYW.lt
  refine Grow.wp_region_grow 6 [0, 1, 2, 3] [4, 5] (fun _ => #[.int .i64 0, .int .u32 0, .int .u32 0]) (fun _ => 29) (by kernel_rfl) (by kernel_rfl) (by intro i hi ρ w; simp only [List.mem_cons, List.not_mem_nil, or_false] at hi; rcases hi with rfl | rfl <;> kernel_rfl) ?_; simp only [List.map_cons, List.map_nil, List.getD_cons_zero, List.getD_cons_succ]
  (repeat (refine Grow.wpG_step (fun K hK => ?_); go_simp; first | (refine hK _ ?_; clear hK K) | (apply Exists.intro; refine ⟨fun _ => ?_, hK _ ?_⟩; (go_at_call 14; exact Calls.cat_of (to_any _ _ _ _)); clear hK K)))
  refine Grow.wpG_nil ?_; intro p X hz hne; simp only [List.drop_succ_cons, List.drop_zero, Grow.putL, if_true, List.getD_cons_zero, List.getD_cons_succ]; have z1 := hz 4 (by simp); obtain ⟨z1, b1⟩ := z1; have c1 := blk_cell z1; have f1 := blk_frozen z1; have l1 := blk_lt z1; have z2 := hz 5 (by simp); obtain ⟨z2, b2⟩ := z2; have c2 := blk_cell z2; have f2 := blk_frozen z2; have l2 := blk_lt z2; have n12 := hne 4 (by simp) 5 (by simp) (by decide); have n21 := n12.symm; clear hz hne; generalize p 4 = a1 at *; generalize p 5 = a2 at *
  have hML := cutV_le L t.k
  have hTw := Twin.cut hG t.k
  have hML' : ¬ ((L.length : Int) < ((cutV L t.k).length : Int)) := by omega
  have hcg := cut_g2 (L := L) t _ (Chn.stores (v0 := .int .i64 t.a) (v1 := .int .u32 t.b) (v2 := .int .u32 t.c) (v3 := .int .i64 y.a) (v4 := .int .u32 y.b) (v5 := .int .u32 y.c) huW X b1 b2) hG ht (by omega)
  generalize cutV L t.k = M at *
  have hZ1 : Blk (((((((W.ext X).setCell ⟨a1, 0, none⟩ (.int .i64 t.a)).setCell ⟨a1, 1, none⟩ (.int .u32 t.b)).setCell ⟨a1, 2, none⟩ (.int .u32 t.c)).setCell ⟨a2, 0, none⟩ (.int .i64 y.a)).setCell ⟨a2, 1, none⟩ (.int .u32 y.b)).setCell ⟨a2, 2, none⟩ (.int .u32 y.c)) a1 29 #[.int .i64 t.a, .int .u32 t.b, .int .u32 t.c] := stores_blk1 z1 n12
  have hZ2 : Blk (((((((W.ext X).setCell ⟨a1, 0, none⟩ (.int .i64 t.a)).setCell ⟨a1, 1, none⟩ (.int .u32 t.b)).setCell ⟨a1, 2, none⟩ (.int .u32 t.c)).setCell ⟨a2, 0, none⟩ (.int .i64 y.a)).setCell ⟨a2, 1, none⟩ (.int .u32 y.b)).setCell ⟨a2, 2, none⟩ (.int .u32 y.c)) a2 29 #[.int .i64 y.a, .int .u32 y.b, .int .u32 y.c] := stores_blk2 z2 n21
  have hZ3 : Below q w (((((((W.ext X).setCell ⟨a1, 0, none⟩ (.int .i64 t.a)).setCell ⟨a1, 1, none⟩ (.int .u32 t.b)).setCell ⟨a1, 2, none⟩ (.int .u32 t.c)).setCell ⟨a2, 0, none⟩ (.int .i64 y.a)).setCell ⟨a2, 1, none⟩ (.int .u32 y.b)).setCell ⟨a2, 2, none⟩ (.int .u32 y.c)) := stores_below (hbW.trans ((World.below_ext W X).mono (by omega))) (by omega) (by omega)
  have hZ4 := Chn.stores (v0 := .int .i64 t.a) (v1 := .int .u32 t.b) (v2 := .int .u32 t.c) (v3 := .int .i64 y.a) (v4 := .int .u32 y.b) (v5 := .int .u32 y.c) huW X b1 b2
  have HZ := hide (⟨hZ1, hZ2, hZ3, hZ4⟩ : _ ∧ _ ∧ _ ∧ _)
  clear hZ1 hZ2 hZ3 hZ4 z1 z2
  go_wp2_with (go_at_call 19; (with_reducible refine hcg.mono ?_); rintro e w3 ⟨⟨u3, rfl, hu3⟩, hb3⟩; have hu3' := hu3.chn; obtain ⟨A3, c3, he3⟩ := hu3'.shape; subst he3)
  obtain ⟨hZ1, hZ2, hZ3, hZ4⟩ := HZ.out
  have hqW : q ≤ W.heap.size := by omega
  have hW1 := hZ1.below hb3 hZ1.lt
  have hW2 := hZ2.below hb3 hZ2.lt
  have hW3 := hZ3.trans (hb3.mono (by have := hZ1.lt; omega))
  have hW4 := hZ4.below hb3
  have hW5 : Off a2 (.slice Au L.length cu) L := huW.off b2
  have hW6 := hu3.off hZ2.lt
  clear HZ hZ1 hZ2 hZ3 hZ4 c1 c2 f1 f2 l1 l2 hb3 hcg huW cO cY lO lY hOW hYW
  generalize hM : M.length = mm at *
  simp only [show decide (L.length < mm) = false from decide_eq_false (by omega)]
  go_loopw [9, 14, 51] (fun s9 s14 s51 wr => ∃ (j : Nat) (C D : List Ver), j ≤ n' ∧ s51 = .int .i64 (j : Int) ∧ Chn wr s9 C ∧ Chn wr s14 D ∧ Twin C D t.k ∧ Off a2 s9 C ∧ Off a2 s14 D ∧ C.length ≤ 60 + min j 30 ∧ D.length ≤ 60 + min j 30 ∧ Blk wr a1 29 #[.int .i64 t.a, .int .u32 t.b, .int .u32 t.c] ∧ Blk wr a2 29 #[.int .i64 y.a, .int .u32 y.b, .int .u32 y.c] ∧ Below q w wr) (fun _ _ s51 _ => ((n' : Int) - intOf s51).toNat)
  case atStart => exact ⟨0, L, M, by omega, rfl, hW4, hM ▸ hu3', hTw, hW5, hM ▸ hW6, by omega, by omega, hW1, hW2, hW3⟩
  case round =>
    clear hW1 hW2 hW3 hW4 hW5 hW6 hu3 hu3' hTw
    obtain ⟨j, C, D, hj, rfl, hC, hD, hTw, hoC, hoD, hCl, hDl, hO, hE, hbel⟩ := hrel
    have lO := hO.lt
    have lE := hE.lt
    have cO := hO.cell
    have cE := hE.cell
    have hqw : q ≤ wr.heap.size := by omega
    by_cases hlt : j < n'
    · obtain ⟨b, o, rfl, hbb, hc⟩ := hr'.plain (by omega) (by omega)
      have hcw : ∀ (j : Nat) (u : Value), (vsV m)[j]? = some u → wr.cell? ⟨b, o + j, none⟩ = some u := fun j u hu => (hbel.cell (p := ⟨b, _, none⟩) (by show b < q; omega)).trans (hc j u hu)
      obtain ⟨x, hg⟩ : ∃ x, m[j]? = some x := ⟨m[j]'(by omega), List.getElem?_eq_getElem (by omega)⟩
      have hxo := hok' x (List.mem_of_getElem? hg)
      have m0 : (wr).cell? ⟨b, o + j * 6, none⟩ = some (.int .i64 (x).a) := hcw _ _ (vsV_get hg 0 _ rfl); have m1 : (wr).cell? ⟨b, o + j * 6 + 1, none⟩ = some (.int .u32 (x).b) := hcw _ _ (vsV_get hg 1 _ rfl); have m2 : (wr).cell? ⟨b, o + j * 6 + 2, none⟩ = some (.int .u32 (x).c) := hcw _ _ (vsV_get hg 2 _ rfl); have m3 : (wr).cell? ⟨b, o + j * 6 + 3, none⟩ = some (.int .i64 (x).kd) := hcw _ _ (vsV_get hg 3 _ rfl); have m4 : (wr).cell? ⟨b, o + j * 6 + 4, none⟩ = some (.int .i64 (x).num) := hcw _ _ (vsV_get hg 4 _ rfl); have m5 : (wr).cell? ⟨b, o + j * 6 + 5, none⟩ = some (.string (x).text) := hcw _ _ (vsV_get hg 5 _ rfl)
      have hbw : b < wr.heap.size := by have := hbel.size; omega
      have hji : (j : Int) < n' := by omega
      have hfd : ∀ w : World, (Instr.field 31 (.agg #[.int .i64 x.a, .int .u32 x.b, .int .u32 x.c, .int .i64 x.kd, .int .i64 x.num, .string x.text]) 0).run Try.prog w = .ok (.agg #[.int .i64 x.a, .int .u32 x.b, .int .u32 x.c]) w := fun _ => by kernel_rfl
      have hV := Blk.new wr 26 (#[.int .i64 x.a, .int .u32 x.b, .int .u32 x.c, .int .i64 x.kd, .int .i64 x.num, .string x.text])
      have cV := hV.cell
      have lV := hV.lt
      clear hc hcw hr' hok' hg
      by_cases h30 : j < 30
      · have h30' : (j : Int) < 30 := by omega
        have hCmp : ∀ w : World, Calls Try.prog 22 #[.agg #[.int .i64 x.a, .int .u32 x.b, .int .u32 x.c], .agg #[.int .i64 t.a, .int .u32 t.b, .int .u32 t.c]] w fun e w' => e = .returned (.int .i64 (cmpV x t)) ∧ Below w.heap.size w w' := fun w => compare_any x.a x.b x.c t.a t.b t.c w
        have hlt1 := cmpV_lt hxo ht
        have heq1 := cmpV_eq hxo ht
        have lO1 : a1 < wr.heap.size + 1 := by omega
        have hne1 : a1 ≠ wr.heap.size := by omega
        generalize cmpV x t = ev at *
        by_cases hev : ev ≤ 0
        · go_wp2
          refine wp_region_ext_lit (by kernel_rfl) (by kernel_rfl) ?_
          (repeat (first | ((with_reducible refine wpQuiet_step (fun K hK => ?_)); go_simp; first | ((with_reducible refine hK _ ?_); clear hK K) | (apply Exists.intro; (with_reducible refine ⟨fun _ => ?_, hK _ ?_⟩); first | (go_at_call 10; exact Calls.ext_of (vto_any x _)) | (go_at_call 22; exact Calls.ext_of (hCmp _)); clear hK K)) | ((with_reducible refine quiet_skipN ?_ (fun K hK => ?_)); (rfl); go_simp; (with_reducible refine hK _ ?_); clear hK K)))
          (with_reducible refine wpQuiet_nil ?_); intro _ hw'; obtain ⟨Y, hw''⟩ := hw'; subst hw''
          go_wp2
          go_roundw
          case rel => exact ⟨j + 1, C, D, by omega, by go_num, (hC.alloc _).ext _, (hD.alloc _).ext _, hTw, hoC, hoD, by omega, by omega, (hO.alloc _).ext _, (hE.alloc _).ext _, (hbel.alloc (by omega) _).trans ((World.below_ext _ _).mono (by simp; omega))⟩
          case measure => simp [intOf]; omega
        · have hkx : t.k < x.k := by omega
          have hP := fun s w h => put_g2 (s := s) (L := C) x w h hTw.gc hxo (by omega)
          have hQ := fun s w h => put_g2 (s := s) (L := D) x w h hTw.gd hxo (by omega)
          rw [← hTw.err hkx] at hQ
          go_wp2
          refine wp_region_ext_lit (by kernel_rfl) (by kernel_rfl) ?_
          (repeat (first | ((with_reducible refine wpQuiet_step (fun K hK => ?_)); go_simp; first | ((with_reducible refine hK _ ?_); clear hK K) | (apply Exists.intro; (with_reducible refine ⟨fun _ => ?_, hK _ ?_⟩); first | (go_at_call 10; exact Calls.ext_of (vto_any x _)) | (go_at_call 22; exact Calls.ext_of (hCmp _)); clear hK K)) | ((with_reducible refine quiet_skipN ?_ (fun K hK => ?_)); (rfl); go_simp; (with_reducible refine hK _ ?_); clear hK K)))
          (with_reducible refine wpQuiet_nil ?_); intro _ hw'; obtain ⟨Y, hw''⟩ := hw'; subst hw''
          refine abstr (fun U => Below q w U ∧ Blk U a1 29 #[.int .i64 t.a, .int .u32 t.b, .int .u32 t.c] ∧ Blk U a2 29 #[.int .i64 y.a, .int .u32 y.b, .int .u32 y.c] ∧ Blk U wr.heap.size 26 (#[.int .i64 x.a, .int .u32 x.b, .int .u32 x.c, .int .i64 x.kd, .int .i64 x.num, .string x.text]) ∧ Chn U u9 C ∧ Chn U u14 D)
            ⟨(hbel.alloc (by omega) _).trans ((World.below_ext _ _).mono (by simp; omega)), (hO.alloc _).ext _, (hE.alloc _).ext _, hV.ext _, (hC.alloc _).ext _, (hD.alloc _).ext _⟩ (fun U hU => ?_)
          clear hbel hO hE hV hC hD lO lE cO cE cV lV m0 m1 m2 m3 m4 m5 hbw lO1 hne1
          obtain ⟨hbel, hO, hE, hV, hC, hD⟩ := hU
          generalize wr.heap.size = p16 at *
          have cV := hV.cell
          have lV := hV.lt
          have lO := hO.lt
          have lE := hE.lt
          have hqU : q ≤ U.heap.size := by omega
          by_cases he : errL C x = 0
          · rw [he] at hP hQ
            have hres : resL C x = putL C x ∧ resL D x = putL D x := ⟨by unfold resL; rw [if_pos he], by unfold resL; rw [if_pos (by rw [← hTw.err hkx]; exact he)]⟩
            have hT2 := hTw.put hkx hxo he
            have hl1 := putL_length C x
            have hl2 := putL_length D x
            rw [hres.1] at hP
            rw [hres.2] at hQ
            clear hres he
            generalize putL C x = C2 at *
            generalize putL D x = D2 at *
            go_wp2_with (first | (go_at_call 10; (with_reducible refine (vto_any x U).mono ?_); rintro e w1 ⟨rfl, hb1⟩; have hV1 := hV.below hb1 lV; have cV1 := hV1.cell; have lV1 := hV1.lt) | (go_at_call 21; (with_reducible refine (hP u9 w1 (hC.below hb1)).mono ?_); rintro e w2 ⟨⟨u, rfl, hu⟩, hb2⟩; have hV2 := hV1.below hb2 lV1; have cV2 := hV2.cell; have lV2 := hV2.lt; have hb02 := hb1.trans (hb2.mono hb1.size)) | (go_at_call 10; (with_reducible refine (vto_any x w2).mono ?_); rintro e w3 ⟨rfl, hb3⟩; have hb03 := hb02.trans (hb3.mono hb02.size)) | (go_at_call 21; (with_reducible refine (hQ u14 w3 (hD.below hb03)).mono ?_); rintro e w4 ⟨⟨v2, rfl, hv⟩, hb4⟩; have hb04 := hb03.trans (hb4.mono hb03.size)))
            go_roundw
            case rel => exact ⟨j + 1, C2, D2, by omega, by go_num, hu.chn.below (hb3.trans (hb4.mono hb3.size)), hv.chn, hT2, hu.off (Nat.lt_of_lt_of_le lE hb1.size), hv.off (Nat.lt_of_lt_of_le lE hb03.size), by omega, by omega, hO.below hb04 lO, hE.below hb04 lE, hbel.trans (hb04.mono hqU)⟩
            case measure => simp [intOf]; omega
          · have he' : (errL C x == 0) = false := by simpa using he
            generalize errL C x = er at *
            go_wp2_with (first | (go_at_call 10; (with_reducible refine (vto_any x U).mono ?_); rintro e w1 ⟨rfl, hb1⟩; have hV1 := hV.below hb1 lV; have cV1 := hV1.cell; have lV1 := hV1.lt) | (go_at_call 21; (with_reducible refine (hP u9 w1 (hC.below hb1)).mono ?_); rintro e w2 ⟨⟨u, rfl, hu⟩, hb2⟩; have hV2 := hV1.below hb2 lV1; have cV2 := hV2.cell; have lV2 := hV2.lt; have hb02 := hb1.trans (hb2.mono hb1.size)) | (go_at_call 10; (with_reducible refine (vto_any x w2).mono ?_); rintro e w3 ⟨rfl, hb3⟩; have hb03 := hb02.trans (hb3.mono hb02.size)) | (go_at_call 21; (with_reducible refine (hQ u14 w3 (hD.below hb03)).mono ?_); rintro e w4 ⟨⟨v2, rfl, hv⟩, hb4⟩; have hb04 := hb03.trans (hb4.mono hb03.size)))
            go_roundw
            case rel => exact ⟨j + 1, C, D, by omega, by go_num, hC.below hb04, hD.below hb04, hTw, hoC, hoD, by omega, by omega, hO.below hb04 lO, hE.below hb04 lE, hbel.trans (hb04.mono hqU)⟩
            case measure => simp [intOf]; omega
      · have h30' : (30 : Int) ≤ (j : Int) := by omega
        go_wp2
        refine wp_region_ext_lit (by kernel_rfl) (by kernel_rfl) ?_
        (repeat (first | ((with_reducible refine wpQuiet_step (fun K hK => ?_)); go_simp; first | ((with_reducible refine hK _ ?_); clear hK K) | (apply Exists.intro; (with_reducible refine ⟨fun _ => ?_, hK _ ?_⟩); fail; clear hK K)) | ((with_reducible refine quiet_skipN ?_ (fun K hK => ?_)); (rfl); go_simp; (with_reducible refine hK _ ?_); clear hK K)))
        (with_reducible refine wpQuiet_nil ?_); intro _ hw'; obtain ⟨Y, hw''⟩ := hw'; subst hw''
        go_wp2
        go_roundw
        case rel => exact ⟨j + 1, C, D, by omega, by go_num, (hC.alloc _).ext _, (hD.alloc _).ext _, hTw, hoC, hoD, by omega, by omega, (hO.alloc _).ext _, (hE.alloc _).ext _, (hbel.alloc (by omega) _).trans ((World.below_ext _ _).mono (by simp; omega))⟩
        case measure => simp [intOf]; omega
    · obtain rfl : j = n' := by omega
      have hGy : ∀ (C : List Ver) (s : Value) (w : World), C.length ≤ 90 → Good C → Chn w s C → _ := fun C s w hl hg h => get_g (s := s) y w h hg hy (by omega)
      have hGt : ∀ (C : List Ver) (s : Value) (w : World), C.length ≤ 90 → Good C → Chn w s C → _ := fun C s w hl hg h => get_g (s := s) t w h hg ht (by omega)
      have hCmp : ∀ w : World, Calls Try.prog 22 #[.agg #[.int .i64 y.a, .int .u32 y.b, .int .u32 y.c], .agg #[.int .i64 t.a, .int .u32 t.b, .int .u32 t.c]] w fun e w' => e = .returned (.int .i64 (cmpV y t)) ∧ Below w.heap.size w w' := fun w => compare_any y.a y.b y.c t.a t.b t.c w
      have hlt1 := cmpV_lt hy ht
      generalize cmpV y t = ev at *
      clear hlt
      by_cases hev : ev < 0
      · have hg1 := hGt C u9 
        have hg2 := hGt D u14
        have heq := stand_twin hTw (Int.le_refl t.k)
        rw [← heq] at hg2
        generalize gvD (getV C t.k) = z at *
        generalize (getV C t.k).isSome = ob at *
        simp only [Ver.arr] at hg1 hg2
        have hqa : q ≤ a2 := by omega
        have hE1s : ∀ w1, Blk w1 a2 29 #[.int .i64 y.a, .int .u32 y.b, .int .u32 y.c] → Blk (((w1.setCell ⟨a2, 0, none⟩ (.int .i64 t.a)).setCell ⟨a2, 1, none⟩ (.int .u32 t.b)).setCell ⟨a2, 2, none⟩ (.int .u32 t.c)) a2 29 #[.int .i64 t.a, .int .u32 t.b, .int .u32 t.c] := fun w1 h => h.three
        have hb1s : ∀ w1, Below q w w1 → Below q w (((w1.setCell ⟨a2, 0, none⟩ (.int .i64 t.a)).setCell ⟨a2, 1, none⟩ (.int .u32 t.b)).setCell ⟨a2, 2, none⟩ (.int .u32 t.c)) := fun w1 h => ((h.setCell (p := ⟨a2, 0, none⟩) hqa _).setCell (p := ⟨a2, 1, none⟩) hqa _).setCell (p := ⟨a2, 2, none⟩) hqa _
        go_wp2_with (first | (go_at_call 22; (with_reducible refine (hCmp _).mono ?_); rintro e w1 ⟨rfl, hb1⟩; have hE1 := hE.below hb1 lE; have cE1 := hE1.cell; have fE1 := hE1.frozen; have lE1 := hE1.lt; have hO1 := hO.below hb1 lO; have cO1 := hO1.cell; have lO1 := hO1.lt; have hb01 : Below q w w1 := hbel.trans (hb1.mono (by omega))) | (go_at_call 13; (with_reducible refine (hg1 _ (by omega) hTw.gc ((hC.below hb1).set3 hoC)).mono ?_); rintro e w2 ⟨rfl, hb2⟩; have hE2 := ((hE1s _ hE1).below hb2 (Blk.lt (hE1s _ hE1))).alloc (.cells (#[.int .i64 z.a, .int .u32 z.b, .int .u32 z.c, .int .i64 z.kd, .int .i64 z.num, .string z.text]) 31); have cE2 := hE2.cell; have lE2 := hE2.lt; have hz2 := Blk.new w2 31 (#[.int .i64 z.a, .int .u32 z.b, .int .u32 z.c, .int .i64 z.kd, .int .i64 z.num, .string z.text]); have hb02 := ((hb1s _ hb01).trans (hb2.mono (by have := Blk.lt (hE1s _ hE1); omega))).alloc (by have := hb2.size; have := Blk.lt (hE1s _ hE1); omega) (.cells (#[.int .i64 z.a, .int .u32 z.b, .int .u32 z.c, .int .i64 z.kd, .int .i64 z.num, .string z.text]) 31); have hD2 := (((hD.below hb1).set3 hoD).below hb2).alloc (.cells (#[.int .i64 z.a, .int .u32 z.b, .int .u32 z.c, .int .i64 z.kd, .int .i64 z.num, .string z.text]) 31)) | (go_at_call 13; (with_reducible refine (hg2 _ (by omega) hTw.gd hD2).mono ?_); rintro e w4 ⟨rfl, hb4⟩; have hz4 := (hz2.below hb4 hz2.lt); have cz4 := hz4.cell; have lz4 := hz4.lt; have hb04 := (hb02.trans (hb4.mono (by have := hE2.lt; omega))).alloc (by have := hE2.lt; have := hb4.size; omega) (.cells (#[.int .i64 z.a, .int .u32 z.b, .int .u32 z.c, .int .i64 z.kd, .int .i64 z.num, .string z.text]) 31)))
        go_ret
        exact ⟨rfl, by rw [hq]; exact hb04⟩
      · have hg1 := hGy C u9 
        have hg2 := hGy D u14
        have heq := stand_twin hTw (show t.k ≤ y.k by omega)
        rw [← heq] at hg2
        generalize gvD (getV C y.k) = z at *
        generalize (getV C y.k).isSome = ob at *
        simp only [Ver.arr] at hg1 hg2
        go_wp2_with (first | (go_at_call 22; (with_reducible refine (hCmp _).mono ?_); rintro e w1 ⟨rfl, hb1⟩; have hE1 := hE.below hb1 lE; have cE1 := hE1.cell; have fE1 := hE1.frozen; have lE1 := hE1.lt; have hO1 := hO.below hb1 lO; have cO1 := hO1.cell; have lO1 := hO1.lt; have hb01 : Below q w w1 := hbel.trans (hb1.mono (by omega))) | (go_at_call 13; (with_reducible refine (hg1 _ (by omega) hTw.gc (hC.below hb1)).mono ?_); rintro e w2 ⟨rfl, hb2⟩; have hE2 := (hE1.below hb2 (Blk.lt hE1)).alloc (.cells (#[.int .i64 z.a, .int .u32 z.b, .int .u32 z.c, .int .i64 z.kd, .int .i64 z.num, .string z.text]) 31); have cE2 := hE2.cell; have lE2 := hE2.lt; have hz2 := Blk.new w2 31 (#[.int .i64 z.a, .int .u32 z.b, .int .u32 z.c, .int .i64 z.kd, .int .i64 z.num, .string z.text]); have hb02 := (hb01.trans (hb2.mono (by have := Blk.lt hE1; omega))).alloc (by have := hb2.size; have := Blk.lt hE1; omega) (.cells (#[.int .i64 z.a, .int .u32 z.b, .int .u32 z.c, .int .i64 z.kd, .int .i64 z.num, .string z.text]) 31); have hD2 := ((hD.below hb1).below hb2).alloc (.cells (#[.int .i64 z.a, .int .u32 z.b, .int .u32 z.c, .int .i64 z.kd, .int .i64 z.num, .string z.text]) 31)) | (go_at_call 13; (with_reducible refine (hg2 _ (by omega) hTw.gd hD2).mono ?_); rintro e w4 ⟨rfl, hb4⟩; have hz4 := (hz2.below hb4 hz2.lt); have cz4 := hz4.cell; have lz4 := hz4.lt; have hb04 := (hb02.trans (hb4.mono (by have := hE2.lt; omega))).alloc (by have := hE2.lt; have := hb4.size; omega) (.cells (#[.int .i64 z.a, .int .u32 z.b, .int .u32 z.c, .int .i64 z.kd, .int .i64 z.num, .string z.text]) 31)))
        go_ret
        exact ⟨rfl, by rw [hq]; exact hb04⟩
end Go.Proofs.Ytghinjnhcepaeaa
