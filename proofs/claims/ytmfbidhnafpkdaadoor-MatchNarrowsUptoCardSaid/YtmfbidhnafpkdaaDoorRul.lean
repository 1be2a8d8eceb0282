import Derived.Test.YtmfbidhnafpkdaaDoorGt
/-! Rules: their cells, lists of them; rules as the program's, and as the document's. -/
namespace Go.Proofs.YtmfbidhnafpkdaaDoor
open Go.RowKit
set_option linter.unusedVariables false
set_option linter.unusedSimpArgs false
structure Rul where
  a : ByteArray
  op : Int
  b : ByteArray
  deriving Inhabited, DecidableEq
def Rul.cells (x : Rul) : List Value := [.string x.a, .int .i64 x.op, .string x.b]
theorem Rul.len (x : Rul) : x.cells.length = 3 := rfl
def Rul.ok (x : Rul) : Prop := x.a.size ≤ maxLen ∧ x.b.size ≤ maxLen ∧ -9223372036854775808 ≤ x.op ∧ x.op ≤ 9223372036854775807
def rsV (l : List Rul) : List Value := rowsV Rul.cells l
theorem rsV_get {l : List Rul} {i : Nat} {x : Rul} (h : l[i]? = some x) (j : Nat) (v : Value) (hv : x.cells[j]? = some v) : (rsV l)[i * 3 + j]? = some v := rowsV_get Rul.len l i x h j v hv
theorem rsV_length (l : List Rul) : (rsV l).length = l.length * 3 := rowsV_length Rul.len l
theorem rsV_append (l m : List Rul) : rsV (l ++ m) = rsV l ++ rsV m := by simp [rsV, rowsV]
theorem rsV_cons (x : Rul) (l : List Rul) : rsV (x :: l) = x.cells ++ rsV l := by simp [rsV, rowsV]
theorem rsV_one {l : List Rul} {u : Value} (hu : u ∈ rsV l) : u.oneCell' = true := by
  simp only [rsV, rowsV, List.mem_flatMap] at hu
  obtain ⟨x, _, hx⟩ := hu
  simp only [Rul.cells, List.mem_cons, List.not_mem_nil, or_false] at hx
  rcases hx with rfl | rfl | rfl <;> rfl
theorem rsV_take1 {l : List Rul} {j : Nat} {x : Rul} (h : l[j]? = some x) : rsV (l.take j) ++ x.cells = rsV (l.take (j + 1)) := by
  rw [List.take_add_one, h, rsV_append]
  simp [rsV, rowsV]
theorem infoR : (Tryd.prog.info? 35).map (fun i => (i.zero, i.size, i.bytes)) = some (some (.agg #[.string ⟨#[]⟩, .int .i64 0, .string ⟨#[]⟩]), 3, 40) := by kernel_rfl
theorem infoR6 : (Tryd.prog.info? 51).map (fun i => (i.zero, i.size, i.bytes)) = some (some (.agg #[.string ⟨#[]⟩, .int .i64 0, .string ⟨#[]⟩]), 3, 40) := by kernel_rfl
/-- A slice that reads as a list of rules. -/
def Rz (w : World) (v : Value) (L : List Rul) : Prop :=
  ∃ A c, v = .slice A L.length c ∧ L.length ≤ c ∧ c ≤ maxLen ∧ (A = none → c = 0) ∧ Reads w w.heap.size 3 A L.length (rsV L)
theorem Rz.nil (w : World) : Rz w (.slice none 0 0) [] := ⟨none, 0, rfl, Nat.le_refl _, Nat.zero_le _, fun _ => rfl, Reads.none_⟩
theorem Rz.below {w w' : World} {v : Value} {L : List Rul} (h : Rz w v L) (hb : Below w.heap.size w w') : Rz w' v L := by
  obtain ⟨A, c, e, h1, h2, h4, h3⟩ := h
  exact ⟨A, c, e, h1, h2, h4, (h3.below hb).more hb.size⟩
theorem Rz.ext {w : World} {v : Value} {L : List Rul} (h : Rz w v L) (X : Ext) : Rz (w.ext X) v L := h.below (World.below_ext _ _)
theorem Rz.alloc {w : World} {v : Value} {L : List Rul} (h : Rz w v L) (o : Obj) : Rz (w.alloc o) v L := h.below (Below.alloc (Below.refl _ _) (Nat.le_refl _) o)
theorem Rz.own {w : World} {base n : Nat} {t : TypeId} {v : Value} {L : List Rul} (h : w.ownsRow base t 3 v n (rsV L)) : Rz w v L := by
  have hl : L.length = n := by have := h.1; rw [rsV_length] at this; omega
  subst hl
  rcases h.2 with ⟨rfl, h0⟩ | ⟨g, cap, cur, rfl, _, hg, hnc, hm, _⟩
  · rw [h0] at h
    exact ⟨none, 0, by rw [h0], by omega, Nat.zero_le _, fun _ => rfl, by rw [h0]; exact Reads.of_own h⟩
  · exact ⟨_, cap, rfl, hnc, hm, (fun e => by cases e), Reads.of_own h⟩
theorem Rz.shape {w : World} {v : Value} {L : List Rul} (h : Rz w v L) : ∃ A c, v = .slice A L.length c := by
  obtain ⟨A, c, e, _⟩ := h
  exact ⟨A, c, e⟩
theorem Rz.at_ {w : World} {A : Option Addr} {n c : Nat} {L : List Rul} (h : Rz w (.slice A n c) L) {i : Nat} {x : Rul} (hx : L[i]? = some x) :
    ∃ b o, A = some ⟨b, o, none⟩ ∧ b < w.heap.size ∧ w.cell? ⟨b, o + i * 3, none⟩ = some (.string x.a) ∧ w.cell? ⟨b, o + i * 3 + 1, none⟩ = some (.int .i64 x.op) ∧ w.cell? ⟨b, o + i * 3 + 2, none⟩ = some (.string x.b) := by
  obtain ⟨A', c', e, _, _, _, hr⟩ := h
  cases e
  have hi := (List.getElem?_eq_some_iff.1 hx).1
  obtain ⟨b, o, rfl, hb, hc⟩ := hr.plain (by omega) (by omega)
  exact ⟨b, o, rfl, hb, hc _ _ (rsV_get hx 0 _ rfl), hc _ _ (rsV_get hx 1 _ rfl), hc _ _ (rsV_get hx 2 _ rfl)⟩
theorem Rz.n {w : World} {A : Option Addr} {n c : Nat} {L : List Rul} (h : Rz w (.slice A n c) L) : L.length = n ∧ n ≤ 9223372036854775807 := by
  obtain ⟨A', c', e, h1, h2, _⟩ := h
  cases e
  unfold maxLen at h2
  exact ⟨rfl, by omega⟩
set_option maxRecDepth 100000 in
set_option maxHeartbeats 4000000 in
theorem rto_any (v : Value) (l : List Rul) (w : World) (h : Rz w v l) (hn : l.length * 40 ≤ 140737488355328) :
    Calls Tryd.prog 10 #[v] w fun e w' => (∃ u, e = .returned u ∧ w'.ownsRow w.heap.size 35 3 u l.length (rsV l)) ∧ Below w.heap.size w w' := by
  obtain ⟨i0, hi, hz0, hz1, hz2⟩ := info_parts infoR
  obtain ⟨A, c, rfl⟩ := h.shape
  obtain ⟨q, hq⟩ : ∃ q, w.heap.size = q := ⟨_, rfl⟩
  have hB : Below q w w := by rw [← hq]; exact Below.refl _ _
  rw [hq]
  go_enter Tryd.func10, Tryd.ntmps10
  go_wp2
  go_loopw [3, 8] (fun s3 s8 wr => ∃ j : Nat, j ≤ l.length ∧ s8 = .int .i64 (j : Int) ∧ wr.ownsRow q 35 3 s3 j (rsV (l.take j)) ∧ Below q w wr) (fun _ s8 _ => ((l.length : Int) - intOf s8).toNat)
  case atStart => exact ⟨0, by omega, rfl, World.ownsRow_nil _ _ _ _, hB⟩
  case round =>
    clear hB
    obtain ⟨j, hj, rfl, hown, hbel⟩ := hrel
    have hszw : q ≤ wr.heap.size := by rw [← hq]; exact hbel.size
    by_cases hlt : j < l.length
    · obtain ⟨x, hx⟩ : ∃ x, l[j]? = some x := ⟨_, List.getElem?_eq_getElem hlt⟩
      obtain ⟨b, o, rfl, hbb, m0, m1, m2⟩ := (h.below (by rw [hq]; exact hbel)).at_ hx
      have H := hide (rsV_take1 hx)
      have hjj : (j : Int) < l.length := by omega
      clear h hx
      go_wp2_with (at_builtin; go_must (refine wpList_append_own _ rfl (.tmp 12) (.tmp 20) 26 rfl (q) 35 i0 (.agg #[.string ⟨#[]⟩, .int .i64 0, .string ⟨#[]⟩]) 3 40 Tryd.underlying26 hi hz0 hz1 hz2 rfl (by decide) _ (j) _ rfl (((hown.alloc _).alloc _)) ⟨wr.heap.size + 1, 0, none⟩ 1 1 (x.cells) rfl rfl ?c1 ?c2 ?c3 ?c4 ?c5 ?_))
      case c1 => first | exact fun j u hu => hu | exact cells_new_at _ #[.string x.a, .int .i64 x.op, .string x.b] _ rfl | exact cells_new_at _ #[.string x.a, .int .i64 x.op, .string x.b] _ (by simp)
      case c2 => exact fun u hu => rsV_one (l := [x]) (by rw [rsV_cons]; exact List.mem_append_left _ hu)
      case c3 => unfold maxLen; omega
      case c4 => omega
      case c5 => first | omega | (simp; omega)
      intro v' w1 hown1 hg1 _
      have hbel1 := own_below ((hbel.alloc hszw _).alloc (by simp; omega) _) ((hown.alloc _).alloc _) hg1 (Nat.le_refl _) (by simp; omega)
      rw [H.out] at hown1
      clear hg1 hbel hown
      go_wp2
      go_roundw
      case rel => exact ⟨j + 1, by omega, by go_num, hown1, hbel1⟩
      case measure => simp [intOf]; omega
    · obtain rfl : j = l.length := by omega
      rw [List.take_length] at hown
      go_wp2
      go_ret
      exact ⟨⟨_, rfl, hown⟩, hbel⟩
set_option maxRecDepth 100000 in
set_option maxHeartbeats 4000000 in
theorem rfrom_any (v : Value) (l : List Rul) (w : World) (h : Rz w v l) (hn : l.length * 40 ≤ 140737488355328) :
    Calls Tryd.prog 22 #[v] w fun e w' => (∃ u, e = .returned u ∧ w'.ownsRow w.heap.size 51 3 u l.length (rsV l)) ∧ Below w.heap.size w w' := by
  obtain ⟨i0, hi, hz0, hz1, hz2⟩ := info_parts infoR6
  obtain ⟨A, c, rfl⟩ := h.shape
  obtain ⟨q, hq⟩ : ∃ q, w.heap.size = q := ⟨_, rfl⟩
  have hB : Below q w w := by rw [← hq]; exact Below.refl _ _
  rw [hq]
  go_enter Tryd.func22, Tryd.ntmps22
  go_wp2
  go_loopw [3, 8] (fun s3 s8 wr => ∃ j : Nat, j ≤ l.length ∧ s8 = .int .i64 (j : Int) ∧ wr.ownsRow q 51 3 s3 j (rsV (l.take j)) ∧ Below q w wr) (fun _ s8 _ => ((l.length : Int) - intOf s8).toNat)
  case atStart => exact ⟨0, by omega, rfl, World.ownsRow_nil _ _ _ _, hB⟩
  case round =>
    clear hB
    obtain ⟨j, hj, rfl, hown, hbel⟩ := hrel
    have hszw : q ≤ wr.heap.size := by rw [← hq]; exact hbel.size
    by_cases hlt : j < l.length
    · obtain ⟨x, hx⟩ : ∃ x, l[j]? = some x := ⟨_, List.getElem?_eq_getElem hlt⟩
      obtain ⟨b, o, rfl, hbb, m0, m1, m2⟩ := (h.below (by rw [hq]; exact hbel)).at_ hx
      have H := hide (rsV_take1 hx)
      have hjj : (j : Int) < l.length := by omega
      clear h hx
      go_wp2_with (at_builtin; go_must (refine wpList_append_own _ rfl (.tmp 12) (.tmp 20) 22 rfl (q) 51 i0 (.agg #[.string ⟨#[]⟩, .int .i64 0, .string ⟨#[]⟩]) 3 40 Tryd.underlying22 hi hz0 hz1 hz2 rfl (by decide) _ (j) _ rfl (((hown.alloc _).alloc _)) ⟨wr.heap.size + 1, 0, none⟩ 1 1 (x.cells) rfl rfl ?c1 ?c2 ?c3 ?c4 ?c5 ?_))
      case c1 => first | exact fun j u hu => hu | exact cells_new_at _ #[.string x.a, .int .i64 x.op, .string x.b] _ rfl | exact cells_new_at _ #[.string x.a, .int .i64 x.op, .string x.b] _ (by simp)
      case c2 => exact fun u hu => rsV_one (l := [x]) (by rw [rsV_cons]; exact List.mem_append_left _ hu)
      case c3 => unfold maxLen; omega
      case c4 => omega
      case c5 => first | omega | (simp; omega)
      intro v' w1 hown1 hg1 _
      have hbel1 := own_below ((hbel.alloc hszw _).alloc (by simp; omega) _) ((hown.alloc _).alloc _) hg1 (Nat.le_refl _) (by simp; omega)
      rw [H.out] at hown1
      clear hg1 hbel hown
      go_wp2
      go_roundw
      case rel => exact ⟨j + 1, by omega, by go_num, hown1, hbel1⟩
      case measure => simp [intOf]; omega
    · obtain rfl : j = l.length := by omega
      rw [List.take_length] at hown
      go_wp2
      go_ret
      exact ⟨⟨_, rfl, hown⟩, hbel⟩
end Go.Proofs.YtmfbidhnafpkdaaDoor
