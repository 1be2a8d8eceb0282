import Derived.Test.YtmfbidhnafpkdaaDoorUq
import Derived.Test.YtmfbidhnafpkdaaDoorRows2
import Derived.Test.YtmfbidhnafpkdaaDoorSkip
import Derived.Test.YtmfbidhnafpkdaaDoorFirst
import Derived.Test.YtmfbidhnafpkdaaDoorOnly
import Derived.Laws.NewBlocks
/-! Labels: their cells, lists of them, how two stand. -/
namespace Go.Proofs.YtmfbidhnafpkdaaDoor
open Go.RowKit
set_option linter.unusedVariables false
set_option linter.unusedSimpArgs false
structure Par where
  a : ByteArray
  b : ByteArray
  deriving Inhabited, DecidableEq
def Par.cells (x : Par) : List Value := [.string x.a, .string x.b]
theorem Par.len (x : Par) : x.cells.length = 2 := rfl
def Par.ok (x : Par) : Prop := x.a.size ≤ maxLen ∧ x.b.size ≤ maxLen
def psV (l : List Par) : List Value := rowsV Par.cells l
theorem psV_get {l : List Par} {i : Nat} {x : Par} (h : l[i]? = some x) (j : Nat) (v : Value) (hv : x.cells[j]? = some v) : (psV l)[i * 2 + j]? = some v := rowsV_get Par.len l i x h j v hv
theorem psV_length (l : List Par) : (psV l).length = l.length * 2 := rowsV_length Par.len l
theorem psV_append (l m : List Par) : psV (l ++ m) = psV l ++ psV m := by simp [psV, rowsV]
theorem psV_cons (x : Par) (l : List Par) : psV (x :: l) = x.cells ++ psV l := by simp [psV, rowsV]
theorem psV_one {l : List Par} {u : Value} (hu : u ∈ psV l) : u.oneCell' = true := by
  simp only [psV, rowsV, List.mem_flatMap] at hu
  obtain ⟨x, _, hx⟩ := hu
  simp only [Par.cells, List.mem_cons, List.not_mem_nil, or_false] at hx
  rcases hx with rfl | rfl <;> rfl
theorem psV_take1 {l : List Par} {j : Nat} {x : Par} (h : l[j]? = some x) : psV (l.take j) ++ x.cells = psV (l.take (j + 1)) := by
  rw [List.take_add_one, h, psV_append]
  simp [psV, rowsV]
theorem preads_len {w : World} {B : Nat} {A : Option Addr} {n : Nat} {l : List Par} (h : Reads w B 2 A n (psV l)) : l.length = n := by have := h.1; rw [psV_length] at this; omega
theorem infoP : (Tryd.prog.info? 39).map (fun i => (i.zero, i.size, i.bytes)) = some (some (.agg #[.string ⟨#[]⟩, .string ⟨#[]⟩]), 2, 32) := by kernel_rfl
theorem infoQ : (Tryd.prog.info? 53).map (fun i => (i.zero, i.size, i.bytes)) = some (some (.agg #[.string ⟨#[]⟩, .string ⟨#[]⟩]), 2, 32) := by kernel_rfl
/-- A slice that reads as a list of labels. -/
def Pz (w : World) (v : Value) (L : List Par) : Prop :=
  ∃ A c, v = .slice A L.length c ∧ L.length ≤ c ∧ c ≤ maxLen ∧ (A = none → c = 0) ∧ Reads w w.heap.size 2 A L.length (psV L)
theorem Pz.nil (w : World) : Pz w (.slice none 0 0) [] := ⟨none, 0, rfl, Nat.le_refl _, Nat.zero_le _, fun _ => rfl, Reads.none_⟩
theorem Pz.below {w w' : World} {v : Value} {L : List Par} (h : Pz w v L) (hb : Below w.heap.size w w') : Pz w' v L := by
  obtain ⟨A, c, e, h1, h2, h4, h3⟩ := h
  exact ⟨A, c, e, h1, h2, h4, (h3.below hb).more hb.size⟩
theorem Pz.ext {w : World} {v : Value} {L : List Par} (h : Pz w v L) (X : Ext) : Pz (w.ext X) v L := h.below (World.below_ext _ _)
theorem Pz.alloc {w : World} {v : Value} {L : List Par} (h : Pz w v L) (o : Obj) : Pz (w.alloc o) v L := h.below (Below.alloc (Below.refl _ _) (Nat.le_refl _) o)
theorem Pz.own {w : World} {base n : Nat} {t : TypeId} {v : Value} {L : List Par} (h : w.ownsRow base t 2 v n (psV L)) : Pz w v L := by
  have hl : L.length = n := by have := h.1; rw [psV_length] at this; omega
  subst hl
  rcases h.2 with ⟨rfl, h0⟩ | ⟨g, cap, cur, rfl, _, hg, hnc, hm, _⟩
  · rw [h0] at h
    exact ⟨none, 0, by rw [h0], by omega, Nat.zero_le _, fun _ => rfl, by rw [h0]; exact Reads.of_own h⟩
  · exact ⟨_, cap, rfl, hnc, hm, (fun e => by cases e), Reads.of_own h⟩
theorem Pz.len {w : World} {v : Value} {L : List Par} (h : Pz w v L) : L.length ≤ 9223372036854775807 := by
  obtain ⟨A, c, e, h1, h2, _⟩ := h
  unfold maxLen at h2
  omega
theorem Pz.shape {w : World} {v : Value} {L : List Par} (h : Pz w v L) : ∃ A c, v = .slice A L.length c := by
  obtain ⟨A, c, e, _⟩ := h
  exact ⟨A, c, e⟩
theorem Pz.at_ {w : World} {A : Option Addr} {n c : Nat} {L : List Par} (h : Pz w (.slice A n c) L) {i : Nat} {x : Par} (hx : L[i]? = some x) :
    ∃ b o, A = some ⟨b, o, none⟩ ∧ b < w.heap.size ∧ w.cell? ⟨b, o + i * 2, none⟩ = some (.string x.a) ∧ w.cell? ⟨b, o + i * 2 + 1, none⟩ = some (.string x.b) := by
  obtain ⟨A', c', e, _, _, _, hr⟩ := h
  cases e
  have hi := (List.getElem?_eq_some_iff.1 hx).1
  obtain ⟨b, o, rfl, hb, hc⟩ := hr.plain (by omega) (by omega)
  exact ⟨b, o, rfl, hb, hc _ _ (psV_get hx 0 _ rfl), hc _ _ (psV_get hx 1 _ rfl)⟩
theorem Pz.get {w : World} {b o n c : Nat} {L : List Par} (h : Pz w (.slice (some ⟨b, o, none⟩) n c) L) {i : Nat} {x : Par} (hx : L[i]? = some x) :
    b < w.heap.size ∧ w.cell? ⟨b, o + i * 2, none⟩ = some (.string x.a) ∧ w.cell? ⟨b, o + i * 2 + 1, none⟩ = some (.string x.b) := by
  obtain ⟨b', o', e, h1, h2, h3⟩ := h.at_ hx
  cases e
  exact ⟨h1, h2, h3⟩
theorem Pz.n {w : World} {A : Option Addr} {n c : Nat} {L : List Par} (h : Pz w (.slice A n c) L) : L.length = n ∧ n ≤ 9223372036854775807 := by
  obtain ⟨A', c', e, h1, h2, _⟩ := h
  cases e
  unfold maxLen at h2
  exact ⟨rfl, by omega⟩
/-- How two texts stand. -/
def cmpB (a b : ByteArray) : Int := Lib.compareBytes a.data.toList b.data.toList
def cmpP (x y : Par) : Int := if cmpB x.a y.a = 0 then cmpB x.b y.b else cmpB x.a y.a
def cmpL : List Par → List Par → Int
  | [], [] => 0
  | [], _ :: _ => -1
  | _ :: _, [] => 1
  | x :: l, y :: m => if cmpP x y = 0 then cmpL l m else cmpP x y
end Go.Proofs.YtmfbidhnafpkdaaDoor
