import Derived.Test.YtamnononemallaaDoorGB
import Derived.Test.YtamnononemallaaDoorGA
import Derived.Laws.NewBlocks
import Derived.WalkSpells
import Derived.WalkLawsBesides
import Derived.WalkMore
import Derived.Sort.Walk0
import Derived.Test.YtamnononemallaaDoorShelf
/-! Several texts in one. -/
set_option linter.unusedVariables false
set_option linter.unusedSimpArgs false
/-! Labels: their cells, lists of them, how two stand. -/
namespace Go.Proofs.YtamnononemallaaDoor
open Go.RowKit
structure Par where
  a : ByteArray
  b : ByteArray
  deriving Inhabited, DecidableEq
def Par.cells (x : Par) : List Value := [.string x.a, .string x.b]
theorem Par.len (x : Par) : x.cells.length = 2 := rfl
def Par.ok (x : Par) : Prop := x.a.size ≤ maxLen ∧ x.b.size ≤ maxLen
def psV (l : List Par) : List Value := rowsV Par.cells l
theorem psV_get {l : List Par} {i : Nat} {x : Par} (h : l[i]? = some x) (j : Nat) (v : Value) (hv : x.cells[j]? = some v) : (psV l)[i * 2 + j]? = some v := rowsV_get Par.len l i x h j v hv
theorem psV_length (l : List Par) : (psV l).length = l.length * 2 := rowsV_length Par.len l
theorem psV_append (l m : List Par) : psV (l ++ m) = psV l ++ psV m := by simp [psV, rowsV]
theorem psV_cons (x : Par) (l : List Par) : psV (x :: l) = x.cells ++ psV l := by simp [psV, rowsV]
theorem psV_one {l : List Par} {u : Value} (hu : u ∈ psV l) : u.oneCell' = true := by
  simp only [psV, rowsV, List.mem_flatMap] at hu
  obtain ⟨x, _, hx⟩ := hu
  simp only [Par.cells, List.mem_cons, List.not_mem_nil, or_false] at hx
  rcases hx with rfl | rfl <;> rfl
theorem psV_take1 {l : List Par} {j : Nat} {x : Par} (h : l[j]? = some x) : psV (l.take j) ++ x.cells = psV (l.take (j + 1)) := by
  rw [List.take_add_one, h, psV_append]
  simp [psV, rowsV]
theorem preads_len {w : World} {B : Nat} {A : Option Addr} {n : Nat} {l : List Par} (h : Reads w B 2 A n (psV l)) : l.length = n := by have := h.1; rw [psV_length] at this; omega
/-- A slice that reads as a list of labels. -/
def Pz (w : World) (v : Value) (L : List Par) : Prop :=
  ∃ A c, v = .slice A L.length c ∧ L.length ≤ c ∧ c ≤ maxLen ∧ (A = none → c = 0) ∧ Reads w w.heap.size 2 A L.length (psV L)
theorem Pz.nil (w : World) : Pz w (.slice none 0 0) [] := ⟨none, 0, rfl, Nat.le_refl _, Nat.zero_le _, fun _ => rfl, Reads.none_⟩
theorem Pz.below {w w' : World} {v : Value} {L : List Par} (h : Pz w v L) (hb : Below w.heap.size w w') : Pz w' v L := by
  obtain ⟨A, c, e, h1, h2, h4, h3⟩ := h
  exact ⟨A, c, e, h1, h2, h4, (h3.below hb).more hb.size⟩
theorem Pz.ext {w : World} {v : Value} {L : List Par} (h : Pz w v L) (X : Ext) : Pz (w.ext X) v L := h.below (World.below_ext _ _)
theorem Pz.alloc {w : World} {v : Value} {L : List Par} (h : Pz w v L) (o : Obj) : Pz (w.alloc o) v L := h.below (Below.alloc (Below.refl _ _) (Nat.le_refl _) o)
theorem Pz.own {w : World} {base n : Nat} {t : TypeId} {v : Value} {L : List Par} (h : w.ownsRow base t 2 v n (psV L)) : Pz w v L := by
  have hl : L.length = n := by have := h.1; rw [psV_length] at this; omega
  subst hl
  rcases h.2 with ⟨rfl, h0⟩ | ⟨g, cap, cur, rfl, _, hg, hnc, hm, _⟩
  · rw [h0] at h
    exact ⟨none, 0, by rw [h0], by omega, Nat.zero_le _, fun _ => rfl, by rw [h0]; exact Reads.of_own h⟩
  · exact ⟨_, cap, rfl, hnc, hm, (fun e => by cases e), Reads.of_own h⟩
theorem Pz.len {w : World} {v : Value} {L : List Par} (h : Pz w v L) : L.length ≤ 9223372036854775807 := by
  obtain ⟨A, c, e, h1, h2, _⟩ := h
  unfold maxLen at h2
  omega
theorem Pz.shape {w : World} {v : Value} {L : List Par} (h : Pz w v L) : ∃ A c, v = .slice A L.length c := by
  obtain ⟨A, c, e, _⟩ := h
  exact ⟨A, c, e⟩
theorem Pz.at_ {w : World} {A : Option Addr} {n c : Nat} {L : List Par} (h : Pz w (.slice A n c) L) {i : Nat} {x : Par} (hx : L[i]? = some x) :
    ∃ b o, A = some ⟨b, o, none⟩ ∧ b < w.heap.size ∧ w.cell? ⟨b, o + i * 2, none⟩ = some (.string x.a) ∧ w.cell? ⟨b, o + i * 2 + 1, none⟩ = some (.string x.b) := by
  obtain ⟨A', c', e, _, _, _, hr⟩ := h
  cases e
  have hi := (List.getElem?_eq_some_iff.1 hx).1
  obtain ⟨b, o, rfl, hb, hc⟩ := hr.plain (by omega) (by omega)
  exact ⟨b, o, rfl, hb, hc _ _ (psV_get hx 0 _ rfl), hc _ _ (psV_get hx 1 _ rfl)⟩
theorem Pz.get {w : World} {b o n c : Nat} {L : List Par} (h : Pz w (.slice (some ⟨b, o, none⟩) n c) L) {i : Nat} {x : Par} (hx : L[i]? = some x) :
    b < w.heap.size ∧ w.cell? ⟨b, o + i * 2, none⟩ = some (.string x.a) ∧ w.cell? ⟨b, o + i * 2 + 1, none⟩ = some (.string x.b) := by
  obtain ⟨b', o', e, h1, h2, h3⟩ := h.at_ hx
  cases e
  exact ⟨h1, h2, h3⟩
theorem Pz.n {w : World} {A : Option Addr} {n c : Nat} {L : List Par} (h : Pz w (.slice A n c) L) : L.length = n ∧ n ≤ 9223372036854775807 := by
  obtain ⟨A', c', e, h1, h2, _⟩ := h
  cases e
  unfold maxLen at h2
  exact ⟨rfl, by omega⟩
/-- How two texts stand. -/
def cmpB (a b : ByteArray) : Int := Lib.compareBytes a.data.toList b.data.toList
def cmpP (x y : Par) : Int := if cmpB x.a y.a = 0 then cmpB x.b y.b else cmpB x.a y.a
def cmpL : List Par → List Par → Int
  | [], [] => 0
  | [], _ :: _ => -1
  | _ :: _, [] => 1
  | x :: l, y :: m => if cmpP x y = 0 then cmpL l m else cmpP x y
end Go.Proofs.YtamnononemallaaDoor

/-! Labels as the program's, and as the document's. -/
namespace Go.Proofs.YtamnononemallaaDoor
open Go.RowKit
end Go.Proofs.YtamnononemallaaDoor

/-! The order of texts, of labels, of lists of labels. -/
namespace Go.Proofs.YtamnononemallaaDoor
open Go.RowKit
structure Cmp {α : Type} (c : α → α → Int) : Prop where
  zero : ∀ x y, c x y = 0 ↔ x = y
  swap : ∀ x y, c y x = - c x y
  trans : ∀ x y z, c x y ≤ 0 → c y z ≤ 0 → c x z ≤ 0
section
variable {α : Type} {c : α → α → Int}
theorem Cmp.refl (h : Cmp c) (x : α) : c x x = 0 := (h.zero x x).2 rfl
theorem Cmp.lt_le (h : Cmp c) {x y z : α} (h1 : c x y < 0) (h2 : c y z ≤ 0) : c x z < 0 := by
  have h3 := h.trans x y z (by omega) h2
  rcases Int.lt_or_eq_of_le h3 with h4 | h4
  · exact h4
  · have e := (h.zero x z).1 h4
    subst e
    have := h.swap x y
    omega
theorem Cmp.le_lt (h : Cmp c) {x y z : α} (h1 : c x y ≤ 0) (h2 : c y z < 0) : c x z < 0 := by
  have h3 := h.trans x y z h1 (by omega)
  rcases Int.lt_or_eq_of_le h3 with h4 | h4
  · exact h4
  · have e := (h.zero x z).1 h4
    subst e
    have := h.swap x y
    omega
end
theorem cb_zero : ∀ a b : List UInt8, Lib.compareBytes a b = 0 ↔ a = b
  | [], [] => by simp [Lib.compareBytes]
  | [], _ :: _ => by simp [Lib.compareBytes]
  | _ :: _, [] => by simp [Lib.compareBytes]
  | x :: a, y :: b => by
    have ih := cb_zero a b
    unfold Lib.compareBytes
    simp only [UInt8.lt_iff_toNat_lt]
    split
    · rename_i h
      constructor
      · intro h'; omega
      · intro e; cases e; omega
    · split
      · rename_i h
        constructor
        · intro h'; omega
        · intro e; cases e; omega
      · rename_i h1 h2
        have e : x = y := UInt8.toNat_inj.1 (by omega)
        subst e
        rw [ih]
        simp
theorem cb_swap : ∀ a b : List UInt8, Lib.compareBytes b a = - Lib.compareBytes a b
  | [], [] => by simp [Lib.compareBytes]
  | [], _ :: _ => by simp [Lib.compareBytes]
  | _ :: _, [] => by simp [Lib.compareBytes]
  | x :: a, y :: b => by
    have ih := cb_swap a b
    unfold Lib.compareBytes
    simp only [UInt8.lt_iff_toNat_lt]
    (repeat' split) <;> omega
theorem cb_trans : ∀ a b d : List UInt8, Lib.compareBytes a b ≤ 0 → Lib.compareBytes b d ≤ 0 → Lib.compareBytes a d ≤ 0
  | [], _, [] => by simp [Lib.compareBytes]
  | [], _, _ :: _ => by simp [Lib.compareBytes]
  | _ :: _, [], _ => by simp [Lib.compareBytes]
  | _ :: _, _ :: _, [] => by simp [Lib.compareBytes]
  | x :: a, y :: b, z :: d => by
    have ih := cb_trans a b d
    unfold Lib.compareBytes
    simp only [UInt8.lt_iff_toNat_lt]
    (repeat' split) <;> intros <;> first | omega | (exact ih (by assumption) (by assumption))
theorem cb_vals : ∀ a b : List UInt8, Lib.compareBytes a b = -1 ∨ Lib.compareBytes a b = 0 ∨ Lib.compareBytes a b = 1
  | [], [] => by simp [Lib.compareBytes]
  | [], _ :: _ => by simp [Lib.compareBytes]
  | _ :: _, [] => by simp [Lib.compareBytes]
  | x :: a, y :: b => by
    have ih := cb_vals a b
    unfold Lib.compareBytes
    (repeat' split) <;> simp [*]
theorem cb_less : ∀ a b : List UInt8, Op.bytesLess a b = decide (Lib.compareBytes a b = -1)
  | [], [] => by simp [Lib.compareBytes, Op.bytesLess]
  | [], _ :: _ => by simp [Lib.compareBytes, Op.bytesLess]
  | _ :: _, [] => by simp [Lib.compareBytes, Op.bytesLess]
  | x :: a, y :: b => by
    have ih := cb_less a b
    unfold Lib.compareBytes Op.bytesLess
    rw [ih]
    rw [Bool.eq_iff_iff]
    simp only [UInt8.lt_iff_toNat_lt, Bool.or_eq_true, Bool.and_eq_true, decide_eq_true_eq, beq_iff_eq]
    have e : x = y ↔ x.toNat = y.toNat := UInt8.toNat_inj.symm
    (repeat' split) <;> simp [e] <;> omega
theorem cmpB_cmp : Cmp cmpB where
  zero x y := by
    unfold cmpB
    rw [cb_zero]
    exact ⟨fun h => ByteArray.ext (Array.toList_inj.1 h), fun h => by rw [h]⟩
  swap x y := cb_swap _ _
  trans x y z := cb_trans _ _ _
theorem cmpB_vals (a b : ByteArray) : cmpB a b = -1 ∨ cmpB a b = 0 ∨ cmpB a b = 1 := cb_vals _ _
theorem cmpB_less (a b : ByteArray) : Op.bytesLess a.toList b.toList = decide (cmpB a b = -1) := by
  rw [ByteArray.toList_eq, ByteArray.toList_eq]
  exact cb_less _ _
theorem cmpB_eq (a b : ByteArray) : (a.toList == b.toList) = decide (cmpB a b = 0) := by
  rw [ByteArray.toList_eq, ByteArray.toList_eq, Bool.eq_iff_iff]
  unfold cmpB
  simp [cb_zero]
theorem cmpP_cmp : Cmp cmpP where
  zero x y := by
    obtain ⟨a, b⟩ := x
    obtain ⟨c, d⟩ := y
    unfold cmpP
    split
    · rename_i h
      rw [cmpB_cmp.zero] at h ⊢
      simp at h ⊢
      simp [h]
    · rename_i h
      have h' := h
      rw [cmpB_cmp.zero] at h
      simp at h ⊢
      simp [h, h']
  swap x y := by
    unfold cmpP
    have h1 := cmpB_cmp.swap x.a y.a
    have h2 := cmpB_cmp.swap x.b y.b
    (repeat' split) <;> omega
  trans x y z := by
    unfold cmpP
    intro h1 h2
    by_cases e1 : cmpB x.a y.a = 0
    · rw [if_pos e1] at h1
      rw [(cmpB_cmp.zero _ _).1 e1]
      split at h2
      · rename_i e2
        rw [if_pos e2]
        exact cmpB_cmp.trans _ _ _ h1 h2
      · rename_i e2
        rw [if_neg e2]
        exact h2
    · rw [if_neg e1] at h1
      have h1' : cmpB x.a y.a < 0 := by omega
      have h2' : cmpB y.a z.a ≤ 0 := by
        split at h2
        · omega
        · exact h2
      have := cmpB_cmp.lt_le h1' h2'
      rw [if_neg (by omega)]
      omega
theorem cmpL_zero : ∀ l m : List Par, cmpL l m = 0 ↔ l = m
  | [], [] => by simp [cmpL]
  | [], _ :: _ => by simp [cmpL]
  | _ :: _, [] => by simp [cmpL]
  | x :: l, y :: m => by
    have ih := cmpL_zero l m
    have h := cmpP_cmp.zero x y
    unfold cmpL
    split
    · rename_i e
      rw [ih, h.1 e]
      simp
    · rename_i e
      rw [h] at e ⊢
      simp [e]
theorem cmpL_swap : ∀ l m : List Par, cmpL m l = - cmpL l m
  | [], [] => by simp [cmpL]
  | [], _ :: _ => by simp [cmpL]
  | _ :: _, [] => by simp [cmpL]
  | x :: l, y :: m => by
    have ih := cmpL_swap l m
    have h := cmpP_cmp.swap x y
    unfold cmpL
    (repeat' split) <;> omega
theorem cmpL_trans : ∀ l m k : List Par, cmpL l m ≤ 0 → cmpL m k ≤ 0 → cmpL l k ≤ 0
  | [], _, [] => by simp [cmpL]
  | [], _, _ :: _ => by simp [cmpL]
  | _ :: _, [], _ => by simp [cmpL]
  | _ :: _, _ :: _, [] => by simp [cmpL]
  | x :: l, y :: m, z :: k => by
    have ih := cmpL_trans l m k
    unfold cmpL
    intro h1 h2
    by_cases e1 : cmpP x y = 0
    · rw [if_pos e1] at h1
      rw [(cmpP_cmp.zero _ _).1 e1]
      split at h2
      · rename_i e2
        rw [if_pos e2]
        exact ih h1 h2
      · rename_i e2
        rw [if_neg e2]
        exact h2
    · rw [if_neg e1] at h1
      have h1' : cmpP x y < 0 := by omega
      have h2' : cmpP y z ≤ 0 := by
        split at h2
        · omega
        · exact h2
      have := cmpP_cmp.lt_le h1' h2'
      rw [if_neg (by omega)]
      omega
theorem cmpL_cmp : Cmp cmpL := ⟨cmpL_zero, cmpL_swap, cmpL_trans⟩
theorem cmpP_vals (x y : Par) : cmpP x y = -1 ∨ cmpP x y = 0 ∨ cmpP x y = 1 := by
  unfold cmpP
  have h1 := cmpB_vals x.a y.a
  have h2 := cmpB_vals x.b y.b
  split <;> omega
theorem cmpL_vals : ∀ l m : List Par, cmpL l m = -1 ∨ cmpL l m = 0 ∨ cmpL l m = 1
  | [], [] => by simp [cmpL]
  | [], _ :: _ => by simp [cmpL]
  | _ :: _, [] => by simp [cmpL]
  | x :: l, y :: m => by
    have ih := cmpL_vals l m
    have h := cmpP_vals x y
    unfold cmpL
    split <;> omega
end Go.Proofs.YtamnononemallaaDoor

/-! A label's value: the program's, and the document's. -/
namespace Go.Proofs.YtamnononemallaaDoor
open Go.RowKit
theorem dropP {L : List Par} {i : Nat} {x : Par} (h : L[i]? = some x) : L.drop i = x :: L.drop (i + 1) := by
  obtain ⟨h1, rfl⟩ := List.getElem?_eq_some_iff.1 h
  exact List.drop_eq_getElem_cons h1
def getL : List Par → ByteArray → ByteArray
  | [], _ => ⟨#[]⟩
  | x :: l, nm => if cmpB x.a nm = 0 then x.b else getL l nm
theorem getL_drop {L : List Par} {i : Nat} {x : Par} (h : L[i]? = some x) (nm : ByteArray) : getL (L.drop i) nm = if cmpB x.a nm = 0 then x.b else getL (L.drop (i + 1)) nm := by
  rw [dropP h, getL]
end Go.Proofs.YtamnononemallaaDoor

/-! Rules: their cells, lists of them; rules as the program's, and as the document's. -/
namespace Go.Proofs.YtamnononemallaaDoor
open Go.RowKit
structure Rul where
  a : ByteArray
  op : Int
  b : ByteArray
  deriving Inhabited, DecidableEq
def Rul.cells (x : Rul) : List Value := [.string x.a, .int .i64 x.op, .string x.b]
theorem Rul.len (x : Rul) : x.cells.length = 3 := rfl
def Rul.ok (x : Rul) : Prop := x.a.size ≤ maxLen ∧ x.b.size ≤ maxLen ∧ -9223372036854775808 ≤ x.op ∧ x.op ≤ 9223372036854775807
def rsV (l : List Rul) : List Value := rowsV Rul.cells l
theorem rsV_get {l : List Rul} {i : Nat} {x : Rul} (h : l[i]? = some x) (j : Nat) (v : Value) (hv : x.cells[j]? = some v) : (rsV l)[i * 3 + j]? = some v := rowsV_get Rul.len l i x h j v hv
theorem rsV_length (l : List Rul) : (rsV l).length = l.length * 3 := rowsV_length Rul.len l
theorem rsV_append (l m : List Rul) : rsV (l ++ m) = rsV l ++ rsV m := by simp [rsV, rowsV]
theorem rsV_cons (x : Rul) (l : List Rul) : rsV (x :: l) = x.cells ++ rsV l := by simp [rsV, rowsV]
theorem rsV_one {l : List Rul} {u : Value} (hu : u ∈ rsV l) : u.oneCell' = true := by
  simp only [rsV, rowsV, List.mem_flatMap] at hu
  obtain ⟨x, _, hx⟩ := hu
  simp only [Rul.cells, List.mem_cons, List.not_mem_nil, or_false] at hx
  rcases hx with rfl | rfl | rfl <;> rfl
theorem rsV_take1 {l : List Rul} {j : Nat} {x : Rul} (h : l[j]? = some x) : rsV (l.take j) ++ x.cells = rsV (l.take (j + 1)) := by
  rw [List.take_add_one, h, rsV_append]
  simp [rsV, rowsV]
theorem infoR : (Tryd.prog.info? 60).map (fun i => (i.zero, i.size, i.bytes)) = some (some (.agg #[.string ⟨#[]⟩, .int .i64 0, .string ⟨#[]⟩]), 3, 40) := by kernel_rfl
theorem infoR6 : (Tryd.prog.info? 59).map (fun i => (i.zero, i.size, i.bytes)) = some (some (.agg #[.string ⟨#[]⟩, .int .i64 0, .string ⟨#[]⟩]), 3, 40) := by kernel_rfl
/-- A slice that reads as a list of rules. -/
def Rz (w : World) (v : Value) (L : List Rul) : Prop :=
  ∃ A c, v = .slice A L.length c ∧ L.length ≤ c ∧ c ≤ maxLen ∧ (A = none → c = 0) ∧ Reads w w.heap.size 3 A L.length (rsV L)
theorem Rz.nil (w : World) : Rz w (.slice none 0 0) [] := ⟨none, 0, rfl, Nat.le_refl _, Nat.zero_le _, fun _ => rfl, Reads.none_⟩
theorem Rz.below {w w' : World} {v : Value} {L : List Rul} (h : Rz w v L) (hb : Below w.heap.size w w') : Rz w' v L := by
  obtain ⟨A, c, e, h1, h2, h4, h3⟩ := h
  exact ⟨A, c, e, h1, h2, h4, (h3.below hb).more hb.size⟩
theorem Rz.ext {w : World} {v : Value} {L : List Rul} (h : Rz w v L) (X : Ext) : Rz (w.ext X) v L := h.below (World.below_ext _ _)
theorem Rz.alloc {w : World} {v : Value} {L : List Rul} (h : Rz w v L) (o : Obj) : Rz (w.alloc o) v L := h.below (Below.alloc (Below.refl _ _) (Nat.le_refl _) o)
theorem Rz.own {w : World} {base n : Nat} {t : TypeId} {v : Value} {L : List Rul} (h : w.ownsRow base t 3 v n (rsV L)) : Rz w v L := by
  have hl : L.length = n := by have := h.1; rw [rsV_length] at this; omega
  subst hl
  rcases h.2 with ⟨rfl, h0⟩ | ⟨g, cap, cur, rfl, _, hg, hnc, hm, _⟩
  · rw [h0] at h
    exact ⟨none, 0, by rw [h0], by omega, Nat.zero_le _, fun _ => rfl, by rw [h0]; exact Reads.of_own h⟩
  · exact ⟨_, cap, rfl, hnc, hm, (fun e => by cases e), Reads.of_own h⟩
theorem Rz.shape {w : World} {v : Value} {L : List Rul} (h : Rz w v L) : ∃ A c, v = .slice A L.length c := by
  obtain ⟨A, c, e, _⟩ := h
  exact ⟨A, c, e⟩
theorem Rz.at_ {w : World} {A : Option Addr} {n c : Nat} {L : List Rul} (h : Rz w (.slice A n c) L) {i : Nat} {x : Rul} (hx : L[i]? = some x) :
    ∃ b o, A = some ⟨b, o, none⟩ ∧ b < w.heap.size ∧ w.cell? ⟨b, o + i * 3, none⟩ = some (.string x.a) ∧ w.cell? ⟨b, o + i * 3 + 1, none⟩ = some (.int .i64 x.op) ∧ w.cell? ⟨b, o + i * 3 + 2, none⟩ = some (.string x.b) := by
  obtain ⟨A', c', e, _, _, _, hr⟩ := h
  cases e
  have hi := (List.getElem?_eq_some_iff.1 hx).1
  obtain ⟨b, o, rfl, hb, hc⟩ := hr.plain (by omega) (by omega)
  exact ⟨b, o, rfl, hb, hc _ _ (rsV_get hx 0 _ rfl), hc _ _ (rsV_get hx 1 _ rfl), hc _ _ (rsV_get hx 2 _ rfl)⟩
theorem Rz.n {w : World} {A : Option Addr} {n c : Nat} {L : List Rul} (h : Rz w (.slice A n c) L) : L.length = n ∧ n ≤ 9223372036854775807 := by
  obtain ⟨A', c', e, h1, h2, _⟩ := h
  cases e
  unfold maxLen at h2
  exact ⟨rfl, by omega⟩
set_option maxRecDepth 100000 in
set_option maxHeartbeats 4000000 in
theorem rto_any (v : Value) (l : List Rul) (w : World) (h : Rz w v l) (hn : l.length * 40 ≤ 140737488355328) :
    Calls Tryd.prog 11 #[v] w fun e w' => (∃ u, e = .returned u ∧ w'.ownsRow w.heap.size 60 3 u l.length (rsV l)) ∧ Below w.heap.size w w' := by
  obtain ⟨i0, hi, hz0, hz1, hz2⟩ := info_parts infoR
  obtain ⟨A, c, rfl⟩ := h.shape
  obtain ⟨q, hq⟩ : ∃ q, w.heap.size = q := ⟨_, rfl⟩
  have hB : Below q w w := by rw [← hq]; exact Below.refl _ _
  rw [hq]
  go_enter Tryd.func11, Tryd.ntmps11
  go_wp2
  go_loopw [3, 8] (fun s3 s8 wr => ∃ j : Nat, j ≤ l.length ∧ s8 = .int .i64 (j : Int) ∧ wr.ownsRow q 60 3 s3 j (rsV (l.take j)) ∧ Below q w wr) (fun _ s8 _ => ((l.length : Int) - intOf s8).toNat)
  case atStart => exact ⟨0, by omega, rfl, World.ownsRow_nil _ _ _ _, hB⟩
  case round =>
    clear hB
    obtain ⟨j, hj, rfl, hown, hbel⟩ := hrel
    have hszw : q ≤ wr.heap.size := by rw [← hq]; exact hbel.size
    by_cases hlt : j < l.length
    · obtain ⟨x, hx⟩ : ∃ x, l[j]? = some x := ⟨_, List.getElem?_eq_getElem hlt⟩
      obtain ⟨b, o, rfl, hbb, m0, m1, m2⟩ := (h.below (by rw [hq]; exact hbel)).at_ hx
      have H := hide (rsV_take1 hx)
      have hjj : (j : Int) < l.length := by omega
      clear h hx
      go_wp2_with (at_builtin; go_must (refine wpList_append_own _ rfl (.tmp 12) (.tmp 20) 25 rfl (q) 60 i0 (.agg #[.string ⟨#[]⟩, .int .i64 0, .string ⟨#[]⟩]) 3 40 Tryd.underlying25 hi hz0 hz1 hz2 rfl (by decide) _ (j) _ rfl (((hown.alloc _).alloc _)) ⟨wr.heap.size + 1, 0, none⟩ 1 1 (x.cells) rfl rfl ?c1 ?c2 ?c3 ?c4 ?c5 ?_))
      case c1 => first | exact fun j u hu => hu | exact cells_new_at _ #[.string x.a, .int .i64 x.op, .string x.b] _ rfl | exact cells_new_at _ #[.string x.a, .int .i64 x.op, .string x.b] _ (by simp)
      case c2 => exact fun u hu => rsV_one (l := [x]) (by rw [rsV_cons]; exact List.mem_append_left _ hu)
      case c3 => unfold maxLen; omega
      case c4 => omega
      case c5 => first | omega | (simp; omega)
      intro v' w1 hown1 hg1 _
      have hbel1 := own_below ((hbel.alloc hszw _).alloc (by simp; omega) _) ((hown.alloc _).alloc _) hg1 (Nat.le_refl _) (by simp; omega)
      rw [H.out] at hown1
      clear hg1 hbel hown
      go_wp2
      go_roundw
      case rel => exact ⟨j + 1, by omega, by go_num, hown1, hbel1⟩
      case measure => simp [intOf]; omega
    · obtain rfl : j = l.length := by omega
      rw [List.take_length] at hown
      go_wp2
      go_ret
      exact ⟨⟨_, rfl, hown⟩, hbel⟩
set_option maxRecDepth 100000 in
set_option maxHeartbeats 4000000 in
theorem rfrom_any (v : Value) (l : List Rul) (w : World) (h : Rz w v l) (hn : l.length * 40 ≤ 140737488355328) :
    Calls Tryd.prog 23 #[v] w fun e w' => (∃ u, e = .returned u ∧ w'.ownsRow w.heap.size 59 3 u l.length (rsV l)) ∧ Below w.heap.size w w' := by
  obtain ⟨i0, hi, hz0, hz1, hz2⟩ := info_parts infoR6
  obtain ⟨A, c, rfl⟩ := h.shape
  obtain ⟨q, hq⟩ : ∃ q, w.heap.size = q := ⟨_, rfl⟩
  have hB : Below q w w := by rw [← hq]; exact Below.refl _ _
  rw [hq]
  go_enter Tryd.func23, Tryd.ntmps23
  go_wp2
  go_loopw [3, 8] (fun s3 s8 wr => ∃ j : Nat, j ≤ l.length ∧ s8 = .int .i64 (j : Int) ∧ wr.ownsRow q 59 3 s3 j (rsV (l.take j)) ∧ Below q w wr) (fun _ s8 _ => ((l.length : Int) - intOf s8).toNat)
  case atStart => exact ⟨0, by omega, rfl, World.ownsRow_nil _ _ _ _, hB⟩
  case round =>
    clear hB
    obtain ⟨j, hj, rfl, hown, hbel⟩ := hrel
    have hszw : q ≤ wr.heap.size := by rw [← hq]; exact hbel.size
    by_cases hlt : j < l.length
    · obtain ⟨x, hx⟩ : ∃ x, l[j]? = some x := ⟨_, List.getElem?_eq_getElem hlt⟩
      obtain ⟨b, o, rfl, hbb, m0, m1, m2⟩ := (h.below (by rw [hq]; exact hbel)).at_ hx
      have H := hide (rsV_take1 hx)
      have hjj : (j : Int) < l.length := by omega
      clear h hx
      go_wp2_with (at_builtin; go_must (refine wpList_append_own _ rfl (.tmp 12) (.tmp 20) 22 rfl (q) 59 i0 (.agg #[.string ⟨#[]⟩, .int .i64 0, .string ⟨#[]⟩]) 3 40 Tryd.underlying22 hi hz0 hz1 hz2 rfl (by decide) _ (j) _ rfl (((hown.alloc _).alloc _)) ⟨wr.heap.size + 1, 0, none⟩ 1 1 (x.cells) rfl rfl ?c1 ?c2 ?c3 ?c4 ?c5 ?_))
      case c1 => first | exact fun j u hu => hu | exact cells_new_at _ #[.string x.a, .int .i64 x.op, .string x.b] _ rfl | exact cells_new_at _ #[.string x.a, .int .i64 x.op, .string x.b] _ (by simp)
      case c2 => exact fun u hu => rsV_one (l := [x]) (by rw [rsV_cons]; exact List.mem_append_left _ hu)
      case c3 => unfold maxLen; omega
      case c4 => omega
      case c5 => first | omega | (simp; omega)
      intro v' w1 hown1 hg1 _
      have hbel1 := own_below ((hbel.alloc hszw _).alloc (by simp; omega) _) ((hown.alloc _).alloc _) hg1 (Nat.le_refl _) (by simp; omega)
      rw [H.out] at hown1
      clear hg1 hbel hown
      go_wp2
      go_roundw
      case rel => exact ⟨j + 1, by omega, by go_num, hown1, hbel1⟩
      case measure => simp [intOf]; omega
    · obtain rfl : j = l.length := by omega
      rw [List.take_length] at hown
      go_wp2
      go_ret
      exact ⟨⟨_, rfl, hown⟩, hbel⟩
end Go.Proofs.YtamnononemallaaDoor

/-! The signs of rules: the variable that holds them, the sign that a text begins with. -/
namespace Go.Proofs.YtamnononemallaaDoor
open Go.RowKit
def sgB : Nat → List UInt8
  | 1 => [61]
  | 2 => [33, 61]
  | 3 => [94, 61]
  | 4 => [42, 61]
  | _ => []
def sgT (k : Nat) : ByteArray := ⟨(sgB k).toArray⟩
theorem sgT_list (k : Nat) : (sgT k).data.toList = sgB k := by simp [sgT]
/-- The signs lie where they were laid; and the search's own variable is there. -/
structure Sg (w : World) : Prop where
  big : 8 < w.heap.size
  at_ : ∀ k, k ≤ 4 → w.cell? ⟨1, k, none⟩ = some (.string (sgT k))
  mx : ∃ m, w.cell? ⟨3, 0, none⟩ = some (.int .i64 m)
theorem Sg.below {w w' : World} (h : Sg w) (hb : Below w.heap.size w w') : Sg w' :=
  ⟨Nat.lt_of_lt_of_le h.big hb.size, fun k hk => (hb.cell (by have := h.big; show 1 < _; omega)).trans (h.at_ k hk), by
    obtain ⟨m, hm⟩ := h.mx
    exact ⟨m, (hb.cell (show 3 < _ by have := h.big; omega)).trans hm⟩⟩
def sgnD : Nat → List UInt8 → Nat
  | 0, _ => 0
  | k + 1, l => if (sgB (k + 1)).isPrefixOf l = true then k + 1 else sgnD k l
/-- The Op whose sign a text begins with. -/
def sgn (l : List UInt8) : Nat := sgnD 4 l
theorem sgnD_le (l : List UInt8) : ∀ k, sgnD k l ≤ k
  | 0 => Nat.le_refl _
  | k + 1 => by
    unfold sgnD
    split
    · exact Nat.le_refl _
    · exact Nat.le_succ_of_le (sgnD_le l k)
theorem sgn_le (l : List UInt8) : sgn l ≤ 4 := sgnD_le l 4
set_option maxRecDepth 100000 in
set_option maxHeartbeats 4000000 in
theorem psign_any (t : ByteArray) (w : World) (hg : Sg w) :
    Calls Tryd.prog 33 #[.string t] w fun e w' => e = .returned (.int .i64 (sgn t.data.toList)) ∧ w' = w := by
  unfold sgn
  generalize hR : sgnD 4 t.data.toList = R
  have hP := fun k w => Tryd.strings_HasPrefix t (sgT k) w
  simp only [sgT_list, Lib.hasPrefix] at hP
  obtain ⟨_, hat, _⟩ := hg
  go_enter Tryd.func33, Tryd.ntmps33
  go_wp2
  go_loopw [3] (fun s3 wr => ∃ k : Nat, k ≤ 4 ∧ s3 = .int .i64 (k : Int) ∧ sgnD k t.data.toList = R ∧ wr = w) (fun s3 _ => (intOf s3).toNat)
  case atStart => exact ⟨4, by omega, rfl, hR, rfl⟩
  case round =>
    clear hR
    obtain ⟨k, hk, rfl, hR, rfl⟩ := hrel
    cases k with
    | zero =>
      obtain rfl : 0 = R := hR
      go_wp2
      go_ret
      exact ⟨rfl, rfl⟩
    | succ k =>
      have hc := hat (k + 1) hk
      have i1 : (1 : Int) ≤ ((k + 1 : Nat) : Int) := by omega
      have i2 : (k : Int) + 1 < 5 := by omega
      have i3 : (1 : Int) ≤ (k : Int) + 1 := by omega
      have i4 : (0 : Int) ≤ (k : Int) + 1 := by omega
      have hQ := fun w => hP (k + 1) w
      unfold sgnD at hR
      cases hp : (sgB (k + 1)).isPrefixOf t.data.toList with
      | true =>
        rw [if_pos hp] at hR
        subst hR
        simp only [hp] at hQ
        clear hat hP
        go_wp2_with (first | (go_at_call 35; (with_reducible refine (hQ _).mono ?_); rintro e w1 ⟨rfl, rfl⟩))
        go_ret
        exact ⟨rfl, rfl⟩
      | false =>
        rw [if_neg (by rw [hp]; simp)] at hR
        simp only [hp] at hQ
        have H := hide hR
        clear hat hP hR
        go_wp2_with (first | (go_at_call 35; (with_reducible refine (hQ _).mono ?_); rintro e w1 ⟨rfl, rfl⟩))
        go_roundw
        case rel => exact ⟨k, by omega, by go_num, H.out, by trivial⟩
        case measure => first | (simp [intOf]; done) | (simp [intOf]; omega)
end Go.Proofs.YtamnononemallaaDoor

/-! Whether labels are a set. -/
namespace Go.Proofs.YtamnononemallaaDoor
open Go.RowKit
def okAt (l : List Par) (i : Nat) : Bool := match l[i]? with
  | some x => nmB x.a && vlB x.b && (match i with
    | 0 => true
    | k + 1 => match l[k]? with
      | some y => decide (cmpB y.a x.a = -1)
      | none => true)
  | none => true
def okT (l : List Par) (n : Nat) : Bool := (List.range n).all (okAt l)
def rightL (l : List Par) : Bool := decide (l.length ≤ 16) && (List.range l.length).all (okAt l)
theorem okT_up {l : List Par} {i : Nat} (h : okT l i = true) (h1 : okAt l i = true) : okT l (i + 1) = true := by
  unfold okT at *
  rw [List.range_succ, List.all_append, h]
  simp [h1]
theorem okAt_0 {l : List Par} {x : Par} (hx : l[0]? = some x) : okAt l 0 = (nmB x.a && vlB x.b) := by
  unfold okAt
  rw [hx]
  simp
theorem okAt_s {l : List Par} {k : Nat} {x y : Par} (hx : l[k + 1]? = some x) (hy : l[k]? = some y) : okAt l (k + 1) = (nmB x.a && vlB x.b && decide (cmpB y.a x.a = -1)) := by
  unfold okAt
  rw [hx]
  simp only [hy]
theorem pname_b (s : ByteArray) (hs : s.size ≤ maxLen) (w : World) : Calls Tryd.prog 30 #[.string s] w fun e w' => e = .returned (.bool (nmB s)) ∧ Below w.heap.size w w' :=
  (pname_any s hs w).mono fun e w' h => ⟨h.1, by rw [h.2]; exact Below.refl _ _⟩
theorem pvalue_b (s : ByteArray) (hs : s.size ≤ maxLen) (w : World) : Calls Tryd.prog 31 #[.string s] w fun e w' => e = .returned (.bool (vlB s)) ∧ Below w.heap.size w w' :=
  (pvalue_any s hs w).mono fun e w' h => ⟨h.1, by rw [h.2]; exact Below.refl _ _⟩
end Go.Proofs.YtamnononemallaaDoor

/-! Whether rules may be. -/
namespace Go.Proofs.YtamnononemallaaDoor
open Go.RowKit
def okR (x : Rul) : Bool := nmB x.a && (decide (1 ≤ x.op) && (decide (x.op ≤ 4) && (decide (x.b.size = 0) || vlB x.b)))
/-- Whether rules may be. -/
def rightR (L : List Rul) : Bool := decide (L.length ≤ 16) && L.all okR
theorem all_up {α : Type} {p : α → Bool} {L : List α} {i : Nat} {x : α} (h : (L.take i).all p = true) (hx : L[i]? = some x) (h1 : p x = true) : (L.take (i + 1)).all p = true := by
  rw [List.take_add_one, hx, List.all_append, h]
  simp [h1]
set_option maxRecDepth 100000 in
set_option maxHeartbeats 16000000 in
theorem mright_any (v : Value) (L : List Rul) (w : World) (h1 : Rz w v L) (hok : ∀ x ∈ L, x.ok) :
    Calls Tryd.prog 15 #[v] w fun e w' => e = .returned (.bool (rightR L)) ∧ Below w.heap.size w w' := by
  obtain ⟨A1, c1, rfl⟩ := h1.shape
  have hn1 := h1.n.2
  obtain ⟨q, hq⟩ : ∃ q, w.heap.size = q := ⟨_, rfl⟩
  have hB : Below q w w := by rw [← hq]; exact Below.refl _ _
  by_cases h16 : L.length ≤ 16
  · have h16i : (L.length : Int) ≤ 16 := by omega
    rw [hq]
    go_enter Tryd.func15, Tryd.ntmps15
    go_wp2
    go_loopw [10] (fun s10 wr => ∃ i : Nat, i ≤ L.length ∧ s10 = .int .i64 (i : Int) ∧ (L.take i).all okR = true ∧ Rz wr (.slice A1 L.length c1) L ∧ Below q w wr) (fun s10 _ => ((L.length : Int) - intOf s10).toNat)
    case atStart => exact ⟨0, by omega, rfl, rfl, h1, hB⟩
    case round =>
      clear h1 hB
      obtain ⟨i, hi, rfl, hno, h1, hb⟩ := hrel
      have hqw : q ≤ wr.heap.size := by rw [← hq]; exact hb.size
      by_cases hlt : i < L.length
      · obtain ⟨x, hx⟩ : ∃ x, L[i]? = some x := ⟨_, List.getElem?_eq_getElem hlt⟩
        obtain ⟨b, o, rfl, hbb, m0, m1, m2⟩ := h1.at_ hx
        have hii : (i : Int) < L.length := by omega
        have hxo := hok x (List.mem_of_getElem? hx)
        have hN := fun w => pname_any x.a hxo.1 w
        have hV := fun w => pvalue_any x.b hxo.2.1 w
        clear hxo
        have hO : okR x = (nmB x.a && (decide (1 ≤ x.op) && (decide (x.op ≤ 4) && (decide (x.b.size = 0) || vlB x.b)))) := rfl
        cases hn : nmB x.a with
        | false =>
          have hok1 : okR x = false := by rw [hO, hn]; rfl
          rw [hn] at hN
          clear hO
          have hF := hide (show rightR L = false from by
            unfold rightR
            rw [show L.all okR = false from by
              rw [List.all_eq_false]
              exact ⟨x, List.mem_of_getElem? hx, by rw [hok1]; simp⟩]
            simp)
          clear h1 hx hno hok1
          go_wp2_with (first | (go_at_call 30; (with_reducible refine (hN _).mono ?_); rintro e w1 ⟨rfl, rfl⟩) | (go_at_call 31; (with_reducible refine (hV _).mono ?_); rintro e w2 ⟨rfl, rfl⟩))
          go_ret
          exact ⟨by rw [hF.out]; rfl, hb.trans ((by (repeat' (first | with_reducible (first | exact Below.refl _ _ | refine Below.ext ?_ ?_ _ | refine Below.alloc ?_ ?_ _ | refine Below.setCell ?_ ?_ _ | refine Below.drew ?_ | assumption) | (simp [World.size_ext]; done) | (simp [World.size_ext]; omega))) : Below wr.heap.size wr _).mono hqw)⟩
        | true =>
          rw [hn] at hN
          by_cases o1 : 1 ≤ x.op
          case neg =>
            have hok1 : okR x = false := by rw [hO, hn, decide_eq_false o1]; rfl
            have o1' : x.op < 1 := by omega
            clear hO o1
            have hF := hide (show rightR L = false from by
              unfold rightR
              rw [show L.all okR = false from by
                rw [List.all_eq_false]
                exact ⟨x, List.mem_of_getElem? hx, by rw [hok1]; simp⟩]
              simp)
            clear h1 hx hno hok1
            go_wp2_with (first | (go_at_call 30; (with_reducible refine (hN _).mono ?_); rintro e w1 ⟨rfl, rfl⟩) | (go_at_call 31; (with_reducible refine (hV _).mono ?_); rintro e w2 ⟨rfl, rfl⟩))
            go_ret
            exact ⟨by rw [hF.out]; rfl, hb.trans ((by (repeat' (first | with_reducible (first | exact Below.refl _ _ | refine Below.ext ?_ ?_ _ | refine Below.alloc ?_ ?_ _ | refine Below.setCell ?_ ?_ _ | refine Below.drew ?_ | assumption) | (simp [World.size_ext]; done) | (simp [World.size_ext]; omega))) : Below wr.heap.size wr _).mono hqw)⟩
          by_cases o4 : x.op ≤ 4
          case neg =>
            have hok1 : okR x = false := by rw [hO, hn, decide_eq_true o1, decide_eq_false o4]; rfl
            have o1' : ¬ x.op < 1 := by omega
            have o4' : 4 < x.op := by omega
            clear hO o1 o4
            have hF := hide (show rightR L = false from by
              unfold rightR
              rw [show L.all okR = false from by
                rw [List.all_eq_false]
                exact ⟨x, List.mem_of_getElem? hx, by rw [hok1]; simp⟩]
              simp)
            clear h1 hx hno hok1
            go_wp2_with (first | (go_at_call 30; (with_reducible refine (hN _).mono ?_); rintro e w1 ⟨rfl, rfl⟩) | (go_at_call 31; (with_reducible refine (hV _).mono ?_); rintro e w2 ⟨rfl, rfl⟩))
            go_ret
            exact ⟨by rw [hF.out]; rfl, hb.trans ((by (repeat' (first | with_reducible (first | exact Below.refl _ _ | refine Below.ext ?_ ?_ _ | refine Below.alloc ?_ ?_ _ | refine Below.setCell ?_ ?_ _ | refine Below.drew ?_ | assumption) | (simp [World.size_ext]; done) | (simp [World.size_ext]; omega))) : Below wr.heap.size wr _).mono hqw)⟩
          have o1' : ¬ x.op < 1 := by omega
          have o4' : ¬ 4 < x.op := by omega
          rcases Nat.eq_zero_or_pos x.b.size with h0 | h0
          · have hok1 : okR x = true := by rw [hO, hn, decide_eq_true o1, decide_eq_true o4, decide_eq_true h0]; rfl
            have he := str_empty h0
            have he' : x.b.toList.isEmpty = true := by rw [he]; rfl
            clear hO o1 o4 h0
            have HN := hide (all_up hno hx hok1)
            have H := hide (⟨h1, hx⟩ : _ ∧ _)
            clear h1 hx hno hok1
            go_wp2_with (first | (go_at_call 30; (with_reducible refine (hN _).mono ?_); rintro e w1 ⟨rfl, rfl⟩) | (go_at_call 31; (with_reducible refine (hV _).mono ?_); rintro e w2 ⟨rfl, rfl⟩))
            go_roundw
            case rel => exact ⟨i + 1, Nat.succ_le_of_lt hlt, by go_num, HN.out, H.out.1.below (by (repeat' (first | with_reducible (first | exact Below.refl _ _ | refine Below.ext ?_ ?_ _ | refine Below.alloc ?_ ?_ _ | refine Below.setCell ?_ ?_ _ | refine Below.drew ?_ | assumption) | (simp [World.size_ext]; done) | (simp [World.size_ext]; omega)))), hb.trans ((by (repeat' (first | with_reducible (first | exact Below.refl _ _ | refine Below.ext ?_ ?_ _ | refine Below.alloc ?_ ?_ _ | refine Below.setCell ?_ ?_ _ | refine Below.drew ?_ | assumption) | (simp [World.size_ext]; done) | (simp [World.size_ext]; omega))) : Below wr.heap.size wr _).mono hqw)⟩
            case measure => first | (simp [intOf]; done) | (simp [intOf]; omega)
          · obtain ⟨he, he'⟩ := str_some h0
            cases hv : vlB x.b with
            | false =>
              have hok1 : okR x = false := by rw [hO, hn, hv, decide_eq_true o1, decide_eq_true o4, decide_eq_false (by omega)]; rfl
              rw [hv] at hV
              clear hO o1 o4 h0
              have hF := hide (show rightR L = false from by
                unfold rightR
                rw [show L.all okR = false from by
                  rw [List.all_eq_false]
                  exact ⟨x, List.mem_of_getElem? hx, by rw [hok1]; simp⟩]
                simp)
              clear h1 hx hno hok1
              go_wp2_with (first | (go_at_call 30; (with_reducible refine (hN _).mono ?_); rintro e w1 ⟨rfl, rfl⟩) | (go_at_call 31; (with_reducible refine (hV _).mono ?_); rintro e w2 ⟨rfl, rfl⟩))
              go_ret
              exact ⟨by rw [hF.out]; rfl, hb.trans ((by (repeat' (first | with_reducible (first | exact Below.refl _ _ | refine Below.ext ?_ ?_ _ | refine Below.alloc ?_ ?_ _ | refine Below.setCell ?_ ?_ _ | refine Below.drew ?_ | assumption) | (simp [World.size_ext]; done) | (simp [World.size_ext]; omega))) : Below wr.heap.size wr _).mono hqw)⟩
            | true =>
              have hok1 : okR x = true := by rw [hO, hn, hv, decide_eq_true o1, decide_eq_true o4]; simp
              rw [hv] at hV
              clear hO o1 o4 h0
              have HN := hide (all_up hno hx hok1)
              have H := hide (⟨h1, hx⟩ : _ ∧ _)
              clear h1 hx hno hok1
              go_wp2_with (first | (go_at_call 30; (with_reducible refine (hN _).mono ?_); rintro e w1 ⟨rfl, rfl⟩) | (go_at_call 31; (with_reducible refine (hV _).mono ?_); rintro e w2 ⟨rfl, rfl⟩))
              go_roundw
              case rel => exact ⟨i + 1, Nat.succ_le_of_lt hlt, by go_num, HN.out, H.out.1.below (by (repeat' (first | with_reducible (first | exact Below.refl _ _ | refine Below.ext ?_ ?_ _ | refine Below.alloc ?_ ?_ _ | refine Below.setCell ?_ ?_ _ | refine Below.drew ?_ | assumption) | (simp [World.size_ext]; done) | (simp [World.size_ext]; omega)))), hb.trans ((by (repeat' (first | with_reducible (first | exact Below.refl _ _ | refine Below.ext ?_ ?_ _ | refine Below.alloc ?_ ?_ _ | refine Below.setCell ?_ ?_ _ | refine Below.drew ?_ | assumption) | (simp [World.size_ext]; done) | (simp [World.size_ext]; omega))) : Below wr.heap.size wr _).mono hqw)⟩
              case measure => first | (simp [intOf]; done) | (simp [intOf]; omega)
      · obtain rfl : i = L.length := by omega
        have hF := hide (show rightR L = true from by unfold rightR; rw [decide_eq_true h16]; rw [List.take_length] at hno; exact hno)
        clear h1 hno
        go_wp2
        go_ret
        exact ⟨by rw [hF.out]; rfl, hb⟩
  · have h16i : (16 : Int) < L.length := by omega
    have hF := hide (show rightR L = false from by simp [rightR, h16])
    rw [hq]
    clear h1
    go_enter Tryd.func15, Tryd.ntmps15
    go_wp2
    go_ret
    exact ⟨by rw [hF.out]; rfl, hB⟩
end Go.Proofs.YtamnononemallaaDoor

/-! Whether rules hold of labels. -/
namespace Go.Proofs.YtamnononemallaaDoor
open Go.RowKit
theorem eqB (a b : ByteArray) : (a.toList == b.toList) = decide (a = b) := by
  rw [ByteArray.toList_eq, ByteArray.toList_eq, Bool.eq_iff_iff]
  simp only [beq_iff_eq, decide_eq_true_eq]
  constructor
  · intro h
    cases a; cases b
    simp only at h
    congr 1
    exact Array.toList_inj.1 h
  · rintro rfl; rfl
theorem neB (a b : ByteArray) : (a.toList != b.toList) = !decide (a = b) := by
  rw [bne, eqB]
/-- Whether a text stands at a place. -/
def stB (l : List UInt8) (n : Nat) (p : List UInt8) : Bool := decide (n + p.length ≤ l.length) && p.isPrefixOf (l.drop n)
theorem stB_take {l p : List UInt8} {n : Nat} (h : n + p.length ≤ l.length) : ((l.drop n).take p.length == p) = p.isPrefixOf (l.drop n) := (Lib.occAt_iff_take l p n h).symm
theorem stB_occ (l p : List UInt8) (n : Nat) (hn : n ≤ l.length) : stB l n p = Lib.occAt l p n := by
  unfold stB
  cases ho : Lib.occAt l p n with
  | false =>
    have : p.isPrefixOf (l.drop n) = false := ho
    rw [this, Bool.and_false]
  | true =>
    have : p.isPrefixOf (l.drop n) = true := ho
    rw [this, Bool.and_true, decide_eq_true_eq]
    rcases Lib.occAt_room ho with h | h
    · exact h
    · subst h; simpa using hn
/-- Whether one rule holds. -/
def oneL (S : List Par) (x : Rul) : Bool :=
  if x.op = 1 then decide (getL S x.a = x.b)
  else if x.op = 2 then !decide (getL S x.a = x.b)
  else if x.op = 3 then x.b.data.toList.isPrefixOf (getL S x.a).data.toList
  else if x.op = 4 then Lib.contains (getL S x.a).data.toList x.b.data.toList
  else false
def allL (L : List Rul) (S : List Par) : Bool := L.all (oneL S)
theorem getL_mem : ∀ (S : List Par) (nm : ByteArray), getL S nm = ⟨#[]⟩ ∨ ∃ x ∈ S, getL S nm = x.b
  | [], _ => .inl rfl
  | x :: S, nm => by
    unfold getL
    split
    · exact .inr ⟨x, by simp, rfl⟩
    · rcases getL_mem S nm with h | ⟨y, hy, h⟩
      · exact .inl h
      · exact .inr ⟨y, by simp [hy], h⟩
theorem getL_size {S : List Par} {n : Nat} (h : ∀ x ∈ S, x.b.size < n + 1) (nm : ByteArray) : (getL S nm).size < n + 1 := by
  rcases getL_mem S nm with e | ⟨x, hx, e⟩
  · rw [e]; exact Nat.succ_pos _
  · rw [e]; exact h x hx
theorem contains_at {s p : List UInt8} {i : Nat} (hi : i ≤ s.length) (h : Lib.occAt s p i = true) : Lib.contains s p = true := by
  unfold Lib.contains
  rw [decide_eq_true_eq]
  rcases Lib.index_spec s p with ⟨_, h2⟩ | ⟨j, h1, _⟩
  · rw [h2 i hi] at h; cases h
  · rw [h1]; omega
theorem contains_none {s p : List UInt8} (h : ∀ j, j ≤ s.length → Lib.occAt s p j = false) : Lib.contains s p = false := by
  unfold Lib.contains
  rw [Lib.index_none h]
  rfl
end Go.Proofs.YtamnononemallaaDoor

/-! Whether all rules hold. -/
namespace Go.Proofs.YtamnononemallaaDoor
open Go.RowKit
theorem allL_false {L : List Rul} {S : List Par} {x : Rul} (hx : x ∈ L) (h : oneL S x = false) : allL L S = false := by
  unfold allL
  rw [List.all_eq_false]
  exact ⟨x, hx, by rw [h]; simp⟩
end Go.Proofs.YtamnononemallaaDoor
