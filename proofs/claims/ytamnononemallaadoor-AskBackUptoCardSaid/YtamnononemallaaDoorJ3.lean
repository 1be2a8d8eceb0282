import Derived.Test.YtamnononemallaaDoorGS
import Derived.Test.YtamnononemallaaDoorPq1
import Derived.Test.YtamnononemallaaDoorGA
/-! The query that a text is: the program's Parse. -/
namespace Go.Proofs.YtamnononemallaaDoor
open Go.RowKit
set_option linter.unusedVariables false
set_option linter.unusedSimpArgs false
theorem Blk.six {w : World} {g : Nat} {t : TypeId} {a b c d e f u0 u1 u2 u3 u4 u5 : Value} (h : Blk w g t #[a, b, c, d, e, f]) :
    Blk ((((((w.setCell ⟨g, 0, none⟩ u0).setCell ⟨g, 1, none⟩ u1).setCell ⟨g, 2, none⟩ u2).setCell ⟨g, 3, none⟩ u3).setCell ⟨g, 4, none⟩ u4).setCell ⟨g, 5, none⟩ u5) g t #[u0, u1, u2, u3, u4, u5] :=
  (((((h.set_ 0 u0).set_ 1 u1).set_ 2 u2).set_ 3 u3).set_ 4 u4).set_ 5 u5
theorem below_six {B g : Nat} {w W : World} (h : Below B w W) (hB : B ≤ g) (u0 u1 u2 u3 u4 u5 : Value) :
    Below B w ((((((W.setCell ⟨g, 0, none⟩ u0).setCell ⟨g, 1, none⟩ u1).setCell ⟨g, 2, none⟩ u2).setCell ⟨g, 3, none⟩ u3).setCell ⟨g, 4, none⟩ u4).setCell ⟨g, 5, none⟩ u5) :=
  (((((h.setCell hB _).setCell hB _).setCell hB _).setCell hB _).setCell hB _).setCell hB _
/-- The parts between blanks, as they lie in memory. -/
theorem splitq_any (s : ByteArray) (hs : s.size < 4294967281) : ∃ L : List ByteArray, L.map (·.data.toList) = blkL s.data.toList ∧ (∀ x ∈ L, x.size ≤ s.size) ∧
    ∀ w, Sx w → Calls Tryd.prog 20 #[.string s, .string ⟨#[32]⟩] w fun e w' => e = .returned (.slice (some ⟨w.heap.size, 0, none⟩) L.length L.length) ∧ w' = w.alloc (.cells (L.map Value.string).toArray 9) := by
  have hl : (Lib.splitB ⟨#[32]⟩ 0 (Lib.countB s ⟨#[32]⟩) s).length = Lib.countB s ⟨#[32]⟩ + 1 := Lib.splitB_all ⟨#[32]⟩ (by decide) 0 _ s rfl
  refine ⟨Lib.splitB ⟨#[32]⟩ 0 (Lib.countB s ⟨#[32]⟩) s, ?_, ?_, fun w hx => ?_⟩
  · rw [Lib.splitB_data]
    exact splitK_blk _
  · have key : ∀ (k : Nat) (s : ByteArray), ∀ x ∈ Lib.splitB ⟨#[32]⟩ 0 k s, x.size ≤ s.size := by
      intro k
      induction k with
      | zero => intro s x hx; simp [Lib.splitB] at hx; subst hx; exact Nat.le_refl _
      | succ k ih =>
        intro s x hx
        unfold Lib.splitB at hx
        split at hx
        · simp only [List.mem_singleton] at hx; subst hx; exact Nat.le_refl _
        · rcases List.mem_cons.1 hx with rfl | hx
          · rw [ByteArray.size_extract]; omega
          · have := ih _ x hx
            rw [ByteArray.size_extract] at this
            omega
    exact key _ s
  · obtain ⟨m, hm⟩ := hx.sg.mx
    have h := Tryd.strings_Split s ⟨#[32]⟩ m w hs hm (by decide)
    rw [hl]
    exact h
theorem parQ_at {T : List UInt8} (h1 : T.length ≤ 4096) (h2 : (headT T).length ≠ T.length) {op : Nat} (h3 : opW (headT T) = some op) {rs : List Rul} {n : Nat} (h4 : psq (T.drop (headT T).length) = (rs, n)) (h5 : n ≠ 0) :
    parQ T = match askP (if op = 0 then 2 else 3) (T.drop ((headT T).length + n)) with | none => ⟨90, zeroQ⟩ | some p => if rightQ (mkQ op rs p.1 p.2) = true then ⟨0, mkQ op rs p.1 p.2⟩ else ⟨90, zeroQ⟩ := by
  unfold parQ
  rw [if_neg (by omega), if_neg h2, h3]
  dsimp only
  rw [h4]
  dsimp only
  rw [if_neg h5, askP_eq _ (by split <;> omega)]
  rfl
theorem parQ_long {T : List UInt8} (h : 4096 < T.length) : parQ T = ⟨8, zeroQ⟩ := by unfold parQ; rw [if_pos h]
theorem parQ_nohead {T : List UInt8} (h1 : T.length ≤ 4096) (h2 : (headT T).length = T.length) : parQ T = ⟨90, zeroQ⟩ := by unfold parQ; rw [if_neg (by omega), if_pos h2]
theorem parQ_noop {T : List UInt8} (h1 : T.length ≤ 4096) (h3 : opW (headT T) = none) : parQ T = ⟨90, zeroQ⟩ := by
  unfold parQ
  rw [if_neg (by omega)]
  split
  · rfl
  · rw [h3]
theorem parQ_norule {T : List UInt8} (h1 : T.length ≤ 4096) (h2 : (headT T).length ≠ T.length) {op : Nat} (h3 : opW (headT T) = some op) (h4 : (psq (T.drop (headT T).length)).2 = 0) : parQ T = ⟨50, zeroQ⟩ := by
  unfold parQ
  rw [if_neg (by omega), if_neg h2, h3]
  dsimp only
  rw [if_pos h4]
/-- The number that the j-th word is. -/
def nB (L : List ByteArray) (j : Nat) : Int × Bool := intP (L.getD j ⟨#[]⟩).data.toList
theorem ints_none {l : List (List UInt8)} {w : List UInt8} (hw : w ∈ l) (h : (intP w).2 = false) : intsP l = none := by
  induction l with
  | nil => cases hw
  | cons x l ih =>
    rw [intsP, intP_eq]
    rcases List.mem_cons.1 hw with rfl | hw
    · rw [if_neg (by rw [h]; simp)]
    · by_cases hx : (intP x).2 = true
      · rw [if_pos hx, ih hw]
      · rw [if_neg hx]
theorem ints_some : ∀ {l : List (List UInt8)}, (∀ w ∈ l, (intP w).2 = true) → intsP l = some (l.map fun w => (intP w).1.toNat)
  | [], _ => rfl
  | x :: l, h => by
    rw [intsP, intP_eq, if_pos (h x (List.mem_cons_self ..)), ints_some (fun w hw => h w (List.mem_cons_of_mem _ hw))]
    rfl
theorem intP_nn {w : List UInt8} (h : (intP w).2 = true) : 0 ≤ (intP w).1 := by
  unfold intP at h ⊢
  cases hp : Lib.parseIntB 64 w with
  | ok v =>
    rw [hp] at h
    simp only [Bool.and_eq_true, decide_eq_true_eq] at h
    exact h.2
  | range => rw [hp] at h; cases h
  | _ => rw [hp] at h; cases h
/-- The words between blanks, with or without the last. -/
structure Wds (R : List UInt8) (L : List ByteArray) (m : Nat) (nb : Bool) : Prop where
  ask : ∀ K, askP K R = if m = K then (intsP ((L.take m).map (·.data.toList))).map (fun ns => (ns, nb)) else none
  le : m ≤ L.length
theorem wds_some {r : List UInt8} {L : List ByteArray} (hL : L.map (·.data.toList) = blkL r) {m : Nat} (hm : L.length = m + 1) {x : ByteArray} (hx : L[m]? = some x) :
    (x.data.toList = notesB → Wds (32 :: r) L m true) ∧ (x.data.toList ≠ notesB → Wds (32 :: r) L (m + 1) false) := by
  have hl : (blkL r).getLast? = some x.data.toList := by
    rw [← hL, List.getLast?_map, List.getLast?_eq_getElem?, hm, Nat.add_sub_cancel, hx]; rfl
  refine ⟨fun e => ⟨fun K => ?_, by omega⟩, fun e => ⟨fun K => ?_, by omega⟩⟩
  · rw [askP, if_pos rfl]
    have hc : cutN (blkL r) = ((L.take m).map (·.data.toList), true) := by
      unfold cutN
      rw [hl, e, if_pos rfl, ← hL, List.dropLast_eq_take, List.length_map, hm, Nat.add_sub_cancel, List.map_take]
    rw [hc]
    have : ((L.take m).map (·.data.toList)).length = m := by rw [List.length_map, List.length_take]; omega
    simp only [this]
  · rw [askP, if_pos rfl]
    have hc : cutN (blkL r) = ((L.take (m + 1)).map (·.data.toList), false) := by
      unfold cutN
      rw [hl, if_neg (fun h => e (Option.some.inj h)), List.take_of_length_le (by omega), hL]
    rw [hc]
    have : ((L.take (m + 1)).map (·.data.toList)).length = m + 1 := by rw [List.length_map, List.length_take]; omega
    simp only [this]
theorem askP_nopre {K : Nat} {R : List UInt8} (h : R.head? ≠ some 32) : askP K R = none := by
  cases R with
  | nil => rfl
  | cons x r => rw [askP, if_neg (fun e => h (by rw [e]; rfl))]
theorem Wds.bad {R : List UInt8} {L : List ByteArray} {m : Nat} {nb : Bool} (h : Wds R L m nb) {K : Nat} (hK : m ≠ K) : askP K R = none := by rw [h.ask, if_neg hK]
theorem Wds.fail {R : List UInt8} {L : List ByteArray} {m : Nat} {nb : Bool} (h : Wds R L m nb) {j : Nat} (hj : j < m) (hb : (nB L j).2 = false) : askP m R = none := by
  rw [h.ask, if_pos rfl, ints_none (w := (L.getD j ⟨#[]⟩).data.toList) ?_ hb]
  · rfl
  · have hl : j < L.length := by have := h.le; omega
    rw [List.mem_map]
    refine ⟨L.getD j ⟨#[]⟩, ?_, rfl⟩
    rw [List.getD_eq_getElem?_getD, List.getElem?_eq_getElem hl, Option.getD_some]
    exact List.mem_of_getElem? (i := j) (by rw [List.getElem?_take, if_pos hj, List.getElem?_eq_getElem hl])
theorem Wds.good {R : List UInt8} {L : List ByteArray} {m : Nat} {nb : Bool} (h : Wds R L m nb) (hb : ∀ j, j < m → (nB L j).2 = true) : ∃ ns : List Nat, askP m R = some (ns, nb) ∧ ∀ j, j < m → ((ns.getD j 0 : Nat) : Int) = (nB L j).1 ∧ ns.length = m := by
  have hg : ∀ j, j < m → (L.take m)[j]? = some (L.getD j ⟨#[]⟩) := fun j hj => by
    have hl : j < L.length := by have := h.le; omega
    rw [List.getElem?_take, if_pos hj, List.getD_eq_getElem?_getD, List.getElem?_eq_getElem hl]; rfl
  have hlen : (L.take m).length = m := by rw [List.length_take]; have := h.le; omega
  refine ⟨((L.take m).map (·.data.toList)).map fun w => (intP w).1.toNat, ?_, fun j hj => ⟨?_, by simp only [List.length_map]; exact hlen⟩⟩
  · rw [h.ask, if_pos rfl, ints_some]
    · rfl
    · intro w hw
      obtain ⟨y, hy, rfl⟩ := List.mem_map.1 hw
      obtain ⟨j, hj, e⟩ := List.mem_iff_getElem.1 hy
      have hj' : j < m := by omega
      have := hg j hj'
      rw [List.getElem?_eq_getElem hj, e] at this
      have := hb j hj'
      rename_i e2
      unfold nB at this
      rw [← Option.some.inj e2] at this
      exact this
  · rw [List.getD_eq_getElem?_getD, List.getElem?_map, List.getElem?_map, hg j hj]
    simp only [Option.map_some, Option.getD_some]
    have := intP_nn (hb j hj)
    unfold nB
    omega
theorem cutp_any (s : ByteArray) : ∃ (rr : ByteArray) (ok : Bool), (∀ W : World, Calls Tryd.prog 19 #[.string s, .string ⟨#[32]⟩] W fun e w' => e = .returned (.tuple #[.string rr, .bool ok]) ∧ w' = W) ∧ rr.size ≤ s.size ∧
    ((ok = true ∧ s.data.toList = 32 :: rr.data.toList) ∨ (ok = false ∧ s.data.toList.head? ≠ some 32)) := by
  have h := fun W : World => Tryd.strings_CutPrefix s ⟨#[32]⟩ W
  have hz := Lib.size_eq s
  cases hs : s.data.toList with
  | nil =>
    have e1 : Lib.hasPrefix s.data.toList (⟨#[32]⟩ : ByteArray).data.toList = false := by rw [hs]; rfl
    have e2 : Lib.trimPrefix s.data.toList (⟨#[32]⟩ : ByteArray).data.toList = s.data.toList := by unfold Lib.trimPrefix; rw [e1]; rfl
    rw [e1, e2, Lib.mk_data] at h
    exact ⟨s, false, h, Nat.le_refl _, .inr ⟨rfl, by simp⟩⟩
  | cons x r =>
    by_cases hx : x = 32
    · subst hx
      have e1 : Lib.hasPrefix s.data.toList (⟨#[32]⟩ : ByteArray).data.toList = true := by rw [hs]; rfl
      have e2 : Lib.trimPrefix s.data.toList (⟨#[32]⟩ : ByteArray).data.toList = r := by unfold Lib.trimPrefix; rw [e1, hs]; rfl
      rw [e1, e2] at h
      refine ⟨⟨r.toArray⟩, true, h, ?_, .inl ⟨rfl, by simp⟩⟩
      rw [Lib.size_eq, hz, hs]; simp
    · have e1 : Lib.hasPrefix s.data.toList (⟨#[32]⟩ : ByteArray).data.toList = false := by
        rw [hs]
        have : (32 == x) = false := by simpa using fun e => hx e.symm
        simp [Lib.hasPrefix, List.isPrefixOf, this]
      have e2 : Lib.trimPrefix s.data.toList (⟨#[32]⟩ : ByteArray).data.toList = s.data.toList := by unfold Lib.trimPrefix; rw [e1]; rfl
      rw [e1, e2, Lib.mk_data] at h
      exact ⟨s, false, h, Nat.le_refl _, .inr ⟨rfl, by simpa using hx⟩⟩
theorem blkL_len : ∀ l : List UInt8, (blkL l).length ≤ l.length + 1
  | [] => Nat.le_refl _
  | x :: l => by
    have ih := blkL_len l
    unfold blkL
    split
    · simp only [List.length_cons]; omega
    · split
      · simp
      · rename_i h
        rw [h] at ih
        simp only [List.length_cons] at ih ⊢
        omega
/-- The first i numbers are read. -/
def Nd (L : List ByteArray) (i : Nat) (a b c : Int) : Prop := (∀ j, j < i → (nB L j).2 = true) ∧ a = (if 0 < i then (nB L 0).1 else 0) ∧ b = (if 1 < i then (nB L 1).1 else 0) ∧ c = (if 2 < i then (nB L 2).1 else 0)
theorem Nd.zero (L : List ByteArray) : Nd L 0 0 0 0 := ⟨fun j hj => absurd hj (by omega), rfl, rfl, rfl⟩
theorem Nd.one {L : List ByteArray} {v : Int} (h : nB L 0 = (v, true)) : Nd L 1 v 0 0 := ⟨fun j hj => by rw [show j = 0 by omega, h], by rw [h]; rfl, rfl, rfl⟩
theorem Nd.two {L : List ByteArray} {a b c v : Int} (hn : Nd L 1 a b c) (h : nB L 1 = (v, true)) : Nd L 2 a v c :=
  ⟨fun j hj => by
    rcases Nat.lt_or_ge j 1 with h1 | h1
    · exact hn.1 j h1
    · rw [show j = 1 by omega, h], hn.2.1, by rw [h]; rfl, hn.2.2.2⟩
theorem Nd.three {L : List ByteArray} {a b c v : Int} (hn : Nd L 2 a b c) (h : nB L 2 = (v, true)) : Nd L 3 a b v :=
  ⟨fun j hj => by
    rcases Nat.lt_or_ge j 2 with h1 | h1
    · exact hn.1 j h1
    · rw [show j = 2 by omega, h], hn.2.1, hn.2.2.1, by rw [h]; rfl⟩
theorem nB_le (L : List ByteArray) (j : Nat) : -9223372036854775808 ≤ (nB L j).1 ∧ (nB L j).1 ≤ 9223372036854775807 := intP_le _
theorem Nd.le {L : List ByteArray} {i : Nat} {a b c : Int} (h : Nd L i a b c) : (-9223372036854775808 ≤ a ∧ a ≤ 9223372036854775807) ∧ (-9223372036854775808 ≤ b ∧ b ≤ 9223372036854775807) ∧ (-9223372036854775808 ≤ c ∧ c ≤ 9223372036854775807) := by
  obtain ⟨_, rfl, rfl, rfl⟩ := h
  have h0 := nB_le L 0
  have h1 := nB_le L 1
  have h2 := nB_le L 2
  refine ⟨?_, ?_, ?_⟩ <;> split <;> omega
theorem q_end {T R : List UInt8} {k : Nat} {rs : List Rul} {L : List ByteArray} {K : Nat} {nb : Bool} {a b c : Int} (hQ : parQ T = match askP K R with | none => ⟨90, zeroQ⟩ | some p => if rightQ (mkQ k rs p.1 p.2) = true then ⟨0, mkQ k rs p.1 p.2⟩ else ⟨90, zeroQ⟩)
    (hK : K = 2 ∧ k = 0 ∨ K = 3 ∧ k ≠ 0) (hw : Wds R L K nb) (hn : Nd L K a b c) : parQ T = if rightQ ⟨k, rs, a, b, c, nb⟩ = true then ⟨0, ⟨k, rs, a, b, c, nb⟩⟩ else ⟨90, zeroQ⟩ := by
  obtain ⟨ns, h1, h2⟩ := hw.good hn.1
  rw [h1] at hQ
  have hm : mkQ k rs ns nb = ⟨k, rs, a, b, c, nb⟩ := by
    obtain ⟨_, ha, hb, hc⟩ := hn
    unfold mkQ
    have hl : ns.length = K := (h2 0 (by omega)).2
    have e0 := (h2 0 (by omega)).1
    have e1 := (h2 1 (by omega)).1
    rcases hK with ⟨hK, h0⟩ | ⟨hK, h0⟩
    · have e2 : ns.getD 2 0 = 0 := by rw [List.getD_eq_getElem?_getD, List.getElem?_eq_none (by omega)]; rfl
      subst hK
      rw [e0, e1, e2, ha, hb, hc]
      rfl
    · have e2 := (h2 2 (by omega)).1
      subst hK
      rw [e0, e1, e2, ha, hb, hc]
      rfl
  rw [hQ]
  dsimp only
  rw [hm]
theorem q_fail {T R : List UInt8} {k : Nat} {rs : List Rul} {L : List ByteArray} {K : Nat} {nb : Bool} (hQ : parQ T = match askP K R with | none => ⟨90, zeroQ⟩ | some p => if rightQ (mkQ k rs p.1 p.2) = true then ⟨0, mkQ k rs p.1 p.2⟩ else ⟨90, zeroQ⟩)
    (hK : K = 2 ∧ k = 0 ∨ K = 3 ∧ k ≠ 0) (hw : Wds R L K nb) {j : Nat} (hj : j < K) (hb : (nB L j).2 = false) : parQ T = ⟨90, zeroQ⟩ := by
  rw [hQ, hw.fail hj hb]
theorem right_oks {rs : List Rul} (h : rightR rs = true) : ∀ x ∈ rs, x.ok := fun x hx => by
  unfold rightR at h
  simp only [Bool.and_eq_true, decide_eq_true_eq, List.all_eq_true] at h
  have h1 := h.2 x hx
  unfold okR at h1
  simp only [Bool.and_eq_true, decide_eq_true_eq, Bool.or_eq_true] at h1
  obtain ⟨ha, h2, h3, hb⟩ := h1
  have h4 := (nmB_lt ha).1
  have h5 : x.b.size ≤ 100000 := by
    rcases hb with hb | hb
    · omega
    · unfold vlB at hb
      simp only [Bool.and_eq_true, decide_eq_true_eq] at hb
      omega
  refine ⟨by unfold maxLen; omega, by unfold maxLen; omega, by omega, by omega⟩
/-- Rules that are read do not lie in a query's block: so what is stored there changes nothing of them. -/
theorem rz_set {w : World} {v : Value} {L : List Rul} {g : Nat} {t : TypeId} {A : Option Addr} {n m : Nat} {k a b c : Int} {bo : Bool} (hZ : Rz w v L) (hB : Blk w g t #[.int .i64 k, .slice A n m, .int .i64 a, .int .i64 b, .int .i64 c, .bool bo]) (i : Nat) (u : Value) : Rz (w.setCell ⟨g, i, none⟩ u) v L := by
  obtain ⟨A', c', e, h1, h2, h4, hr⟩ := hZ
  refine ⟨A', c', e, h1, h2, h4, hr.1, fun hn => ?_⟩
  obtain ⟨b', o, rfl, hb, hc⟩ := hr.plain hn (by omega)
  refine ⟨_, rfl, by simpa using hb, fun j y hy => ?_⟩
  have hne : b' ≠ g := by
    intro e
    subst e
    obtain ⟨x, hx⟩ : ∃ x, L[0]? = some x := ⟨_, List.getElem?_eq_getElem hn⟩
    have h0 := hc _ _ (rsV_get hx 0 _ rfl)
    rw [hB.cell] at h0
    generalize o + (0 * 3 + 0) = j at h0
    match j, h0 with
    | 0, h0 | 1, h0 | 2, h0 | 3, h0 | 4, h0 | 5, h0 => simp at h0
    | j + 6, h0 => simp at h0
  rw [add_plain, World.cell?_setCell_other w _ _ u (fun e => hne (by rw [Addr.mk.injEq] at e; exact e.1.symm))]
  exact hc j y hy
theorem rz_six {w : World} {v : Value} {L : List Rul} {g : Nat} {t : TypeId} {A A' : Option Addr} {n m n' m' : Nat} {k a b c k' a' b' c' : Int} {bo bo' : Bool} (hZ : Rz w v L) (hB : Blk w g t #[.int .i64 k, .slice A n m, .int .i64 a, .int .i64 b, .int .i64 c, .bool bo]) :
    Rz ((((((w.setCell ⟨g, 0, none⟩ (.int .i64 k')).setCell ⟨g, 1, none⟩ (.slice A' n' m')).setCell ⟨g, 2, none⟩ (.int .i64 a')).setCell ⟨g, 3, none⟩ (.int .i64 b')).setCell ⟨g, 4, none⟩ (.int .i64 c')).setCell ⟨g, 5, none⟩ (.bool bo')) v L := by
  have b0 : Blk (w.setCell ⟨g, 0, none⟩ (.int .i64 k')) g t #[.int .i64 k', .slice A n m, .int .i64 a, .int .i64 b, .int .i64 c, .bool bo] := hB.set_ 0 _
  have b1 : Blk ((w.setCell ⟨g, 0, none⟩ (.int .i64 k')).setCell ⟨g, 1, none⟩ (.slice A' n' m')) g t #[.int .i64 k', .slice A' n' m', .int .i64 a, .int .i64 b, .int .i64 c, .bool bo] := b0.set_ 1 _
  have b2 : Blk (((w.setCell ⟨g, 0, none⟩ (.int .i64 k')).setCell ⟨g, 1, none⟩ (.slice A' n' m')).setCell ⟨g, 2, none⟩ (.int .i64 a')) g t #[.int .i64 k', .slice A' n' m', .int .i64 a', .int .i64 b, .int .i64 c, .bool bo] := b1.set_ 2 _
  have b3 : Blk ((((w.setCell ⟨g, 0, none⟩ (.int .i64 k')).setCell ⟨g, 1, none⟩ (.slice A' n' m')).setCell ⟨g, 2, none⟩ (.int .i64 a')).setCell ⟨g, 3, none⟩ (.int .i64 b')) g t #[.int .i64 k', .slice A' n' m', .int .i64 a', .int .i64 b', .int .i64 c, .bool bo] := b2.set_ 3 _
  have b4 : Blk (((((w.setCell ⟨g, 0, none⟩ (.int .i64 k')).setCell ⟨g, 1, none⟩ (.slice A' n' m')).setCell ⟨g, 2, none⟩ (.int .i64 a')).setCell ⟨g, 3, none⟩ (.int .i64 b')).setCell ⟨g, 4, none⟩ (.int .i64 c')) g t #[.int .i64 k', .slice A' n' m', .int .i64 a', .int .i64 b', .int .i64 c', .bool bo] := b3.set_ 4 _
  exact rz_set (rz_set (rz_set (rz_set (rz_set (rz_set hZ hB 0 _) b0 1 _) b1 2 _) b2 3 _) b3 4 _) b4 5 _
end Go.Proofs.YtamnononemallaaDoor
