import Derived.Test.YtamnononemallaaDoorMt
import Derived.Test.YtamnononemallaaDoorGC
import Derived.Test.YtamnononemallaaDoorGB
import Derived.WalkSpells
import Derived.WalkLawsBesides
import Derived.WalkMore
/-! Several texts in one. -/
set_option linter.unusedVariables false
set_option linter.unusedSimpArgs false
/-! The document's: rules as a text. -/
namespace Go.Proofs.YtamnononemallaaDoor
open Go.RowKit
theorem ba_app (a b : ByteArray) : a ++ b = ⟨(a.data.toList ++ b.data.toList).toArray⟩ := by
  apply ByteArray.ext
  apply Array.toList_inj.1
  simp
theorem rt_one (jb : List UInt8) (x : Rul) : (⟨(123 :: jb).toArray⟩ : ByteArray) ++ x.a ++ sgO x.op ++ ⟨(qL x.b.data.toList).toArray⟩ = ⟨(123 :: (jb ++ rulB x)).toArray⟩ := by
  rw [ba_app, ba_app, ba_app]
  simp [rulB]
theorem rt_com (jb : List UInt8) : (⟨(123 :: jb).toArray⟩ : ByteArray) ++ (⟨#[44]⟩ : ByteArray) = ⟨(123 :: (jb ++ [44])).toArray⟩ := by
  rw [ba_app]
  simp
theorem rt_end (l : List Rul) : (⟨(123 :: rj l).toArray⟩ : ByteArray) ++ (⟨#[125]⟩ : ByteArray) = rtB l := by
  rw [ba_app]
  simp [rtB]
theorem rt_size (jb : List UInt8) : (⟨(123 :: jb).toArray⟩ : ByteArray).size = jb.length + 1 := by
  rw [Lib.size_eq]; simp
end Go.Proofs.YtamnononemallaaDoor

/-! The rules with which a text begins, in plain words. -/
namespace Go.Proofs.YtamnononemallaaDoor
open Go.RowKit
/-- A byte of a name. -/
def lt (x : UInt8) : Bool := nmC 1 x
def ltN : List UInt8 → Nat
  | [] => 0
  | x :: l => if lt x = true then ltN l + 1 else 0
def scn : List UInt8 → Nat → Option Nat
  | [], _ => some 0
  | x :: l, n => if sgn (x :: l) ≠ 0 then some 0 else match n with
    | 0 => none
    | n + 1 => (scn l n).map (· + 1)
def stq (k : Nat) (rec : List UInt8 → Nat → List Rul → Option (List Rul × Nat)) (r : List UInt8) (at_ : Nat) (out : List Rul) : Option (List Rul × Nat) :=
  if sgn (r.drop k) = 0 then none else
    match uqL (r.drop (k + (sgB (sgn (r.drop k))).length)) with
    | none => none
    | some p => match r.drop (k + (sgB (sgn (r.drop k))).length + p.2) with
      | [] => none
      | x :: rest => if x = 125 then (if rightR (out ++ [⟨⟨(r.take k).toArray⟩, sgn (r.drop k), ⟨p.1.toArray⟩⟩]) = true then some (out ++ [⟨⟨(r.take k).toArray⟩, sgn (r.drop k), ⟨p.1.toArray⟩⟩], at_ + (k + (sgB (sgn (r.drop k))).length + p.2) + 1) else none)
        else if x = 44 then rec rest (at_ + (k + (sgB (sgn (r.drop k))).length + p.2) + 1) (out ++ [⟨⟨(r.take k).toArray⟩, sgn (r.drop k), ⟨p.1.toArray⟩⟩]) else none
def prq (N : List UInt8 → Option Nat) (C : List Rul → Bool) : Nat → List UInt8 → Nat → List Rul → Option (List Rul × Nat)
  | 0, _, _, _ => none
  | f + 1, r, at_, out => if C out = true then match N r with
      | none => none
      | some k => stq k (prq N C f) r at_ out
    else none
def Bad (out : List Rul) : Prop := ∀ new, rightR (out ++ new) = false
theorem Bad.long {out : List Rul} (h : 16 < out.length) : Bad out := fun new => by
  unfold rightR
  rw [decide_eq_false (by simp; omega)]
  rfl
theorem Bad.has {out : List Rul} {x : Rul} (hx : x ∈ out) (h : okR x = false) : Bad out := fun new => by
  unfold rightR
  rw [show (out ++ new).all okR = false from by
    rw [List.all_eq_false]
    exact ⟨x, List.mem_append_left _ hx, by rw [h]; simp⟩]
  simp
theorem Bad.append {out : List Rul} (h : Bad out) (m : List Rul) : Bad (out ++ m) := fun new => by rw [List.append_assoc]; exact h _
theorem Bad.right {out : List Rul} (h : Bad out) : rightR out = false := by simpa using h []
theorem stq_bad {k : Nat} {rec : List UInt8 → Nat → List Rul → Option (List Rul × Nat)} {r : List UInt8} {at_ : Nat} {out : List Rul} (hrec : ∀ r a o, Bad o → rec r a o = none)
    (h : ∀ v : ByteArray, Bad (out ++ [⟨⟨(r.take k).toArray⟩, sgn (r.drop k), v⟩])) : stq k rec r at_ out = none := by
  unfold stq
  split
  · rfl
  · split
    · rfl
    · split
      · rfl
      · rename_i p _ _ _ _ _
        split
        · rw [if_neg (by rw [(h _).right]; simp)]
        · split
          · exact hrec _ _ _ (h _)
          · rfl
theorem prq_bad {N : List UInt8 → Option Nat} {C : List Rul → Bool} : ∀ (f : Nat) (r : List UInt8) (a : Nat) (out : List Rul), Bad out → prq N C f r a out = none
  | 0, _, _, _, _ => rfl
  | f + 1, r, a, out, h => by
    unfold prq
    split
    · split
      · rfl
      · exact stq_bad (fun r a o ho => prq_bad f r a o ho) (fun v => h.append _)
    · rfl
theorem nmC_lt {i : Nat} {x : UInt8} (h : nmC i x = true) : lt x = true := by
  unfold lt
  simp only [nmC, Bool.or_eq_true, Bool.and_eq_true, decide_eq_true_eq] at h ⊢
  rcases h with (h | h) | h
  · exact .inl (.inl h)
  · exact .inl (.inr h)
  · exact .inr ⟨⟨by omega, h.1.2⟩, h.2⟩
theorem nmB_lt {s : ByteArray} (h : nmB s = true) : s.size ≤ 32 ∧ ∀ x ∈ s.data.toList, lt x = true := by
  unfold nmB at h
  simp only [Bool.and_eq_true, decide_eq_true_eq] at h
  refine ⟨h.1.2, fun x hx => ?_⟩
  obtain ⟨i, hi⟩ := List.getElem?_of_mem hx
  have h2 := h.2
  simp only [nmA, nmT, List.all_eq_true, List.mem_range] at h2
  have hl := (List.getElem?_eq_some_iff.1 hi).1
  have := h2 i (by rw [Lib.size_eq]; exact hl)
  rw [List.getD_eq_getElem?_getD, hi] at this
  exact nmC_lt this
theorem okR_no {x : Rul} (h : nmB x.a = false) : okR x = false := by unfold okR; rw [h]; rfl
theorem sgn_lt {x : UInt8} {l : List UInt8} (h : lt x = true) : sgn (x :: l) = 0 := by
  have hx : x ≠ 61 ∧ x ≠ 33 ∧ x ≠ 94 ∧ x ≠ 42 := by
    refine ⟨?_, ?_, ?_, ?_⟩ <;> (rintro rfl; revert h; decide)
  obtain ⟨h1, h2, h3, h4⟩ := hx
  simp [sgn, sgnD, sgB, List.isPrefixOf, Ne.symm h1, Ne.symm h2, Ne.symm h3, Ne.symm h4]
theorem sgn_nil : sgn [] = 0 := by decide
theorem ltN_le : ∀ l : List UInt8, ltN l ≤ l.length
  | [] => Nat.le_refl _
  | x :: l => by
    unfold ltN
    split
    · have := ltN_le l; simp; omega
    · exact Nat.zero_le _
theorem ltN_at : ∀ {l : List UInt8} {x : UInt8}, l[ltN l]? = some x → lt x = false
  | [], _, h => by simp at h
  | y :: l, x, h => by
    unfold ltN at h
    by_cases hy : lt y = true
    · rw [if_pos hy] at h
      exact ltN_at (l := l) (by simpa using h)
    · rw [if_neg hy] at h
      simp only [List.getElem?_cons_zero, Option.some.injEq] at h
      subst h
      simpa using hy
theorem scn_at : ∀ {l : List UInt8} {n k : Nat}, scn l n = some k → ltN l ≤ k ∧ k ≤ l.length ∧ k ≤ n
  | [], n, k, h => by
    simp only [scn, Option.some.injEq] at h
    subst h
    simp [ltN]
  | x :: l, n, k, h => by
    unfold scn at h
    by_cases hs : sgn (x :: l) ≠ 0
    · rw [if_pos hs] at h
      simp only [Option.some.injEq] at h
      subst h
      refine ⟨?_, Nat.zero_le _, Nat.zero_le _⟩
      unfold ltN
      rw [if_neg (fun hx => hs (sgn_lt hx))]
      exact Nat.le_refl _
    · rw [if_neg hs] at h
      cases n with
      | zero => cases h
      | succ n =>
        dsimp only at h
        cases hq : scn l n with
        | none => rw [hq] at h; cases h
        | some j =>
          rw [hq] at h
          simp only [Option.map_some, Option.some.injEq] at h
          subst h
          obtain ⟨h1, h2, h3⟩ := scn_at hq
          refine ⟨?_, by simp; omega, by omega⟩
          unfold ltN
          split <;> omega
/-- Where the bytes of a name end with a sign, the search for a sign ends there too. -/
theorem scn_eq : ∀ {l : List UInt8} {n : Nat}, sgn (l.drop (ltN l)) ≠ 0 → scn l n = if ltN l ≤ n then some (ltN l) else none
  | [], n, h => absurd sgn_nil (by simpa [ltN] using h)
  | x :: l, n, h => by
    by_cases hx : lt x = true
    · have e : ltN (x :: l) = ltN l + 1 := by rw [ltN, if_pos hx]
      rw [e, List.drop_succ_cons] at h
      unfold scn
      rw [e, if_neg (by rw [sgn_lt hx]; simp)]
      cases n with
      | zero => rw [if_neg (by omega)]
      | succ n =>
        dsimp only
        rw [scn_eq h]
        by_cases hn : ltN l ≤ n
        · rw [if_pos hn, if_pos (by omega)]; rfl
        · rw [if_neg hn, if_neg (by omega)]; rfl
    · have e : ltN (x :: l) = 0 := by rw [ltN, if_neg hx]
      rw [e] at h ⊢
      unfold scn
      rw [if_pos (by simpa using h), if_pos (Nat.zero_le _)]
theorem stq_congr {k : Nat} {rec rec' : List UInt8 → Nat → List Rul → Option (List Rul × Nat)} {r : List UInt8} {at_ : Nat} {out : List Rul} (h : ∀ r a o, rec r a o = rec' r a o) : stq k rec r at_ out = stq k rec' r at_ out := by
  have : rec = rec' := by funext r a o; exact h r a o
  rw [this]
/-- The program's search and the document's say the same. -/
theorem prq_same : ∀ (f : Nat) (r : List UInt8) (a : Nat) (out : List Rul), prq (fun r => scn r 32) (fun _ => true) f r a out = prq (fun r => some (ltN r)) (fun o => decide (o.length ≤ 16)) f r a out
  | 0, _, _, _ => rfl
  | f + 1, r, a, out => by
    by_cases hl : out.length ≤ 16
    · conv => lhs; unfold prq
      conv => rhs; unfold prq
      rw [if_pos rfl, if_pos (decide_eq_true hl)]
      dsimp only
      by_cases hs : sgn (r.drop (ltN r)) = 0
      · have hR : stq (ltN r) (prq (fun r => some (ltN r)) (fun o => decide (o.length ≤ 16)) f) r a out = none := by unfold stq; rw [if_pos hs]
        rw [hR]
        cases hq : scn r 32 with
        | none => rfl
        | some k =>
          dsimp only
          obtain ⟨h1, h2, h3⟩ := scn_at hq
          rcases Nat.lt_or_ge (ltN r) k with hlt | hge
          · obtain ⟨y, hy⟩ : ∃ y, r[ltN r]? = some y := ⟨_, List.getElem?_eq_getElem (by omega)⟩
            refine stq_bad (fun r a o ho => prq_bad f r a o ho) (fun v => Bad.has (List.mem_append_right _ (List.mem_singleton.2 rfl)) (okR_no ?_))
            cases hn : nmB ⟨(r.take k).toArray⟩ with
            | false => rfl
            | true =>
              have hm : y ∈ r.take k := by
                have : (r.take k)[ltN r]? = some y := by rw [List.getElem?_take_of_lt hlt]; exact hy
                exact List.mem_of_getElem? this
              have := (nmB_lt hn).2 y (by simpa using hm)
              rw [ltN_at hy] at this
              cases this
          · obtain rfl : k = ltN r := by omega
            unfold stq
            rw [if_pos hs]
      · rw [scn_eq hs]
        by_cases h32 : ltN r ≤ 32
        · rw [if_pos h32]
          exact stq_congr fun r a o => prq_same f r a o
        · rw [if_neg h32]
          symm
          refine stq_bad (fun r a o ho => prq_bad f r a o ho) (fun v => Bad.has (List.mem_append_right _ (List.mem_singleton.2 rfl)) (okR_no ?_))
          cases hn : nmB ⟨(r.take (ltN r)).toArray⟩ with
          | false => rfl
          | true =>
            have := (nmB_lt hn).1
            have hz : (⟨(r.take (ltN r)).toArray⟩ : ByteArray).size = ltN r := by
              rw [Lib.size_eq]
              have := ltN_le r
              simp; omega
            omega
    · rw [prq_bad (f + 1) r a out (Bad.long (by omega))]
      unfold prq
      rw [if_neg (by simp; omega)]
def psqO : Option (List Rul × Nat) → List Rul × Nat
  | none => ([], 0)
  | some p => p
/-- The rules with which a text begins. -/
def psq (T : List UInt8) : List Rul × Nat :=
  if T.head? ≠ some 123 then ([], 0) else if (T.drop 1).head? = some 125 then ([], 2) else psqO (prq (fun r => scn r 32) (fun _ => true) T.length (T.drop 1) 1 [])
/-- What is unquoted is, quoted again, what stood there. -/
theorem uqF_back : ∀ (l acc : List UInt8) (k : Nat) {v : List UInt8} {n : Nat}, uqF false l acc k = some (v, n) → ∃ v' rest, v = acc ++ v' ∧ l = qB v' ++ 34 :: rest ∧ n = k + (qB v').length + 1
  | [], acc, k, v, n, h => by simp [uqF] at h
  | x :: l, acc, k, v, n, h => by
    unfold uqF at h
    by_cases h1 : x = 34
    · rw [if_pos h1] at h
      cases h
      exact ⟨[], l, by simp, by simp [qB, h1], by simp [qB]⟩
    · rw [if_neg h1] at h
      by_cases h2 : x = 92
      · rw [if_pos h2] at h
        cases l with
        | nil => simp [uqF] at h
        | cons y l =>
          unfold uqF at h
          by_cases h3 : y = 34 ∨ y = 92
          · rw [if_pos h3] at h
            obtain ⟨v', rest, e1, e2, e3⟩ := uqF_back l (acc ++ [y]) (k + 1 + 1) h
            have he : esc y = [92, y] := by unfold esc; rw [if_pos h3]
            refine ⟨y :: v', rest, by rw [e1]; simp, ?_, ?_⟩
            · simp only [qB, List.flatMap_cons, he] at *
              rw [e2, h2]; simp
            · simp only [qB, List.flatMap_cons, he, List.length_append, List.length_cons, List.length_nil] at *
              omega
          · rw [if_neg h3] at h; cases h
      · rw [if_neg h2] at h
        obtain ⟨v', rest, e1, e2, e3⟩ := uqF_back l (acc ++ [x]) (k + 1) h
        have he : esc x = [x] := by unfold esc; rw [if_neg (fun e => e.elim h1 h2)]
        refine ⟨x :: v', rest, by rw [e1]; simp, ?_, ?_⟩
        · simp only [qB, List.flatMap_cons, he] at *
          rw [e2]; simp
        · simp only [qB, List.flatMap_cons, he, List.length_append, List.length_cons, List.length_nil] at *
          omega
theorem uqL_inv {l v : List UInt8} {n : Nat} (h : uqL l = some (v, n)) : ∃ rest, l = qL v ++ rest ∧ n = (qL v).length := by
  cases l with
  | nil => cases h
  | cons x l =>
    rw [uqL_cons] at h
    by_cases hx : x = 34
    · rw [if_pos hx] at h
      obtain ⟨v', rest, e1, e2, e3⟩ := uqF_back l [] 1 h
      simp only [List.nil_append] at e1
      subst e1
      refine ⟨rest, by rw [e2, hx]; simp [qL], ?_⟩
      simp only [qL, List.length_cons, List.length_append, List.length_nil]
      omega
    · rw [if_neg hx] at h; cases h
theorem uqL_len {l v : List UInt8} {n : Nat} (h : uqL l = some (v, n)) : n ≤ l.length ∧ 2 ≤ n := by
  obtain ⟨rest, e1, e2⟩ := uqL_inv h
  rw [e1, e2]
  simp [qL]
theorem sgn_pre {l : List UInt8} (h : sgn l ≠ 0) : (sgB (sgn l)).isPrefixOf l = true := by
  have key : ∀ k, sgnD k l ≠ 0 → (sgB (sgnD k l)).isPrefixOf l = true := by
    intro k
    induction k with
    | zero => intro h; exact absurd rfl h
    | succ k ih =>
      unfold sgnD
      split
      · rename_i hp; intro _; exact hp
      · exact ih
  exact key 4 h
theorem sgn_len {l : List UInt8} (h : sgn l ≠ 0) : (sgB (sgn l)).length ≤ l.length := (List.isPrefixOf_iff_prefix.1 (sgn_pre h)).length_le
theorem own_keep4 {w w' : World} {base size n : Nat} {e : TypeId} {v : Value} {xs : List Value} (h : w.ownsRow base e size v n xs) (hb : Below w.heap.size w w') : w'.ownsRow base e size v n xs := by
  refine ⟨h.1, ?_⟩
  rcases h.2 with h' | ⟨g, cap, cur, hv, hb', hh, r⟩
  · exact .inl h'
  · exact .inr ⟨g, cap, cur, hv, hb', (hb.block g (Blk.lt hh)).trans hh, r⟩
theorem rsV_snoc (acc : List Rul) (x : Rul) : rsV acc ++ x.cells = rsV (acc ++ [x]) := by
  rw [rsV_append]
  simp [rsV, rowsV]
theorem scn_step {x : UInt8} {l : List UInt8} {n : Nat} (h : sgn (x :: l) = 0) : scn (x :: l) (n + 1) = (scn l n).map (· + 1) := by
  rw [scn, if_neg (by simp [h])]
theorem scn_over {x : UInt8} {l : List UInt8} (h : sgn (x :: l) = 0) : scn (x :: l) 0 = none := by
  rw [scn, if_neg (by simp [h])]
theorem scn_here {l : List UInt8} {n : Nat} (h : sgn l ≠ 0) : scn l n = some 0 := by
  cases l with
  | nil => exact absurd sgn_nil h
  | cons x l => unfold scn; rw [if_pos h]
theorem map_add (o : Option Nat) (a b : Nat) : (o.map (· + a)).map (· + b) = o.map (· + (a + b)) := by
  cases o <;> simp [Nat.add_assoc]
theorem stq_at {T : List UInt8} {a i o : Nat} (h : a ≤ i) {rec : List UInt8 → Nat → List Rul → Option (List Rul × Nat)} {out : List Rul} (ho : sgn (T.drop i) = o) (hn : o ≠ 0) :
    stq (i - a) rec (T.drop a) a out = match uqL (T.drop (i + (sgB o).length)) with
      | none => none
      | some p => match T.drop (i + (sgB o).length + p.2) with
        | [] => none
        | x :: rest => if x = 125 then (if rightR (out ++ [⟨⟨((T.drop a).take (i - a)).toArray⟩, o, ⟨p.1.toArray⟩⟩]) = true then some (out ++ [⟨⟨((T.drop a).take (i - a)).toArray⟩, o, ⟨p.1.toArray⟩⟩], i + (sgB o).length + p.2 + 1) else none)
          else if x = 44 then rec rest (i + (sgB o).length + p.2 + 1) (out ++ [⟨⟨((T.drop a).take (i - a)).toArray⟩, o, ⟨p.1.toArray⟩⟩]) else none := by
  have e1 : ∀ m, a + (i - a + m) = i + m := by intro m; omega
  have e0 : a + (i - a) = i := by omega
  unfold stq
  simp only [List.drop_drop, e0, e1, ho, if_neg hn]
  have e2 : ∀ m n, a + (i - a + m + n) = i + m + n := by intro m n; omega
  simp only [e2]
end Go.Proofs.YtamnononemallaaDoor

/-! The rules with which a text begins: the document's. -/
namespace Go.Proofs.YtamnononemallaaDoor
open Go.RowKit
theorem nmB_one (x : UInt8) : nmB ⟨#[x]⟩ = nmC 0 x := by
  have hz : (⟨#[x]⟩ : ByteArray).size = 1 := rfl
  unfold nmB nmA nmT
  rw [hz]
  simp [List.range_succ]
theorem lt_or (x : UInt8) : lt x = (nmC 0 x || (decide (48 ≤ x.toNat) && decide (x.toNat ≤ 57))) := by
  unfold lt nmC
  simp
theorem ltN_take {l : List UInt8} {n : Nat} (h : ∀ j x, j < n → l[j]? = some x → lt x = true) (hn : n ≤ l.length) : ltN l = n + ltN (l.drop n) := by
  induction n generalizing l with
  | zero => simp
  | succ n ih =>
    cases l with
    | nil => simp at hn
    | cons y l =>
      rw [ltN, if_pos (h 0 y (by omega) rfl), ih (l := l) (fun j x hj hx => h (j + 1) x (by omega) (by simpa using hx)) (by simpa using hn)]
      simp; omega
theorem ext_one {s : ByteArray} {k : Nat} (h : k < s.size) : s.extract k (k + 1) = ⟨#[s[k]]⟩ := by
  have h1 : (s.extract k (k + 1)).data.toList = [s[k]] := by
    rw [Lib.extract_data, drop_at h, show k + 1 - k = 1 from by omega]
    rfl
  rw [← Lib.mk_data (s.extract k (k + 1)), h1]
end Go.Proofs.YtamnononemallaaDoor
