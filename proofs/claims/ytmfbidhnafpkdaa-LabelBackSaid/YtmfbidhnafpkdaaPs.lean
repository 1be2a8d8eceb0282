import Derived.Test.YtmfbidhnafpkdaaTx
/-! Labels that are read from a text, in plain words. -/
namespace Go.Proofs.Ytmfbidhnafpkdaa
open Go.RowKit
set_option linter.unusedVariables false
set_option linter.unusedSimpArgs false
/-- Where the first '=' stands. -/
def fE : List UInt8 → Option Nat
  | [] => none
  | x :: r => if x = 61 then some 0 else (fE r).map (· + 1)
theorem fE_some : ∀ {l : List UInt8} {i : Nat}, fE l = some i → i < l.length ∧ l[i]? = some 61 ∧ ∀ j, j < i → l[j]? ≠ some 61
  | [], i, h => by cases h
  | x :: l, i, h => by
    unfold fE at h
    by_cases hx : x = 61
    · rw [if_pos hx] at h
      cases h
      exact ⟨by simp, by simp [hx], fun j hj => by omega⟩
    · rw [if_neg hx] at h
      cases hf : fE l with
      | none => rw [hf] at h; cases h
      | some k =>
        rw [hf] at h
        cases h
        obtain ⟨h1, h2, h3⟩ := fE_some hf
        refine ⟨by simpa using h1, by simpa using h2, fun j hj => ?_⟩
        cases j with
        | zero => simpa using hx
        | succ j => simpa using h3 j (by have hj' : j + 1 < k + 1 := hj; omega)
theorem fE_none : ∀ {l : List UInt8}, fE l = none → ∀ j : Nat, l[j]? ≠ some 61
  | [], _, j => by simp
  | x :: l, h, j => by
    unfold fE at h
    by_cases hx : x = 61
    · rw [if_pos hx] at h; cases h
    · rw [if_neg hx] at h
      cases hf : fE l with
      | some k => rw [hf] at h; cases h
      | none =>
        cases j with
        | zero => simpa using hx
        | succ j => simpa using fE_none hf j
theorem fE_index : ∀ l : List UInt8, Lib.indexByte l 61 = match fE l with | some i => (i : Int) | none => -1
  | [] => rfl
  | x :: l => by
    have ih := fE_index l
    unfold Lib.indexByte fE
    by_cases hx : x = 61
    · subst hx; simp
    · have hb : (x == 61) = false := by simp [hx]
      rw [if_neg hx, hb]
      simp only [Bool.false_eq_true, if_false]
      cases hf : fE l with
      | none =>
        rw [hf] at ih
        rw [ih]
        simp
      | some i =>
        rw [hf] at ih
        rw [ih]
        have : ((i : Int) == -1) = false := by first | (simp; done) | (simp; omega)
        first | (simp [this]; done) | (simp [this]; omega)
/-- The labels of what stands behind '{', read one by one. -/
def prs : Nat → List UInt8 → List Par → Option (List Par)
  | 0, _, _ => none
  | f + 1, r, acc => match fE r with
    | none => none
    | some i => match uqL (r.drop (i + 1)) with
      | none => none
      | some p =>
        let rest := r.drop (i + 1 + p.2)
        let acc' := acc ++ [⟨⟨(r.take i).toArray⟩, ⟨p.1.toArray⟩⟩]
        if rest = [125] then some acc'
        else match rest with
          | [] => none
          | x :: rest' => if x = 44 then prs f rest' acc' else none
theorem prs_noeq {f : Nat} {r : List UInt8} {acc : List Par} (h : fE r = none) : prs f r acc = none := by
  cases f with
  | zero => rfl
  | succ f => simp [prs, h]
theorem prs_step {f i : Nat} {r : List UInt8} {acc : List Par} (h : fE r = some i) : prs (f + 1) r acc = match uqL (r.drop (i + 1)) with
      | none => none
      | some p => if r.drop (i + 1 + p.2) = [125] then some (acc ++ [⟨⟨(r.take i).toArray⟩, ⟨p.1.toArray⟩⟩]) else match r.drop (i + 1 + p.2) with
          | [] => none
          | x :: rest' => if x = 44 then prs f rest' (acc ++ [⟨⟨(r.take i).toArray⟩, ⟨p.1.toArray⟩⟩]) else none := by
  simp only [prs, h]
/-- What is unquoted is, quoted again, what stood there. -/
theorem uqF_back : ∀ (l acc : List UInt8) (k : Nat) {v : List UInt8} {n : Nat}, uqF false l acc k = some (v, n) → ∃ v' rest, v = acc ++ v' ∧ l = qB v' ++ 34 :: rest ∧ n = k + (qB v').length + 1
  | [], acc, k, v, n, h => by simp [uqF] at h
  | x :: l, acc, k, v, n, h => by
    unfold uqF at h
    by_cases h1 : x = 34
    · rw [if_pos h1] at h
      cases h
      exact ⟨[], l, by simp, by simp [qB, h1], by simp [qB]⟩
    · rw [if_neg h1] at h
      by_cases h2 : x = 92
      · rw [if_pos h2] at h
        cases l with
        | nil => simp [uqF] at h
        | cons y l =>
          unfold uqF at h
          by_cases h3 : y = 34 ∨ y = 92
          · rw [if_pos h3] at h
            obtain ⟨v', rest, e1, e2, e3⟩ := uqF_back l (acc ++ [y]) (k + 1 + 1) h
            have he : esc y = [92, y] := by unfold esc; rw [if_pos h3]
            refine ⟨y :: v', rest, by rw [e1]; simp, ?_, ?_⟩
            · simp only [qB, List.flatMap_cons, he] at *
              rw [e2, h2]; simp
            · simp only [qB, List.flatMap_cons, he, List.length_append, List.length_cons, List.length_nil] at *
              omega
          · rw [if_neg h3] at h; cases h
      · rw [if_neg h2] at h
        obtain ⟨v', rest, e1, e2, e3⟩ := uqF_back l (acc ++ [x]) (k + 1) h
        have he : esc x = [x] := by unfold esc; rw [if_neg (fun e => e.elim h1 h2)]
        refine ⟨x :: v', rest, by rw [e1]; simp, ?_, ?_⟩
        · simp only [qB, List.flatMap_cons, he] at *
          rw [e2]; simp
        · simp only [qB, List.flatMap_cons, he, List.length_append, List.length_cons, List.length_nil] at *
          omega
theorem uqL_inv {l v : List UInt8} {n : Nat} (h : uqL l = some (v, n)) : ∃ rest, l = qL v ++ rest ∧ n = (qL v).length := by
  cases l with
  | nil => cases h
  | cons x l =>
    rw [uqL_cons] at h
    by_cases hx : x = 34
    · rw [if_pos hx] at h
      obtain ⟨v', rest, e1, e2, e3⟩ := uqF_back l [] 1 h
      simp only [List.nil_append] at e1
      subst e1
      refine ⟨rest, by rw [e2, hx]; simp [qL], ?_⟩
      simp only [qL, List.length_cons, List.length_append, List.length_nil]
      omega
    · rw [if_neg hx] at h; cases h
theorem uqL_len {l v : List UInt8} {n : Nat} (h : uqL l = some (v, n)) : n ≤ l.length ∧ 2 ≤ n := by
  obtain ⟨rest, e1, e2⟩ := uqL_inv h
  rw [e1, e2]
  simp [qL]
/-- What is read is, written again, what stood there. -/
theorem prs_text : ∀ (f : Nat) (r : List UInt8) (acc : List Par) {out : List Par}, prs f r acc = some out → ∃ new, out = acc ++ new ∧ new ≠ [] ∧ r = joinB new ++ [125]
  | 0, r, acc, out, h => by cases h
  | f + 1, r, acc, out, h => by
    cases hf : fE r with
    | none => rw [prs_noeq hf] at h; cases h
    | some i =>
      rw [prs_step hf] at h
      cases hu : uqL (r.drop (i + 1)) with
      | none => rw [hu] at h; cases h
      | some p =>
        obtain ⟨v, n⟩ := p
        rw [hu] at h
        dsimp only at h
        obtain ⟨hi, h61, _⟩ := fE_some hf
        obtain ⟨rest, e1, e2⟩ := uqL_inv hu
        have hd : r.drop (i + 1 + n) = rest := by
          rw [← List.drop_drop, e1, e2, List.drop_left]
        have hr : r = (pairB ⟨⟨(r.take i).toArray⟩, ⟨v.toArray⟩⟩).data.toList ++ rest := by
          have e3 : r.drop i = 61 :: r.drop (i + 1) := by
            rw [List.drop_eq_getElem_cons hi]
            congr 1
            have := List.getElem?_eq_getElem hi
            rw [this] at h61
            exact Option.some.inj h61
          conv => lhs; rw [← List.take_append_drop i r, e3, e1]
          simp [pairB]
        rw [hd] at h
        by_cases hb : rest = [125]
        · rw [if_pos hb] at h
          cases h
          refine ⟨[⟨⟨(r.take i).toArray⟩, ⟨v.toArray⟩⟩], rfl, by simp, ?_⟩
          rw [hb] at hr
          simpa [joinB, Lib.join_one] using hr
        · rw [if_neg hb] at h
          cases rest with
          | nil => cases h
          | cons x rest' =>
            dsimp only at h
            by_cases hx : x = 44
            · rw [if_pos hx] at h
              obtain ⟨new, e4, e5, e6⟩ := prs_text f rest' _ h
              refine ⟨⟨⟨(r.take i).toArray⟩, ⟨v.toArray⟩⟩ :: new, by rw [e4]; simp, by simp, ?_⟩
              cases new with
              | nil => exact absurd rfl e5
              | cons y new =>
                have e7 : joinB (⟨⟨(r.take i).toArray⟩, ⟨v.toArray⟩⟩ :: y :: new) = (pairB ⟨⟨(r.take i).toArray⟩, ⟨v.toArray⟩⟩).data.toList ++ 44 :: joinB (y :: new) := by
                  simp [joinB, Lib.join_cons, Lib.joinTail]
                rw [e7]
                conv => lhs; rw [hr, hx, e6]
                simp
            · rw [if_neg hx] at h; cases h
end Go.Proofs.Ytmfbidhnafpkdaa
