import Derived.Test.YthajbeooemngpaaRdBack
import Derived.Test.YthajbeooemngpaaPack3
/-! Samples off bytes: plain. -/
namespace Go.Proofs.Ythajbeooemngpaa
open Go.RowKit
set_option linter.unusedVariables false
set_option linter.unusedSimpArgs false
structure US where
  r : Rest
  t : Int
  nu : Int
  st : Int
  out : List (Int × Int)
def uStep (s : US) : US :=
  ⟨(numP (numP s.r).2).2, wrap64 (s.t + wrap64 (s.st + zag (numP s.r).1)), wrap64 (s.nu + zag (numP (numP s.r).2).1), wrap64 (s.st + zag (numP s.r).1),
    s.out ++ [(wrap64 (s.t + wrap64 (s.st + zag (numP s.r).1)), wrap64 (s.nu + zag (numP (numP s.r).2).1))]⟩
def uRun : Nat → US → US
  | 0, s => s
  | n + 1, s => if s.r.e = 0 then (if (uStep s).t < 0 ∨ 4611686018427387904 < (uStep s).t then uStep s else uRun n (uStep s)) else s
def uEnd (b : List Nat) : US := uRun (countP 65536 ⟨b, 0⟩).1 ⟨(countP 65536 ⟨b, 0⟩).2, 0, 0, 0, []⟩
def unpackP (b : List Nat) : Option (List (Int × Int)) := if (uEnd b).r.e = 0 ∧ fineP (uEnd b).out = true ∧ (uEnd b).r.xs = [] then some (uEnd b).out else none
theorem uRun_stop {k : Nat} {s : US} (h : s.r.e ≠ 0) : uRun k s = s := by
  cases k with
  | zero => rfl
  | succ k => unfold uRun; rw [if_neg h]
def restB (l : List (Int × Int)) : Nat → Nat → List Nat
  | _, 0 => []
  | i, k + 1 => numB (zig (dd l i)) ++ (numB (zig (dn l i)) ++ restB l (i + 1) k)
theorem packB_rest (l : List (Int × Int)) : ∀ k i, packB l i ++ restB l i k = packB l (i + k)
  | 0, i => by simp [restB]
  | k + 1, i => by
    have := packB_rest l k (i + 1)
    rw [show i + (k + 1) = i + 1 + k by omega, ← this]
    simp only [restB, packB, List.append_assoc]
theorem restB_bytes {l : List (Int × Int)} (hg : goodP l = true) : ∀ k i, i + k ≤ l.length → ∀ x ∈ restB l i k, x < 256
  | 0, _, _, x, hx => by cases hx
  | k + 1, i, h, x, hx => by
    simp only [restB, List.mem_append] at hx
    rcases hx with hx | hx | hx
    · exact numB_lt _ (zig_lt _ (dd_bd hg (i := i) (by omega))) x hx
    · exact numB_lt _ (zig_lt _ (wrap_bd _)) x hx
    · exact restB_bytes hg k (i + 1) (by omega) x hx
theorem zag_bd {n : Nat} (h : n < 18446744073709551616) : I64 (zag n) := by
  unfold zag I64
  split <;> omega
/-- What was packed is unpacked. -/
theorem uRun_packed {l : List (Int × Int)} (hg : goodP l = true) (h64 : I64s l) : ∀ k i, i + k = l.length →
    uRun k ⟨⟨restB l i k, 0⟩, pt l i, pn l i, pg l i, l.take i⟩ = ⟨⟨[], 0⟩, pt l (i + k), pn l (i + k), pg l (i + k), l⟩
  | 0, i, h => by
    obtain rfl : i = l.length := by omega
    simp [uRun, restB]
  | k + 1, i, h => by
    have hi : i < l.length := by omega
    have hp : l[i]? = some l[i] := List.getElem?_eq_getElem hi
    have ht := tm_get hp
    have hn := nm_get hp
    have t1 := tm_bd hg hi
    have t2 := pg_bd hg hi
    have d1 := dd_bd hg hi
    have p1 := (h64 l[i] (List.getElem_mem hi)).2
    have p2 := pn_bd h64 i
    have w1 := wrap_bd (nm l i - pn l i)
    have e1 : numP ⟨restB l i (k + 1), 0⟩ = (zig (dd l i), ⟨numB (zig (dn l i)) ++ restB l (i + 1) k, 0⟩) := by
      simp only [restB]
      exact numP_numB (zig_lt _ d1) _
    have e2 : numP ⟨numB (zig (dn l i)) ++ restB l (i + 1) k, 0⟩ = (zig (dn l i), ⟨restB l (i + 1) k, 0⟩) := numP_numB (zig_lt _ w1) _
    have hs : uStep ⟨⟨restB l i (k + 1), 0⟩, pt l i, pn l i, pg l i, l.take i⟩ = ⟨⟨restB l (i + 1) k, 0⟩, pt l (i + 1), pn l (i + 1), pg l (i + 1), l.take (i + 1)⟩ := by
      unfold uStep
      simp only [e1, e2, zag_zig]
      have f1 : wrap64 (pg l i + dd l i) = pg l (i + 1) := by
        show _ = tm l i - pt l i
        unfold dd wrap64
        omega
      have f2 : wrap64 (pt l i + pg l (i + 1)) = pt l (i + 1) := by
        show wrap64 (pt l i + (tm l i - pt l i)) = tm l i
        unfold wrap64
        omega
      have f3 : wrap64 (pn l i + dn l i) = pn l (i + 1) := by
        show wrap64 (pn l i + wrap64 (nm l i - pn l i)) = nm l i
        unfold I64 at p2
        rw [hn]
        unfold wrap64
        omega
      rw [f1, f2, f3]
      congr 1
      rw [List.take_add_one, hp]
      simp only [pt, pn, ht, hn]
      rfl
    have hr : ¬((uStep ⟨⟨restB l i (k + 1), 0⟩, pt l i, pn l i, pg l i, l.take i⟩).t < 0 ∨ 4611686018427387904 < (uStep ⟨⟨restB l i (k + 1), 0⟩, pt l i, pn l i, pg l i, l.take i⟩).t) := by
      rw [hs]
      simp only [pt]
      omega
    unfold uRun
    rw [if_pos rfl, if_neg hr, hs, uRun_packed hg h64 k (i + 1) (by omega), show i + (k + 1) = i + 1 + k by omega]
theorem unpackP_packed {l : List (Int × Int)} (hf : fineP l = true) (h64 : I64s l) : unpackP (packB l l.length) = some l := by
  have hg : goodP l = true := by unfold fineP at hf; simp at hf; exact hf.2
  have hl : l.length ≤ 65536 := by unfold fineP at hf; simp at hf; exact hf.1
  have h0 : packB l l.length = numB l.length ++ restB l 0 l.length := by
    have := packB_rest l l.length 0
    rw [Nat.zero_add] at this
    rw [← this]
    rfl
  have hc : countP 65536 ⟨packB l l.length, 0⟩ = (l.length, ⟨restB l 0 l.length, 0⟩) := by
    unfold countP
    rw [h0, numP_numB (by omega), if_neg (fun h => by rcases h with h | h <;> simp only at h <;> omega)]
  have he : uEnd (packB l l.length) = ⟨⟨[], 0⟩, pt l l.length, pn l l.length, pg l l.length, l⟩ := by
    unfold uEnd
    rw [hc]
    have := uRun_packed hg h64 l.length 0 (by omega)
    rw [Nat.zero_add] at this
    exact this
  unfold unpackP
  rw [he, if_pos ⟨rfl, hf, rfl⟩]
/-- A number that is taken has just its bytes. -/
theorem be_num : ∀ (k : Nat) (l : List Nat), l.length = k → (∀ x ∈ l, x < 256) → be k (num l) = l
  | 0, l, h, _ => by rw [List.eq_nil_of_length_eq_zero h]; rfl
  | k + 1, l, h, hb => by
    have hne : l ≠ [] := fun e => by rw [e] at h; cases h
    have hl := List.dropLast_concat_getLast hne
    have h1 : l.dropLast.length = k := by rw [List.length_dropLast]; omega
    have h2 := be_num k l.dropLast h1 (fun x hx => hb x (List.dropLast_subset l hx))
    have h3 := hb (l.getLast hne) (List.getLast_mem hne)
    have h4 : num l = num l.dropLast * 256 + l.getLast hne := by rw [← num_snoc, hl]
    rw [h4]
    simp only [be]
    rw [show (num l.dropLast * 256 + l.getLast hne) / 256 = num l.dropLast by omega, show (num l.dropLast * 256 + l.getLast hne) % 256 = l.getLast hne by omega, h2, hl]
theorem numP_canon {xs : List Nat} (hb : ∀ x ∈ xs, x < 256) (he : (numP ⟨xs, 0⟩).2.e = 0) : xs = numB (numP ⟨xs, 0⟩).1 ++ (numP ⟨xs, 0⟩).2.xs := by
  match xs, hb, he with
  | [], _, he => rw [numP_short] at he; simp at he
  | x :: t, hb, he =>
    have hx := hb x (by simp)
    by_cases h1 : x < 248
    · rw [numP_low t h1]
      unfold numB
      rw [if_pos h1]
      rfl
    · by_cases h2 : x - 247 ≤ t.length
      · rw [numP_long h1 h2] at he ⊢
        by_cases h3 : num (t.take (x - 247)) < 248 ∨ longN (num (t.take (x - 247))) ≠ x - 247
        · rw [if_pos h3] at he
          simp at he
        · rw [if_neg h3]
          simp only
          have h4 : longN (num (t.take (x - 247))) = x - 247 := by
            rcases Nat.decEq (longN (num (t.take (x - 247)))) (x - 247) with h | h
            · exact absurd (.inr h) h3
            · exact h
          have h5 : ¬num (t.take (x - 247)) < 248 := fun h => h3 (.inl h)
          unfold numB
          rw [if_neg h5, h4, be_num (x - 247) (t.take (x - 247)) (by rw [List.length_take]; omega) (fun y hy => hb y (by simp [List.mem_of_mem_take hy])), List.cons_append, List.take_append_drop]
          have h6 : 247 + (x - 247) = x := by omega
          rw [h6]
      · rw [numP_short2 h1 (by omega)] at he
        simp at he
theorem numP_rest {xs : List Nat} (hb : ∀ x ∈ xs, x < 256) (he : (numP ⟨xs, 0⟩).2.e = 0) : ∀ x ∈ (numP ⟨xs, 0⟩).2.xs, x < 256 := fun x hx => hb x (by rw [numP_canon hb he]; exact List.mem_append_right _ hx)
theorem numP_ok {r : Rest} (h : (numP r).2.e = 0) : r.e = 0 := by
  by_cases h0 : r.e = 0
  · exact h0
  · rw [numP_err h0] at h
    exact absurd h h0
theorem uRun_prefix : ∀ k (s : US), s.out <+: (uRun k s).out
  | 0, s => List.prefix_refl _
  | k + 1, s => by
    unfold uRun
    split
    · have h1 : s.out <+: (uStep s).out := List.prefix_append _ _
      split
      · exact h1
      · exact h1.trans (uRun_prefix k _)
    · exact List.prefix_refl _
/-- What is unpacked has just its bytes. -/
theorem uRun_canon {f : US} (hg : goodP f.out = true) (he : f.r.e = 0) : ∀ k (s : US), uRun k s = f → s.r.e = 0 → (∀ x ∈ s.r.xs, x < 256) → s.t = pt f.out s.out.length → s.nu = pn f.out s.out.length → s.st = pg f.out s.out.length → I64 s.nu →
    s.r.xs = restB f.out s.out.length k ++ f.r.xs ∧ f.out.length = s.out.length + k
  | 0, s, h, _, _, _, _, _, _ => by
    subst h
    simp [uRun, restB]
  | k + 1, s, h, hs, hb, ht, hn, hst, hn64 => by
    have hpre := uRun_prefix k (uStep s)
    unfold uRun at h
    rw [if_pos hs] at h
    obtain ⟨⟨xs, e⟩, t, nu, st, out⟩ := s
    simp only at *
    subst hs
    have h1 : (uStep ⟨⟨xs, 0⟩, t, nu, st, out⟩).r.e = 0 := by
      split at h
      · rw [h]; exact he
      · by_cases h2 : (uStep ⟨⟨xs, 0⟩, t, nu, st, out⟩).r.e = 0
        · exact h2
        · rw [uRun_stop h2] at h
          rw [h]; exact he
    have hq2 : (numP (numP ⟨xs, 0⟩).2).2.e = 0 := h1
    have hq1 : (numP ⟨xs, 0⟩).2.e = 0 := numP_ok hq2
    have c1 := numP_canon hb hq1
    have b1 := numP_rest hb hq1
    have l1 := numP_lt (r := ⟨xs, 0⟩) hb
    have hE : (numP ⟨xs, 0⟩).2 = ⟨(numP ⟨xs, 0⟩).2.xs, 0⟩ := by
      rcases hh : (numP ⟨xs, 0⟩).2 with ⟨a, b⟩
      rw [hh] at hq1
      simp only at hq1
      rw [hq1]
    have l2 := numP_lt (r := (numP ⟨xs, 0⟩).2) b1
    rw [hE] at hq2 l2
    have c2 := numP_canon b1 hq2
    have b2 := numP_rest b1 hq2
    have z1 := zag_bd l1
    have z2 := zag_bd l2
    have hS : uStep ⟨⟨xs, 0⟩, t, nu, st, out⟩ = ⟨(numP ⟨(numP ⟨xs, 0⟩).2.xs, 0⟩).2, wrap64 (t + wrap64 (st + zag (numP ⟨xs, 0⟩).1)), wrap64 (nu + zag (numP ⟨(numP ⟨xs, 0⟩).2.xs, 0⟩).1), wrap64 (st + zag (numP ⟨xs, 0⟩).1),
        out ++ [(wrap64 (t + wrap64 (st + zag (numP ⟨xs, 0⟩).1)), wrap64 (nu + zag (numP ⟨(numP ⟨xs, 0⟩).2.xs, 0⟩).1))]⟩ := by unfold uStep; rw [← hE]
    rw [hS] at h hpre h1
    have zz1 := zig_zag (numP ⟨xs, 0⟩).1
    have zz2 := zig_zag (numP ⟨(numP ⟨xs, 0⟩).2.xs, 0⟩).1
    generalize numP ⟨xs, 0⟩ = q1 at *
    obtain ⟨n1, x1, e1⟩ := q1
    simp only at *
    generalize numP ⟨x1, 0⟩ = q2 at *
    obtain ⟨n2, x2, e2⟩ := q2
    simp only at *
    subst hq2 hq1
    generalize zag n1 = a1 at *
    generalize zag n2 = a2 at *
    have hpf : out ++ [(wrap64 (t + wrap64 (st + a1)), wrap64 (nu + a2))] <+: f.out := by
      split at h
      · rw [← h]; exact List.prefix_refl _
      · rw [h] at hpre; exact hpre
    have hget : f.out[out.length]? = some (wrap64 (t + wrap64 (st + a1)), wrap64 (nu + a2)) := by
      obtain ⟨m, hm⟩ := hpf
      rw [← hm, List.append_assoc, List.getElem?_append_right (Nat.le_refl _), Nat.sub_self]
      rfl
    have hlt : out.length < f.out.length := (List.getElem?_eq_some_iff.1 hget).1
    have t1 := tm_bd hg hlt
    have d1 := dd_bd hg hlt
    have p1 := pg_bd hg hlt
    have htm := tm_get hget
    have hnm := nm_get hget
    simp only at htm hnm
    have hnb : ¬(wrap64 (t + wrap64 (st + a1)) < 0 ∨ 4611686018427387904 < wrap64 (t + wrap64 (st + a1))) := by
      rw [← htm]
      omega
    rw [if_neg hnb] at h
    have w1 : wrap64 (st + a1) = pg f.out (out.length + 1) := by
      show _ = tm f.out out.length - pt f.out out.length
      rw [← ht]
      rw [← ht] at t1
      unfold wrap64 at *
      omega
    have w2 : wrap64 (t + wrap64 (st + a1)) = pt f.out (out.length + 1) := htm.symm
    have w3 : wrap64 (nu + a2) = pn f.out (out.length + 1) := hnm.symm
    have hdd : dd f.out out.length = a1 := by
      have w1' := w1
      simp only [pg] at w1'
      unfold dd at *
      unfold I64 at *
      rw [← ht, ← hst] at *
      unfold wrap64 at w1'
      omega
    have hdn : dn f.out out.length = a2 := by
      unfold dn
      rw [hnm, ← hn]
      unfold I64 at *
      unfold wrap64
      omega
    have ih := uRun_canon hg he k _ h rfl b2 (by simpa using w2) (by simpa using w3) (by simpa using w1) (wrap_bd _)
    simp only [List.length_append, List.length_cons, List.length_nil] at ih
    refine ⟨?_, by omega⟩
    rw [c1, c2]
    simp only [restB]
    rw [hdd, hdn, zz1, zz2, ih.1]
    simp only [List.append_assoc]
theorem unpackP_canon {b : List Nat} {l : List (Int × Int)} (hb : ∀ x ∈ b, x < 256) (h : unpackP b = some l) : packB l l.length = b ∧ fineP l = true := by
  unfold unpackP at h
  split at h
  · rename_i hc
    obtain ⟨he, hf, hx⟩ := hc
    injection h with h
    refine ⟨?_, h ▸ hf⟩
    have hg : goodP (uEnd b).out = true := by unfold fineP at hf; simp at hf; exact hf.2
    unfold uEnd at *
    by_cases h0 : (countP 65536 ⟨b, 0⟩).2.e = 0
    · have hcr : ¬((65536 : Int).toNat < (numP ⟨b, 0⟩).1 ∨ ((65536 : Int) < 0 ∧ (numP ⟨b, 0⟩).2.e = 0)) := fun hcr => by
        unfold countP failP at h0
        rw [if_pos hcr] at h0
        simp only at h0
        split at h0
        · cases h0
        · rename_i h1
          exact h1 h0
      have hcn : countP 65536 ⟨b, 0⟩ = numP ⟨b, 0⟩ := by unfold countP; rw [if_neg hcr]
      rw [hcn] at h0 he hf hx hg h
      have c1 := numP_canon hb h0
      have b1 := numP_rest hb h0
      have := uRun_canon hg he (numP ⟨b, 0⟩).1 _ rfl h0 b1 rfl rfl rfl (by unfold I64; simp)
      simp only [List.length_nil, Nat.zero_add] at this
      rw [← h]
      have h3 := packB_rest (uRun (numP ⟨b, 0⟩).1 ⟨(numP ⟨b, 0⟩).2, 0, 0, 0, []⟩).out (numP ⟨b, 0⟩).1 0
      rw [Nat.zero_add] at h3
      rw [this.2, ← h3]
      simp only [packB]
      rw [this.2]
      conv => rhs; rw [c1, this.1, hx, List.append_nil]
    · rw [uRun_stop (by exact h0)] at he
      exact absurd he h0
  · cases h
end Go.Proofs.Ythajbeooemngpaa
