import Derived.Test.YtjhcgnmibnjocaaY34
import Derived.Test.YtjhcgnmibnjocaaY29
/-! A log off a reader. -/
namespace Go.Proofs.Ytjhcgnmibnjocaa
open Go.RowKit Go.Maps
set_option linter.unusedVariables false
set_option linter.unusedSimpArgs false
/-- An entry off bytes. -/
def glStep (r : Rest) : Ent × Rest := (⟨zag (numP r).1, (textP 262144 (numP r).2).1⟩, (textP 262144 (numP r).2).2)
def glE : Nat → Rest → List Ent × Rest
  | 0, r => ([], r)
  | k + 1, r => if r.e = 0 then ((glStep r).1 :: (glE k (glStep r).2).1, (glE k (glStep r).2).2) else ([], r)
def getL (r : Rest) : List Ent × Rest := glE (countP 4096 r).1 (countP 4096 r).2
theorem glE_zero (k : Nat) {r : Rest} (h : r.e ≠ 0) : glE k r = ([], r) := by
  cases k with
  | zero => rfl
  | succ k => unfold glE; rw [if_neg h]
theorem glE_next (k : Nat) {r : Rest} (h : r.e = 0) : glE (k + 1) r = ((glStep r).1 :: (glE k (glStep r).2).1, (glE k (glStep r).2).2) := by
  rw [glE, if_pos h]
theorem takeP_by {n : Nat} {r : Rest} (h : ∀ x ∈ r.xs, x < 256) : (∀ x ∈ (takeP n r).1, x < 256) ∧ (∀ x ∈ (takeP n r).2.xs, x < 256) ∧ (takeP n r).1.length ≤ n := by
  unfold takeP
  split
  · exact ⟨(fun x hx => by cases hx), h, by simp⟩
  split
  · exact ⟨(fun x hx => by cases hx), (fun x hx => by cases hx), by simp⟩
  · exact ⟨fun x hx => h x (List.mem_of_mem_take hx), fun x hx => h x (List.mem_of_mem_drop hx), by simp only [List.length_take]; omega⟩
theorem failP_by {e : Int} {r : Rest} : ∀ x ∈ (failP e r).xs, x < 256 := fun x hx => by cases hx
theorem numP_by {r : Rest} (h : ∀ x ∈ r.xs, x < 256) : ∀ x ∈ (numP r).2.xs, x < 256 := by
  have h1 := fun n => (takeP_by (n := n) h).2.1
  unfold numP
  repeat' split
  all_goals first | exact h1 _ | exact (takeP_by (h1 _)).2.1 | exact failP_by | (intro x hx; cases hx)
theorem countP_by {m : Int} {r : Rest} (h : ∀ x ∈ r.xs, x < 256) : ∀ x ∈ (countP m r).2.xs, x < 256 := by
  unfold countP
  split
  · exact failP_by
  · exact numP_by h
theorem countP_bd {m : Int} {r : Rest} (hm : 0 ≤ m) : ((countP m r).1 : Int) ≤ m := by
  unfold countP
  split
  · exact hm
  · rename_i h
    have : ¬m.toNat < (numP r).1 := fun h' => h (.inl h')
    omega
theorem zag_i64 {n : Nat} (h : n < 18446744073709551616) : I64 (zag n) := by
  unfold I64 zag
  split <;> omega
theorem glStep_ok {r : Rest} (h : ∀ x ∈ r.xs, x < 256) : (glStep r).1.ok ∧ ∀ x ∈ (glStep r).2.xs, x < 256 := by
  have h1 := numP_by h
  have h2 := countP_by (m := 262144) h1
  have h3 := takeP_by (n := (countP 262144 (numP r).2).1) h2
  have h4 := countP_bd (m := 262144) (r := (numP r).2) (by omega)
  refine ⟨⟨zag_i64 (numP_lt h), ?_, h3.1⟩, h3.2.1⟩
  show (textP 262144 (numP r).2).1.length ≤ 262144
  unfold textP
  omega
theorem glE_by : ∀ (k : Nat) {r : Rest}, (∀ x ∈ r.xs, x < 256) → (∀ x ∈ (glE k r).1, x.ok) ∧ (∀ x ∈ (glE k r).2.xs, x < 256) ∧ (glE k r).1.length ≤ k
  | 0, r, h => ⟨(fun x hx => by cases hx), h, Nat.le_refl _⟩
  | k + 1, r, h => by
    obtain ⟨h1, h2⟩ := glStep_ok h
    obtain ⟨h3, h4, h5⟩ := glE_by k h2
    unfold glE
    split
    · exact ⟨fun x hx => (List.mem_cons.1 hx).elim (fun e => e ▸ h1) (h3 x), h4, by simp only [List.length_cons]; omega⟩
    · exact ⟨(fun x hx => by cases hx), h, by simp⟩
theorem getL_by {r : Rest} (h : ∀ x ∈ r.xs, x < 256) : (∀ x ∈ (getL r).1, x.ok) ∧ (∀ x ∈ (getL r).2.xs, x < 256) ∧ (getL r).1.length ≤ 4096 := by
  obtain ⟨h1, h2, h3⟩ := glE_by (countP 4096 r).1 (countP_by (m := 4096) h)
  have := countP_bd (m := 4096) (r := r) (by omega)
  exact ⟨h1, h2, by unfold getL; omega⟩
/-- A text as bytes: new memory. -/
theorem run_conv_str (w : World) (s : List Nat) (hs : ∀ x ∈ s, x < 256) (hn : s.length ≤ maxLen) :
    (convert 9 32 (.string (strOf s))).run Try.prog w = .ok (.slice (some ⟨w.heap.size, 0, none⟩) s.length (grownCap w s.length 0 5)) (Lib.bytesWorld w 5 (strOf s)) ∧
    Bsl (Lib.bytesWorld w 5 (strOf s)) (fun k => k < w.heap.size) (.slice (some ⟨w.heap.size, 0, none⟩) s.length (grownCap w s.length 0 5)) s ∧ Below w.heap.size w (Lib.bytesWorld w 5 (strOf s)) := by
  have hz := strOf_size s
  have h1 := Lib.run_convert_string_bytes (P := Try.prog) w 9 32 5 (strOf s) Try.underlying9 Try.underlying32 Try.underlying5
  rw [hz] at h1
  have hb : Below w.heap.size w (Lib.bytesWorld w 5 (strOf s)) := bytesWorld_below _ _ _
  refine ⟨h1, ⟨⟨_, _, rfl, ⟨by rw [u8s_length, Nat.mul_one], fun h0 => ⟨_, rfl, by rw [Lib.bytesWorld_size]; show w.heap.size < _; omega, fun j u hu => ?_⟩⟩, (fun e => by cases e), fun h0 a ha ht => by cases ha; exact absurd ht (Nat.lt_irrefl _), grownCap_ge _ _ _ _, grownCap_le_maxLen _ _ _ _ hn⟩, hs⟩, hb⟩
  have hj : j < s.length := by
    have := (List.getElem?_eq_some_iff.1 hu).1
    rwa [u8s_length] at this
  rw [add_plain, Nat.zero_add, Lib.bytesWorld_cell w 5 (strOf s) j (by rw [hz]; exact hj)]
  have hnm := numsOf_strOf hs
  unfold numsOf at hnm
  have : ((strOf s).data.toList.map UInt8.toNat)[j]? = some s[j] := by rw [hnm]; exact List.getElem?_eq_getElem hj
  rw [List.getElem?_map, Option.map_eq_some_iff] at this
  obtain ⟨y, hy, hy2⟩ := this
  rw [List.getD_eq_getElem?_getD, hy, Option.getD_some, hy2]
  rw [u8s_get, List.getElem?_eq_getElem hj] at hu
  simpa using hu
end Go.Proofs.Ytjhcgnmibnjocaa
