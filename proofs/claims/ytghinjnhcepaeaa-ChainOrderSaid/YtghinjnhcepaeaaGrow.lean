import Derived.Test.YtghinjnhcepaeaaKit
import Derived.StillTail
/-! A REGION THAT DRAWS ITS ORDER: first operations that yield one value in whatever world has grown from the region's (their calls making new memory at most), and allocations beside them; then a tail in one order. -/
namespace Go.Grow
open Go.RowKit
set_option linter.unusedVariables false
set_option linter.unusedSimpArgs false
section
variable {P : Program} {ops : Array Oper} {md : Region.Mode} {w₀ : World}

def upon (P : Program) (w : World) (v : Value) : Result Next → Prop
  | .ok (.value u) w' => w' = w ∧ u = v
  | .ok .skip w' => w' = w ∧ v = undef
  | .ok (.enter f args) w' => w' = w ∧ Calls P f args w (fun e w'' => e = .returned v ∧ ∃ Y, w'' = w.ext Y)
  | _ => False
def at_ (P : Program) (o : Oper) (a : Act) (w : World) (v : Value) : Prop := upon P w v ((execOp a.eval o).run P w)
def grow (P : Program) (o : Oper) (a : Act) (w₀ : World) (next : Act → Prop) : Prop := ∃ v, (∀ X, at_ P o a (w₀.ext X) v) ∧ next (a.put o.dst v)
attribute [go_sem] upon at_ grow

/-- The walk of the operations that yield, in the order of the text. -/
def wpG (P : Program) (ops : Array Oper) (w₀ : World) (Q : Act → Prop) : List Oper → Act → Prop
  | [], a => Q a
  | o :: rest, a => if Region.wanted o (yielded ops a.tmps) then grow P o a w₀ (wpG P ops w₀ Q rest) else wpG P ops w₀ Q rest (a.put o.dst undef)
theorem wpG_nil {Q : Act → Prop} {a : Act} (h : Q a) : wpG P ops w₀ Q [] a := h
theorem wpG_step {Q : Act → Prop} {a : Act} {o : Oper} {rest : List Oper}
    (h : ∀ K : Act → Prop, (∀ a, wpG P ops w₀ Q rest a → K a) → if Region.wanted o (yielded ops a.tmps) then grow P o a w₀ K else K (a.put o.dst undef)) : wpG P ops w₀ Q (o :: rest) a :=
  h _ (fun _ h => h)

def gOp (P : Program) (ops : Array Oper) (w₀ : World) (i : Nat) (K : Act → Prop) (a : Act) : Prop :=
  match ops[i]? with
  | none => K a
  | some o => if Region.wanted o (yielded ops a.tmps) then grow P o a w₀ K else K (a.put o.dst undef)
theorem gOp_mono {i : Nat} {a : Act} {K K' : Act → Prop} (h : ∀ a, K a → K' a) (hh : gOp P ops w₀ i K a) : gOp P ops w₀ i K' a := by
  unfold gOp at *
  split
  · exact h _ (by simpa [*] using hh)
  · rename_i o ho
    simp only [ho] at hh
    split
    · rename_i hw; simp only [hw, if_true] at hh; obtain ⟨v, h1, h2⟩ := hh; exact ⟨v, h1, h _ h2⟩
    · rename_i hw; simp only [hw] at hh; exact h _ hh

def vAny (P : Program) (md : Region.Mode) (ops : Array Oper) (w₀ : World) (n : Nat) (L : Array Bool → Act → Prop) : Nat → Array Bool → Act → Prop
  | 0, listed, a => L listed a
  | f + 1, listed, a => (∃ i ∈ Region.ready md ops listed, i < n) ∧ ∀ i ∈ Region.ready md ops listed, i < n → gOp P ops w₀ i (vAny P md ops w₀ n L f (listed.setIfInBounds i true)) a

def YieldsG (P : Program) (ops : Array Oper) (w₀ : World) (o : Oper) (v : Value) (a : Act) : Prop :=
  (Region.wanted o (yielded ops a.tmps) = true ∧ ∀ X, at_ P o a (w₀.ext X) v) ∨ (Region.wanted o (yielded ops a.tmps) = false ∧ v = undef)
theorem YieldsG.gOp {i : Nat} {o : Oper} {v : Value} {a : Act} (hi : ops[i]? = some o) (hy : YieldsG P ops w₀ o v a) {K : Act → Prop} (h : K (a.put o.dst v)) : gOp P ops w₀ i K a := by
  unfold Go.Grow.gOp
  simp only [hi]
  rcases hy with ⟨hw, hv⟩ | ⟨hw, rfl⟩
  · simp only [hw, if_true]; exact ⟨v, hv, h⟩
  · simp only [hw, Bool.false_eq_true, if_false]; exact h
theorem YieldsG.of_same {o : Oper} {v : Value} {a a' : Act} (hy : YieldsG P ops w₀ o v a) (he : execOp a'.eval o = execOp a.eval o)
    (hw : Region.wanted o (yielded ops a'.tmps) = Region.wanted o (yielded ops a.tmps)) : YieldsG P ops w₀ o v a' := by
  unfold YieldsG at_ at *
  rw [he, hw]
  exact hy
theorem yieldsG_of_gOp {i : Nat} {o : Oper} {a : Act} {K : Act → Prop} (hi : ops[i]? = some o) (h : gOp P ops w₀ i K a) : ∃ v, YieldsG P ops w₀ o v a ∧ K (a.put o.dst v) := by
  unfold gOp at h
  simp only [hi] at h
  by_cases hw : Region.wanted o (yielded ops a.tmps) = true
  · simp only [hw, if_true] at h
    obtain ⟨v, h1, h2⟩ := h
    exact ⟨v, .inl ⟨hw, h1⟩, h2⟩
  · simp only [hw] at h
    exact ⟨undef, .inr ⟨by simpa using hw, rfl⟩, h⟩
theorem gOp_put {j : Nat} {oi oj : Oper} {v : Value} (hj : ops[j]? = some oj) (hap : oi.apart ops oj = true)
    (hsi : ∀ cs b, oi.op ≠ .select cs b) (hsj : ∀ cs b, oj.op ≠ .select cs b) {K : Act → Prop} {a : Act}
    (hy : YieldsG P ops w₀ oi v a) (h : gOp P ops w₀ j K (a.put oi.dst v)) :
    gOp P ops w₀ j (fun a' => YieldsG P ops w₀ oi v a' ∧ K (a'.put oi.dst v)) a := by
  obtain ⟨h1, h2, h3⟩ := Oper.apart_spec hap
  have keep : ∀ (a : Act), YieldsG P ops w₀ oi v a → ∀ u, YieldsG P ops w₀ oi v (a.put oj.dst u) := fun a hy u =>
    hy.of_same (execOp_put oi hsi a oj.dst u h3) (wanted_put oi a oj.dst u h3)
  unfold gOp at *
  simp only [hj] at *
  rw [wanted_put oj a oi.dst v h1] at h
  split
  · rename_i hw
    simp only [hw, if_true] at h
    obtain ⟨u, hu, hn⟩ := h
    refine ⟨u, fun X => ?_, keep a hy u, by rw [← Act.put_comm a v u h2]; exact hn⟩
    have := hu X
    unfold at_ at *
    rwa [execOp_put oj hsj a oi.dst v h1] at this
  · rename_i hw
    simp only [hw] at h
    exact ⟨keep a hy _, by rw [← Act.put_comm a v undef h2]; exact h⟩
theorem vAny_first {n i : Nat} {oi : Oper} {v : Value} {L : Array Bool → Act → Prop} (hi : ops[i]? = some oi) (hsel : ∀ (j : Nat) (o : Oper) cs b, ops[j]? = some o → o.op ≠ .select cs b) (hin : i < n)
    (hdone : ∀ listed a, L listed a → ∀ j ∈ Region.ready md ops listed, n ≤ j) :
    ∀ (f : Nat) (listed : Array Bool) (a : Act),
      (∀ j oj, ops[j]? = some oj → j ≠ i → listed.getD j true = false → (∀ e ∈ oj.after, Region.binds md e = true → e.on ≠ i) → oi.apart ops oj = true) →
      i ∈ Region.ready md ops listed → YieldsG P ops w₀ oi v a →
      vAny P md ops w₀ n L f (listed.setIfInBounds i true) (a.put oi.dst v) → vAny P md ops w₀ n L (f + 1) listed a := by
  intro f
  induction f with
  | zero =>
    intro listed a _ hr hy H
    refine ⟨⟨i, hr, hin⟩, fun j hj hjn => ?_⟩
    by_cases hji : j = i
    · subst hji; exact hy.gOp hi H
    · have := hdone _ _ H j (ready_mono hj hji)
      omega
  | succ f ih =>
    intro listed a hfree hr hy H
    refine ⟨⟨i, hr, hin⟩, fun j hj hjn => ?_⟩
    by_cases hji : j = i
    · subst hji; exact hy.gOp hi H
    · have h1 := H.2 j (ready_mono hj hji) hjn
      obtain ⟨hjun, oj, hoj, hall⟩ := mem_ready.1 hj
      have hun := (mem_ready.1 hr).1
      have hnot : ∀ e ∈ oj.after, Region.binds md e = true → e.on ≠ i := fun e he hb heq => by
        have h1 := hall e he hb
        rw [heq, getD_both hun] at h1
        cases h1
      have h2 := gOp_put hoj (hfree j oj hoj hji hjun hnot) (fun cs b => hsel i oi cs b hi) (fun cs b => hsel j oj cs b hoj) hy h1
      have hfree' : ∀ k ok, ops[k]? = some ok → k ≠ i → (listed.setIfInBounds j true).getD k true = false →
          (∀ e ∈ ok.after, Region.binds md e = true → e.on ≠ i) → oi.apart ops ok = true := fun k ok hk hki hun hno => by
        refine hfree k ok hk hki ?_ hno
        by_cases hjk : j = k
        · subst hjk; exact hjun
        · rw [getD_set_ne true hjk] at hun; exact hun
      refine gOp_mono (fun a' h3 => ih (listed.setIfInBounds j true) a' hfree' (ready_mono hr (Ne.symm hji)) h3.1 ?_) h2
      rw [Array.setIfInBounds_comm _ _ hji]
      exact h3.2

/-- The order of the text may be taken: computed. -/
def lexV (md : Region.Mode) (ops : Array Oper) (n : Nat) : List Nat → Array Bool → Bool
  | [], _ => true
  | k :: ks, listed => (Region.ready md ops listed).contains k && decide (k < n) && Region.free md ops listed k && lexV md ops n ks (listed.setIfInBounds k true)
def setAll (listed : Array Bool) (ks : List Nat) : Array Bool := ks.foldl (fun l k => l.setIfInBounds k true) listed
theorem vAny_lex {n : Nat} {Lq : Act → Prop} {Lf : Array Bool} (hsel : Region.noSelect ops = true) (hdone : ∀ j ∈ Region.ready md ops Lf, n ≤ j) :
    ∀ (ks : List Nat) (listed : Array Bool) (a : Act), setAll listed ks = Lf → lexV md ops n ks listed = true → wpG P ops w₀ Lq (ks.map fun k => ops.getD k default) a →
      vAny P md ops w₀ n (fun l a => l = Lf ∧ Lq a) ks.length listed a
  | [], listed, a, hL, _, h => ⟨hL, h⟩
  | k :: ks, listed, a, hL, hB, h => by
    simp only [lexV, Bool.and_eq_true, decide_eq_true_eq] at hB
    obtain ⟨⟨⟨hr, hkn⟩, hf⟩, hB'⟩ := hB
    have hr' : k ∈ Region.ready md ops listed := by simpa using hr
    obtain ⟨_, o, ho, _⟩ := mem_ready.1 hr'
    have hog : ops.getD k default = o := by simp [Array.getD_eq_getD_getElem?, ho]
    have hst : gOp P ops w₀ k (wpG P ops w₀ Lq (ks.map fun k => ops.getD k default)) a := by
      unfold gOp; simp only [ho]
      simp only [List.map_cons, hog] at h
      exact h
    obtain ⟨v, hy, hK⟩ := yieldsG_of_gOp ho hst
    exact vAny_first ho (Region.noSelect_spec hsel) hkn (fun l a hl => by rw [hl.1]; exact hdone) ks.length listed a (Region.free_spec ho hf) hr' hy
      (vAny_lex hsel hdone ks _ _ hL hB' hK)

/-! ### The allocations -/
def putL (d : Nat → Option Tmp) (c : Nat → Bool) (p : Nat → Nat) : List Nat → Act → Act
  | [], a => a
  | i :: is, a => putL d c p is (if c i then a.put (d i) (.pointer (some ⟨p i, 0, none⟩)) else a)
theorem putL_put {d : Nat → Option Tmp} {c : Nat → Bool} {p : Nat → Nat} {x : Option Tmp} {v : Value} : ∀ (is : List Nat) (a : Act), (∀ i ∈ is, ∀ e, d i = some e → x ≠ some e) →
    (putL d c p is a).put x v = putL d c p is (a.put x v)
  | [], _, _ => rfl
  | i :: is, a, h => by
    simp only [putL]
    rw [putL_put is _ (fun j hj => h j (by simp [hj]))]
    congr 1
    split
    · exact Act.put_comm a _ _ (h i (by simp))
    · rfl
theorem putL_congr {d : Nat → Option Tmp} {c c' : Nat → Bool} {p p' : Nat → Nat} : ∀ (is : List Nat) (a : Act), (∀ i ∈ is, c i = c' i ∧ (c i = true → p i = p' i)) → putL d c p is a = putL d c' p' is a
  | [], _, _ => rfl
  | i :: is, a, h => by
    simp only [putL]
    obtain ⟨h1, h2⟩ := h i (by simp)
    rw [putL_congr is _ (fun j hj => h j (by simp [hj])), ← h1]
    congr 1
    split
    · rename_i hc; rw [h2 hc]
    · rfl
theorem putL_set {d : Nat → Option Tmp} {c c' : Nat → Bool} {p p' : Nat → Nat} {i n : Nat} (hc : c i = false) (hc' : c' i = true) (hp : p' i = n) : ∀ (is : List Nat) (a : Act), i ∈ is → is.Nodup →
    (∀ j ∈ is, j ≠ i → c' j = c j ∧ p' j = p j) → (∀ j ∈ is, j ≠ i → ∀ e, d j = some e → d i ≠ some e) →
    (putL d c p is a).put (d i) (.pointer (some ⟨n, 0, none⟩)) = putL d c' p' is a
  | [], _, h, _, _, _ => by cases h
  | j :: is, a, h, hn, hs, hd => by
    simp only [putL]
    have hn' := List.nodup_cons.1 hn
    by_cases hj : j = i
    · subst hj
      rw [hc, hc', hp]
      simp only [if_true, Bool.false_eq_true, if_false]
      rw [putL_put is a (fun k hk => hd k (by simp [hk]) (fun e => hn'.1 (e ▸ hk)))]
      exact putL_congr is _ (fun k hk => by
        have hki : k ≠ j := fun e => hn'.1 (e ▸ hk)
        obtain ⟨h1, h2⟩ := hs k (by simp [hk]) hki
        exact ⟨h1.symm, fun _ => h2.symm⟩)
    · have hi : i ∈ is := by
        rcases List.mem_cons.1 h with h | h
        · exact absurd h.symm hj
        · exact h
      obtain ⟨h1, h2⟩ := hs j (by simp) hj
      rw [putL_set hc hc' hp is _ hi hn'.2 (fun k hk hki => hs k (by simp [hk]) hki) (fun k hk hki => hd k (by simp [hk]) hki), h1, h2]
theorem putL_exec {d : Nat → Option Tmp} {c : Nat → Bool} {p : Nat → Nat} {o : Oper} (hs : ∀ cs b, o.op ≠ .select cs b) : ∀ (is : List Nat) (a : Act), (∀ i ∈ is, ∀ e, d i = some e → e ∉ o.looksAt ops) →
    execOp (putL d c p is a).eval o = execOp a.eval o ∧ Region.wanted o (yielded ops (putL d c p is a).tmps) = Region.wanted o (yielded ops a.tmps)
  | [], _, _ => ⟨rfl, rfl⟩
  | i :: is, a, h => by
    simp only [putL]
    obtain ⟨h1, h2⟩ := putL_exec hs is (if c i then a.put (d i) (.pointer (some ⟨p i, 0, none⟩)) else a) (fun j hj => h j (by simp [hj]))
    rw [h1, h2]
    split
    · exact ⟨execOp_put o hs a _ _ (h i (by simp)), wanted_put o a _ _ (h i (by simp))⟩
    · exact ⟨rfl, rfl⟩

/-- What is asked of the region's shape: computed. -/
def shapeB (md : Region.Mode) (ops : Array Oper) (n : Nat) (Vs As : List Nat) : Bool :=
  Region.noSelect ops && decide (n < ops.size) && Region.sinkB md ops n && Region.chainB md ops n &&
  Region.seqB md ops (ops.size - n) n (setAll (setAll (Array.replicate ops.size false) As) Vs) &&
  lexV md ops n Vs (setAll (Array.replicate ops.size false) As) &&
  As.all (fun i => decide (i < n) && ((ops.getD i default).after.isEmpty && (ops.getD i default).guard.isNone && As.all fun j => i == j || ((ops.getD i default).dst != (ops.getD j default).dst))) &&
  decide As.Nodup && decide (Vs.length + As.length = n) &&
  (List.range n).all (fun j => As.contains j || As.all fun i => (ops.getD i default).apart ops (ops.getD j default))

structure St (P : Program) (md : Region.Mode) (ops : Array Oper) (w₀ : World) (n : Nat) (As : List Nat) (zs : Nat → Array Value) (ts : Nat → TypeId) (listed LA : Array Bool) (p : Nat → Nat) (w : World) : Prop where
  inv : HeadInv md ops n listed
  sizeA : LA.size = ops.size
  rel : ∀ j, LA.getD j false = (listed.getD j false || (As.contains j && decide (j < ops.size)))
  world : ∃ X, w = w₀.ext X
  facts : ∀ i ∈ As, listed.getD i false = true → w.heap[p i]? = some (.cells (zs i) (ts i) (0, 0)) ∧ w₀.heap.size ≤ p i
  apart : ∀ i ∈ As, ∀ j ∈ As, i ≠ j → listed.getD i false = true → listed.getD j false = true → p i ≠ p j

end

def left (c : Nat → Bool) (As : List Nat) : Nat := (As.filter fun i => !c i).length
theorem left_le {c c' : Nat → Bool} (hle : ∀ j, c j = true → c' j = true) : ∀ As : List Nat, left c' As ≤ left c As
  | [] => Nat.le_refl _
  | j :: As => by
    have ih := left_le hle As
    unfold left at *
    cases hj : c j <;> cases hj' : c' j <;> simp only [List.filter_cons, hj, hj', Bool.not_true, Bool.not_false, if_true, Bool.false_eq_true, if_false, List.length_cons] <;>
      first | omega | (have := hle j hj; rw [hj'] at this; cases this)
theorem left_lt {c c' : Nat → Bool} {i : Nat} (hle : ∀ j, c j = true → c' j = true) (h0 : c i = false) (h1 : c' i = true) : ∀ As : List Nat, i ∈ As → left c' As < left c As
  | [], h => by cases h
  | j :: As, h => by
    have hle' := left_le hle As
    rcases List.mem_cons.1 h with h | h
    · subst h
      unfold left at *
      simp only [List.filter_cons, h0, h1, Bool.not_true, Bool.not_false, if_true, Bool.false_eq_true, if_false, List.length_cons]
      omega
    · have ih := left_lt hle h0 h1 As h
      unfold left at *
      cases hj : c j <;> cases hj' : c' j <;> simp only [List.filter_cons, hj, hj', Bool.not_true, Bool.not_false, if_true, Bool.false_eq_true, if_false, List.length_cons] <;>
        first | omega | (have := hle j hj; rw [hj'] at this; cases this)
theorem left_one {c c' : Nat → Bool} {i : Nat} (h0 : c i = false) (h1 : c' i = true) (h : ∀ j, j ≠ i → c' j = c j) : ∀ As : List Nat, i ∈ As → As.Nodup → left c' As + 1 = left c As
  | [], hi, _ => by cases hi
  | j :: As, hi, hn => by
    obtain ⟨hj, hn'⟩ := List.nodup_cons.1 hn
    by_cases hji : j = i
    · have hsame : As.filter (fun k => !c' k) = As.filter fun k => !c k := List.filter_congr fun k hk => by rw [h k (fun e => hj (hji ▸ e ▸ hk))]
      unfold left
      subst hji
      simp only [List.filter_cons, h0, h1, hsame, Bool.not_true, Bool.not_false, if_true, Bool.false_eq_true, if_false, List.length_cons]
    · have hi' : i ∈ As := by
        rcases List.mem_cons.1 hi with e | e
        · exact absurd e.symm hji
        · exact e
      have ih := left_one h0 h1 h As hi' hn'
      unfold left at *
      simp only [List.filter_cons, h j hji]
      cases c j <;> simp <;> omega
theorem left_zero {c : Nat → Bool} {As : List Nat} (h : left c As = 0) : ∀ i ∈ As, c i = true := by
  intro i hi
  cases hc : c i with
  | true => rfl
  | false =>
    have : i ∈ As.filter fun i => !c i := List.mem_filter.2 ⟨hi, by simp [hc]⟩
    unfold left at h
    rw [List.length_eq_zero_iff.1 h] at this
    cases this
theorem left_pos {c : Nat → Bool} {As : List Nat} (h : 0 < left c As) : ∃ i ∈ As, c i = false := by
  unfold left at h
  obtain ⟨i, hi⟩ := List.exists_mem_of_length_pos h
  obtain ⟨h1, h2⟩ := List.mem_filter.1 hi
  exact ⟨i, h1, by simpa using h2⟩

theorem getD_set_iff {l : Array Bool} {i j : Nat} (hi : i < l.size) : (l.setIfInBounds i true).getD j false = (l.getD j false || decide (i = j)) := by
  by_cases h : i = j
  · subst h; simp [hi]
  · rw [getD_set_ne false h]; simp [h]

section
variable {P : Program} {ops : Array Oper} {md : Region.Mode} {w₀ : World}
/-- What an allocation does, whatever the frame. -/
def AllocRuns (P : Program) (ops : Array Oper) (As : List Nat) (zs : Nat → Array Value) (ts : Nat → TypeId) : Prop :=
  ∀ i ∈ As, ∀ (ρ : Operand → Value) (w : World), (execOp ρ (ops.getD i default)).run P w = .ok (.value (.pointer (some ⟨w.heap.size, 0, none⟩))) (w.alloc (.cells (zs i) (ts i)))

theorem wpAny_of_vAny {n g : Nat} {Vs As : List Nat} {zs : Nat → Array Value} {ts : Nat → TypeId} {Lf : Array Bool} {Lq : Act → Prop} {Q : Exit → Act → World → Prop}
    (hsel : Region.noSelect ops = true) (hn : n < ops.size) (hsink : Region.sinkB md ops n = true) (hchain : Region.chainB md ops n = true)
    (hseq : Region.seqB md ops g n Lf = true) (hg : g = ops.size - n)
    (hA : ∀ i ∈ As, i < n ∧ (∀ e ∈ (ops.getD i default).after, False) ∧ (ops.getD i default).guard = none ∧ ∀ j ∈ As, i ≠ j → (ops.getD i default).dst ≠ (ops.getD j default).dst)
    (hnd : As.Nodup)
    (hap : ∀ j, j < n → j ∉ As → ∀ i ∈ As, (ops.getD i default).apart ops (ops.getD j default) = true)
    (hruns : AllocRuns P ops As zs ts)
    (hQ : ∀ (p : Nat → Nat) (aV : Act) (w : World), Lq aV → (∃ X, w = w₀.ext X) → (∀ i ∈ As, w.heap[p i]? = some (.cells (zs i) (ts i) (0, 0)) ∧ w₀.heap.size ≤ p i) → (∀ i ∈ As, ∀ j ∈ As, i ≠ j → p i ≠ p j) →
      wpList P ops Q (ops.toList.drop n) (putL (fun i => (ops.getD i default).dst) (fun _ => true) p As aV) w) :
    ∀ (t f : Nat) (listed LA : Array Bool) (p : Nat → Nat) (aV : Act) (w : World), St P md ops w₀ n As zs ts listed LA p w → f + left (fun i => listed.getD i false) As = t →
      vAny P md ops w₀ n (fun l a => l = Lf ∧ Lq a) f LA aV →
      wpAny P md ops Q (t + g) listed (putL (fun i => (ops.getD i default).dst) (fun i => listed.getD i false) p As aV) w := by
  intro t
  induction t with
  | zero =>
    intro f listed LA p aV w hS ht hv
    have hf : f = 0 := by omega
    subst hf
    have hall := left_zero (c := fun i => listed.getD i false) (As := As) (by omega)
    have hLA : LA = listed := by
      apply Array.ext_getElem?
      intro j
      have h1 := hS.rel j
      have h2 : (listed.getD j false || (As.contains j && decide (j < ops.size))) = listed.getD j false := by
        by_cases hj : j ∈ As
        · rw [hall j hj]; rfl
        · have : As.contains j = false := by simpa using hj
          rw [this]; simp
      rw [h2] at h1
      have hs := hS.sizeA
      have hs' := hS.inv.size
      by_cases hjs : j < ops.size
      · rw [Array.getElem?_eq_getElem (by omega), Array.getElem?_eq_getElem (by omega)]
        simpa [Array.getD_eq_getD_getElem?, Array.getElem?_eq_getElem (show j < LA.size by omega), Array.getElem?_eq_getElem (show j < listed.size by omega)] using h1
      · rw [Array.getElem?_eq_none (by omega), Array.getElem?_eq_none (by omega)]
    obtain ⟨hl, hq⟩ := hv
    subst hLA
    rw [Nat.zero_add]
    have hlist := hQ p aV w hq hS.world (fun i hi => hS.facts i hi (hall i hi)) (fun i hi j hj hij => hS.apart i hi j hj hij (hall i hi) (hall j hj))
    rw [putL_congr As aV (c' := fun i => LA.getD i false) (p' := p) (fun i hi => ⟨(hall i hi).symm, fun _ => rfl⟩)] at hlist
    have := wpAny_of_seq (md := md) (Q' := Q) (ops.toList.drop n) n LA (putL (fun i => (ops.getD i default).dst) (fun i => LA.getD i false) p As aV) w (fun j => by simp [List.getElem?_drop])
      (by rw [show (ops.toList.drop n).length = g by simp [hg]]; rw [hl]; exact hseq) hlist
    rwa [show (ops.toList.drop n).length = g by simp [hg]] at this
  | succ t ih =>
    intro f listed LA p aV w hS ht hv
    rw [show t + 1 + g = (t + g) + 1 by omega]
    have hsz := hS.inv.size
    -- an operation of the head that has not come up yet
    have hhead : ∃ i, i < n ∧ listed.getD i true = false ∧ (i ∈ As → i ∈ Region.ready md ops listed) ∧ (i ∉ As → f ≠ 0 ∧ (left (fun i => listed.getD i false) As = 0 → i ∈ Region.ready md ops listed)) := by
      by_cases hl : 0 < left (fun i => listed.getD i false) As
      · obtain ⟨i, hi, hu⟩ := left_pos hl
        obtain ⟨hin, hafter, _, _⟩ := hA i hi
        have hlt : i < ops.size := by omega
        have hu' := getD_in (by omega) hu
        refine ⟨i, hin, hu', fun _ => mem_ready.2 ⟨hu', ops[i], Array.getElem?_eq_getElem hlt, fun e he => ?_⟩, fun h => absurd hi h⟩
        have : ops.getD i default = ops[i] := by simp [Array.getD_eq_getD_getElem?, Array.getElem?_eq_getElem hlt]
        rw [this] at hafter
        exact (hafter e he).elim
      · have hf : f ≠ 0 := by omega
        obtain ⟨f', rfl⟩ := Nat.exists_eq_succ_of_ne_zero hf
        obtain ⟨i, hi, hin⟩ := hv.1
        have hall := left_zero (c := fun i => listed.getD i false) (As := As) (by omega)
        obtain ⟨h1, o, ho, h3⟩ := mem_ready.1 hi
        have hLA : ∀ j, LA.getD j false = listed.getD j false := fun j => by
          rw [hS.rel j]
          by_cases hj : j ∈ As
          · rw [hall j hj]; rfl
          · have : As.contains j = false := by simpa using hj
            rw [this]; simp
        have hlt : i < ops.size := by omega
        have hu : listed.getD i false = false := by rw [← hLA]; exact getD_both h1
        have hu' := getD_in (by omega) hu
        have hr : i ∈ Region.ready md ops listed := mem_ready.2 ⟨hu', o, ho, fun e he hb => by rw [← hLA]; exact h3 e he hb⟩
        exact ⟨i, hin, hu', fun _ => hr, fun _ => ⟨by omega, fun _ => hr⟩⟩
    obtain ⟨i₀, hi₀n, hi₀u, hi₀A, hi₀V⟩ := hhead
    have htail : ∀ i ∈ Region.ready md ops listed, i < n := fun i hi => by
      rcases Nat.lt_or_ge i n with h | h
      · exact h
      · exact absurd hi (tail_waits hsink hchain hn hS.inv _ i₀ rfl hi₀n hi₀u i h)
    have hne : Region.ready md ops listed ≠ [] := by
      by_cases h : i₀ ∈ As
      · exact List.ne_nil_of_mem (hi₀A h)
      · by_cases hl : 0 < left (fun i => listed.getD i false) As
        · obtain ⟨i, hi, hu⟩ := left_pos hl
          obtain ⟨hin, hafter, _, _⟩ := hA i hi
          have hlt : i < ops.size := by omega
          have hu' := getD_in (by omega) hu
          refine List.ne_nil_of_mem (a := i) (mem_ready.2 ⟨hu', ops[i], Array.getElem?_eq_getElem hlt, fun e he => ?_⟩)
          have : ops.getD i default = ops[i] := by simp [Array.getD_eq_getD_getElem?, Array.getElem?_eq_getElem hlt]
          rw [this] at hafter
          exact (hafter e he).elim
        · exact List.ne_nil_of_mem ((hi₀V h).2 (by omega))
    refine ⟨fun h => absurd h hne, fun i hi => ?_⟩
    have hin := htail i hi
    obtain ⟨hun, o, ho, hdeps⟩ := mem_ready.1 hi
    have hlt : i < ops.size := by omega
    have hunf := getD_both hun
    have hog : ops.getD i default = o := by simp [Array.getD_eq_getD_getElem?, ho]
    by_cases hiA : i ∈ As
    · -- an allocation
      obtain ⟨_, _, hguard, hdst⟩ := hA i hiA
      rw [hog] at hguard
      unfold wpOp
      simp only [ho]
      rw [if_pos (by simp [Region.wanted, hguard])]
      refine .inl ?_
      have hrun := hruns i hiA (putL (fun i => (ops.getD i default).dst) (fun i => listed.getD i false) p As aV).eval w
      rw [hog] at hrun
      unfold Oper.wp
      rw [hrun]
      simp only [Oper.upon]
      have hset : (putL (fun i => (ops.getD i default).dst) (fun i => listed.getD i false) p As aV).put o.dst (.pointer (some ⟨w.heap.size, 0, none⟩)) =
          putL (fun i => (ops.getD i default).dst) (fun j => (listed.setIfInBounds i true).getD j false) (fun j => if j = i then w.heap.size else p j) As aV := by
        rw [← hog]
        refine putL_set (d := fun i => (ops.getD i default).dst) (i := i) hunf (by rw [getD_set_iff (by omega)]; simp) (by simp) As aV hiA hnd (fun j _ hji => ⟨by rw [getD_set_ne false (Ne.symm hji)], by simp [hji]⟩) (fun j hj hji e he => ?_)
        intro h'
        exact hdst j hj (Ne.symm hji) (h'.trans he.symm)
      rw [hset]
      have hmono : ∀ j, listed.getD j false = true → (listed.setIfInBounds i true).getD j false = true := fun j hj => getD_set_true hj
      refine ih f (listed.setIfInBounds i true) LA (fun j => if j = i then w.heap.size else p j) aV (w.alloc (.cells (zs i) (ts i))) ⟨hS.inv.set hi hin, hS.sizeA, fun j => ?_, ?_, fun j hj hlj => ?_, fun j hj k hk hjk hlj hlk => ?_⟩ ?_ hv
      · rw [hS.rel j, getD_set_iff (by omega)]
        by_cases hij : i = j
        · subst hij
          have : As.contains i = true := by simpa using hiA
          rw [this]; simp [hlt]
        · simp [hij]
      · obtain ⟨X, rfl⟩ := hS.world
        refine World.ext_of_below ?_
        exact (World.below_ext w₀ X).alloc (by simp [World.size_ext]) _
      · by_cases hij : j = i
        · subst hij
          simp only [if_true]
          obtain ⟨X, rfl⟩ := hS.world
          refine ⟨?_, by simp [World.size_ext]⟩
          show ((w₀.ext X).heap.push _)[(w₀.ext X).heap.size]? = _
          simp
        · simp only [hij, if_false]
          rw [getD_set_ne false (Ne.symm hij)] at hlj
          obtain ⟨h1, h2⟩ := hS.facts j hj hlj
          refine ⟨?_, h2⟩
          have hlt' : p j < w.heap.size := by
            rcases Nat.lt_or_ge (p j) w.heap.size with h | h
            · exact h
            · rw [Array.getElem?_eq_none h] at h1; cases h1
          rw [Below.heap_alloc _ _ _ hlt']
          exact h1
      · have hlt' : ∀ j ∈ As, j ≠ i → (listed.setIfInBounds i true).getD j false = true → p j < w.heap.size := fun j hj hji hlj => by
          rw [getD_set_ne false (Ne.symm hji)] at hlj
          obtain ⟨h1, _⟩ := hS.facts j hj hlj
          rcases Nat.lt_or_ge (p j) w.heap.size with h | h
          · exact h
          · rw [Array.getElem?_eq_none h] at h1; cases h1
        by_cases hji : j = i
        · have hki : k ≠ i := fun e => hjk (hji.trans e.symm)
          have := hlt' k hk hki hlk
          simp only [hji, hki, if_true, if_false]
          omega
        · by_cases hki : k = i
          · have := hlt' j hj hji hlj
            simp only [hji, hki, if_true, if_false]
            omega
          · simp only [hji, hki, if_false]
            rw [getD_set_ne false (Ne.symm hji)] at hlj
            rw [getD_set_ne false (Ne.symm hki)] at hlk
            exact hS.apart j hj k hk hjk hlj hlk
      · have hone := left_one (c := fun j => listed.getD j false) (c' := fun j => (listed.setIfInBounds i true).getD j false) hunf (by show (listed.setIfInBounds i true).getD i false = true; rw [getD_set_iff (by omega)]; simp)
          (fun j hji => getD_set_ne false (Ne.symm hji)) As hiA hnd
        omega
    · -- an operation that yields
      have hiLA : LA.getD i false = false := by
        rw [hS.rel i, hunf]
        have : As.contains i = false := by simpa using hiA
        rw [this]; rfl
      have hrLA : i ∈ Region.ready md ops LA := mem_ready.2 ⟨getD_in (by rw [hS.sizeA]; omega) hiLA, o, ho, fun e he hb => by rw [hS.rel, hdeps e he hb]; rfl⟩
      have hf : f ≠ 0 := by
        rintro rfl
        obtain ⟨hl, _⟩ := hv
        have := seqB_ready (md := md) (ops := ops) hseq i (hl ▸ hrLA)
        omega
      obtain ⟨f', rfl⟩ := Nat.exists_eq_succ_of_ne_zero hf
      have hgop := hv.2 i hrLA hin
      have hs := fun cs b => Region.noSelect_spec hsel i o cs b ho
      have hapart : ∀ k ∈ As, ∀ e, (ops.getD k default).dst = some e → e ∉ o.looksAt ops ∧ o.dst ≠ some e := fun k hk e he => by
        have := hap i hin hiA k hk
        rw [hog] at this
        obtain ⟨h1, h2, _⟩ := Oper.apart_spec this
        exact ⟨h1 e he, h2 e he⟩
      obtain ⟨hex, hwa⟩ := putL_exec (d := fun i => (ops.getD i default).dst) (c := fun i => listed.getD i false) (p := p) hs As aV (fun k hk e he => (hapart k hk e he).1)
      have hcongr : putL (fun i => (ops.getD i default).dst) (fun i => listed.getD i false) p As = putL (fun i => (ops.getD i default).dst) (fun j => (listed.setIfInBounds i true).getD j false) p As := by
        funext a
        exact putL_congr As a (fun k hk => ⟨by rw [getD_set_ne false (by rintro rfl; exact hiA hk)], fun _ => rfl⟩)
      have hput : ∀ v, (putL (fun i => (ops.getD i default).dst) (fun i => listed.getD i false) p As aV).put o.dst v = putL (fun i => (ops.getD i default).dst) (fun j => (listed.setIfInBounds i true).getD j false) p As (aV.put o.dst v) := fun v => by
        rw [putL_put As aV (fun k hk e he => (hapart k hk e he).2), hcongr]
      have hleft : left (fun j => (listed.setIfInBounds i true).getD j false) As = left (fun j => listed.getD j false) As := by
        unfold left
        congr 1
        refine List.filter_congr fun k hk => ?_
        have := getD_set_ne (listed := listed) (i := i) (j := k) false (by rintro rfl; exact hiA hk)
        show (!(listed.setIfInBounds i true).getD k false) = !listed.getD k false
        rw [this]
      have hnext : ∀ (v : Value) (Y : Ext), vAny P md ops w₀ n (fun l a => l = Lf ∧ Lq a) f' (LA.setIfInBounds i true) (aV.put o.dst v) →
          wpAny P md ops Q (t + g) (listed.setIfInBounds i true) ((putL (fun i => (ops.getD i default).dst) (fun i => listed.getD i false) p As aV).put o.dst v) (w.ext Y) := fun v Y hv' => by
        rw [hput]
        refine ih f' (listed.setIfInBounds i true) (LA.setIfInBounds i true) p (aV.put o.dst v) (w.ext Y) ⟨hS.inv.set hi hin, by simp [hS.sizeA], fun j => ?_, ?_, fun j hj hlj => ?_, fun j hj k hk hjk hlj hlk => ?_⟩ (by omega) hv'
        · have hLs := hS.sizeA
          have hLi : i < LA.size := by omega
          rw [getD_set_iff hLi, getD_set_iff (by omega), hS.rel j]
          cases listed.getD j false <;> simp [Bool.or_comm]
        · obtain ⟨X, rfl⟩ := hS.world
          exact ⟨X.cat Y, by rw [World.ext_ext]⟩
        · rw [getD_set_ne false (by rintro rfl; exact hiA hj)] at hlj
          obtain ⟨h1, h2⟩ := hS.facts j hj hlj
          have hlt' : p j < w.heap.size := by
            rcases Nat.lt_or_ge (p j) w.heap.size with h | h
            · exact h
            · rw [Array.getElem?_eq_none h] at h1; cases h1
          exact ⟨(World.heap_ext hlt').trans h1, h2⟩
        · rw [getD_set_ne false (by rintro rfl; exact hiA hj)] at hlj
          rw [getD_set_ne false (by rintro rfl; exact hiA hk)] at hlk
          exact hS.apart j hj k hk hjk hlj hlk
      have hself : w = w.ext ⟨#[], w.drawn⟩ := by simp [World.ext]
      unfold gOp at hgop
      simp only [ho] at hgop
      unfold wpOp
      simp only [ho]
      rw [hwa]
      by_cases hw : Region.wanted o (yielded ops aV.tmps) = true
      · rw [if_pos hw] at hgop ⊢
        refine .inl ?_
        obtain ⟨v, hat, hv'⟩ := hgop
        obtain ⟨X, hX⟩ := hS.world
        have hat' := hat X
        rw [← hX] at hat'
        unfold at_ at hat'
        rw [← hex] at hat'
        unfold Oper.wp
        generalize (execOp (putL (fun i => (ops.getD i default).dst) (fun i => listed.getD i false) p As aV).eval o).run P w = r at hat'
        cases r with
        | ok nx w' =>
          cases nx <;> simp only [upon] at hat' <;> simp only [Oper.upon]
          case value u =>
            obtain ⟨e1, e2⟩ := hat'
            rw [e1, e2, hself]
            rw [← hself]
            have := hnext v ⟨#[], w.drawn⟩ hv'
            rwa [← hself] at this
          case skip =>
            obtain ⟨e1, e2⟩ := hat'
            rw [e1, ← e2]
            have := hnext v ⟨#[], w.drawn⟩ hv'
            rwa [← hself] at this
          case enter fn args =>
            obtain ⟨e1, hc⟩ := hat'
            rw [e1]
            exact hc.mono fun e w'' ⟨he, Y, hY⟩ => by subst he; rw [hY]; exact hnext v Y hv'
        | halt x w' => simp only [upon] at hat'
      · rw [if_neg hw] at hgop ⊢
        have := hnext undef ⟨#[], w.drawn⟩ hgop
        rwa [← hself] at this

/-- **THE RULE.** n: where the tail begins; Vs, As: the head's operations that yield, its allocations. -/
theorem wp_region_grow {id : Nat} {Q : Exit → Act → World → Prop} {a : Act} {w : World} {l : List Oper} (n : Nat) (Vs As : List Nat) (zs : Nat → Array Value) (ts : Nat → TypeId) (hm : P.follows .mixedOrders = true)
    (hB : shapeB .any l.toArray n Vs As = true) (hruns : AllocRuns P l.toArray As zs ts)
    (h : wpG P l.toArray w (fun a' => ∀ (p : Nat → Nat) (X : Ext), (∀ i ∈ As, (w.ext X).heap[p i]? = some (.cells (zs i) (ts i) (0, 0)) ∧ w.heap.size ≤ p i) → (∀ i ∈ As, ∀ j ∈ As, i ≠ j → p i ≠ p j) →
      wpList P l.toArray Q (l.drop n) (putL (fun i => (l.getD i default).dst) (fun _ => true) p As a') (w.ext X)) (Vs.map fun k => l.getD k default) a) : (Code.region id l.toArray true).wp P Q a w := by
  simp only [shapeB, Bool.and_eq_true, decide_eq_true_eq] at hB
  obtain ⟨⟨⟨⟨⟨⟨⟨⟨⟨hsel, hn⟩, hsink⟩, hchain⟩, hseq⟩, hlex⟩, hA⟩, hnd⟩, hcount⟩, hap⟩ := hB
  have hgd : ∀ k, l.toArray.getD k default = l.getD k default := fun k => by simp [Array.getD_eq_getD_getElem?, List.getD_eq_getElem?_getD]
  have hw₁ : ({ w with drawn := w.drawn + 1 } : World) = w.ext ⟨#[], w.drawn + 1⟩ := by simp [World.ext]
  have hA' : ∀ i ∈ As, i < n ∧ (∀ e ∈ (l.toArray.getD i default).after, False) ∧ (l.toArray.getD i default).guard = none ∧ ∀ j ∈ As, i ≠ j → (l.toArray.getD i default).dst ≠ (l.toArray.getD j default).dst := fun i hi => by
    have := List.all_eq_true.1 hA i hi
    simp only [Bool.and_eq_true, decide_eq_true_eq, Array.isEmpty_iff, Option.isNone_iff_eq_none, List.all_eq_true, Bool.or_eq_true, beq_iff_eq, bne_iff_ne] at this
    obtain ⟨h1, ⟨h2, h3⟩, h4⟩ := this
    refine ⟨h1, fun e he => ?_, h3, fun j hj hij => (h4 j hj).resolve_left hij⟩
    rw [h2] at he
    simp at he
  have hap' : ∀ j, j < n → j ∉ As → ∀ i ∈ As, (l.toArray.getD i default).apart l.toArray (l.toArray.getD j default) = true := fun j hj hjA i hi => by
    have := List.all_eq_true.1 hap j (List.mem_range.2 hj)
    simp only [Bool.or_eq_true, List.all_eq_true] at this
    rcases this with h1 | h1
    · exact absurd (by simpa using h1) hjA
    · exact h1 i hi
  have hdone := seqB_ready (md := .any) (ops := l.toArray) hseq
  have hv := vAny_lex (P := P) (w₀ := w) (md := .any) (Lq := fun a' => ∀ (p : Nat → Nat) (X : Ext), (∀ i ∈ As, (w.ext X).heap[p i]? = some (.cells (zs i) (ts i) (0, 0)) ∧ w.heap.size ≤ p i) → (∀ i ∈ As, ∀ j ∈ As, i ≠ j → p i ≠ p j) →
      wpList P l.toArray Q (l.drop n) (putL (fun i => (l.getD i default).dst) (fun _ => true) p As a') (w.ext X)) hsel hdone Vs (setAll (Array.replicate l.toArray.size false) As) a rfl hlex (by simpa only [hgd] using h)
  refine wp_region_any hm ?_
  have hrep : ∀ j, (Array.replicate l.toArray.size false).getD j false = false := fun j => getD_replicate_false _ _
  have hset : ∀ (ks : List Nat) (A : Array Bool), (setAll A ks).size = A.size ∧ ∀ j, (setAll A ks).getD j false = (A.getD j false || (ks.contains j && decide (j < A.size))) := by
    intro ks
    induction ks with
    | nil => intro A; simp [setAll]
    | cons k ks ih =>
      intro A
      obtain ⟨h1, h2⟩ := ih (A.setIfInBounds k true)
      have hsa : setAll A (k :: ks) = setAll (A.setIfInBounds k true) ks := rfl
      rw [hsa]
      refine ⟨by rw [h1]; simp, fun j => ?_⟩
      rw [h2]
      by_cases hkj : k = j
      · subst hkj
        by_cases hlt : k < A.size
        · rw [getD_set_iff hlt]; simp [hlt]
        · have : A.setIfInBounds k true = A := by simp [Array.setIfInBounds, hlt]
          rw [this]; simp [hlt]
      · rw [getD_set_ne false hkj]
        have : (k :: ks).contains j = ks.contains j := by simp [Ne.symm hkj]
        rw [this]; simp
  have inv0 : HeadInv .any l.toArray n (Array.replicate l.toArray.size false) :=
    ⟨by simp, fun j oj _ hl => (by rw [hrep] at hl; cases hl), fun t _ ht => getD_in (by simpa using ht) (hrep _)⟩
  have hleft : left (fun i => (Array.replicate l.toArray.size false).getD i false) As = As.length := by
    unfold left
    rw [List.filter_eq_self.2 (fun i _ => by simp only [hrep]; rfl)]
  have main := wpAny_of_vAny (P := P) (md := .any) (ops := l.toArray) (w₀ := w) (n := n) (g := l.toArray.size - n) (Vs := Vs) (As := As) (zs := zs) (ts := ts) (Q := Q) (Lf := setAll (setAll (Array.replicate l.toArray.size false) As) Vs)
    (Lq := fun a' => ∀ (p : Nat → Nat) (X : Ext), (∀ i ∈ As, (w.ext X).heap[p i]? = some (.cells (zs i) (ts i) (0, 0)) ∧ w.heap.size ≤ p i) → (∀ i ∈ As, ∀ j ∈ As, i ≠ j → p i ≠ p j) →
      wpList P l.toArray Q (l.drop n) (putL (fun i => (l.getD i default).dst) (fun _ => true) p As a') (w.ext X))
    hsel hn hsink hchain hseq rfl hA' hnd hap' hruns
    (fun p aV w' hq hw hf hd => by
      obtain ⟨X, rfl⟩ := hw
      have := hq p X hf hd
      simpa only [hgd] using this)
    (Vs.length + As.length) Vs.length (Array.replicate l.toArray.size false) (setAll (Array.replicate l.toArray.size false) As) (fun _ => 0) a { w with drawn := w.drawn + 1 }
    ⟨inv0, by rw [(hset _ _).1]; simp, fun j => by rw [(hset _ _).2]; simp, ⟨_, hw₁⟩, fun i _ hl => (by rw [hrep] at hl; cases hl), fun i _ j _ _ hl => (by rw [hrep] at hl; cases hl)⟩
    (by rw [hleft]) hv
  have hputL : putL (fun i => (l.toArray.getD i default).dst) (fun i => (Array.replicate l.toArray.size false).getD i false) (fun _ => 0) As a = a := by
    have : ∀ is : List Nat, putL (fun i => (l.toArray.getD i default).dst) (fun i => (Array.replicate l.toArray.size false).getD i false) (fun _ => 0) is a = a := by
      intro is
      induction is with
      | nil => rfl
      | cons i is ih =>
        show putL _ _ _ is (if (Array.replicate l.toArray.size false).getD i false = true then _ else a) = a
        rw [hrep, if_neg Bool.false_ne_true]
        exact ih
    exact this As
  rw [hputL, show Vs.length + As.length + (l.toArray.size - n) = l.toArray.size by omega] at main
  exact main
end
end Go.Grow
