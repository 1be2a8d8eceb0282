import Derived.Test.YtacnfcolkllagaaDoorKit
import Derived.StillTail
/-! A REGION THAT DRAWS ITS ORDER: operations that yield one value in whatever world of a class are taken first; what is left comes in one order, the world staying in the class. -/
namespace Go.First
open Go.RowKit
set_option linter.unusedVariables false
set_option linter.unusedSimpArgs false
section
variable {P : Program} {ops : Array Oper} {md : Region.Mode} {C : World → Prop} {Q : Exit → Act → World → Prop}

def upon (w : World) (v : Value) : Result Next → Prop
  | .ok (.value u) w' => w' = w ∧ u = v
  | .ok .skip w' => w' = w ∧ v = undef
  | _ => False
def at_ (P : Program) (o : Oper) (a : Act) (w : World) (v : Value) : Prop := upon w v ((execOp a.eval o).run P w)
attribute [go_sem] upon at_

def YieldsC (P : Program) (ops : Array Oper) (C : World → Prop) (o : Oper) (v : Value) (a : Act) : Prop :=
  (Region.wanted o (yielded ops a.tmps) = true ∧ ∀ w, C w → at_ P o a w v) ∨ (Region.wanted o (yielded ops a.tmps) = false ∧ v = undef)
theorem YieldsC.wpOp {i : Nat} {o : Oper} {v : Value} {a : Act} (hi : ops[i]? = some o) (hy : YieldsC P ops C o v a) {K : Act → World → Prop} {w : World} (hC : C w) (h : K (a.put o.dst v) w) : wpOp P ops Q i K a w := by
  unfold Go.wpOp
  simp only [hi]
  rcases hy with ⟨hw, hv⟩ | ⟨hw, rfl⟩
  · simp only [hw, if_true]
    refine .inl ?_
    have h3 := hv w hC
    unfold at_ at h3
    unfold Oper.wp
    generalize (execOp a.eval o).run P w = r at h3
    cases r with
    | ok n w' =>
      cases n <;> simp only [upon] at h3 <;> simp only [Oper.upon]
      case value u => obtain ⟨rfl, rfl⟩ := h3; exact h
      case skip => obtain ⟨rfl, rfl⟩ := h3; exact h
    | halt x w' => simp only [upon] at h3
  · simp only [hw, Bool.false_eq_true, if_false]; exact h
theorem YieldsC.of_same {o : Oper} {v : Value} {a a' : Act} (hy : YieldsC P ops C o v a) (he : execOp a'.eval o = execOp a.eval o)
    (hw : Region.wanted o (yielded ops a'.tmps) = Region.wanted o (yielded ops a.tmps)) : YieldsC P ops C o v a' := by
  unfold YieldsC at_ at *
  rw [he, hw]
  exact hy
theorem wpOp_put {j : Nat} {oi oj : Oper} {v : Value} (hj : ops[j]? = some oj) (hap : oi.apart ops oj = true)
    (hsi : ∀ cs b, oi.op ≠ .select cs b) (hsj : ∀ cs b, oj.op ≠ .select cs b)
    (hQ : ∀ c a w, Q (.panic c) (a.put oi.dst v) w → Q (.panic c) a w) {K : Act → World → Prop} {a : Act} {w : World}
    (hy : YieldsC P ops C oi v a) (h : Go.wpOp P ops Q j K (a.put oi.dst v) w) :
    Go.wpOp P ops Q j (fun a' w' => YieldsC P ops C oi v a' ∧ K (a'.put oi.dst v) w') a w := by
  obtain ⟨h1, h2, h3⟩ := Oper.apart_spec hap
  have keep : ∀ (a : Act), YieldsC P ops C oi v a → ∀ u, YieldsC P ops C oi v (a.put oj.dst u) := fun a hy u =>
    hy.of_same (execOp_put oi hsi a oj.dst u h3) (wanted_put oi a oj.dst u h3)
  have keepD : ∀ d, YieldsC P ops C oi v { a with defers := d :: a.defers } := fun d => hy.of_same rfl rfl
  unfold Go.wpOp at *
  simp only [hj] at *
  rw [wanted_put oj a oi.dst v h1] at h
  split
  · rename_i hw
    simp only [hw, if_true] at h
    rcases h with h | ⟨hasks, hlets⟩
    case inr => exact .inr ⟨by unfold Oper.asks at *; rw [execOp_put oj hsj a oi.dst v h1] at hasks; exact hasks, hlets⟩
    refine .inl ?_
    unfold Oper.wp at *
    rw [execOp_put oj hsj a oi.dst v h1] at h
    generalize (execOp a.eval oj).run P w = r at *
    cases r with
    | ok n w' =>
      cases n <;> simp only [Oper.upon] at h ⊢
      case value u => exact ⟨keep a hy u, by rw [← Act.put_comm a v u h2]; exact h⟩
      case skip => exact ⟨keep a hy _, by rw [← Act.put_comm a v undef h2]; exact h⟩
      case defer d =>
        refine ⟨keep _ (keepD d) _, ?_⟩
        rw [← Act.put_comm _ v undef h2, ← Act.put_defers]
        exact h
      case enter f args =>
        refine Calls.mono h fun e w'' he => ?_
        cases e with
        | returned u => exact ⟨keep a hy u, by rw [← Act.put_comm a v u h2]; exact he⟩
        | panicked c => exact hQ _ _ _ he
        | outgrown => exact he
      case row row args => exact Rows.mono h fun u w'' he => ⟨keep a hy u, by rw [← Act.put_comm a v u h2]; exact he⟩
    | halt x w' =>
      cases x <;> simp only [Oper.upon] at h ⊢
      case panic u => exact hQ _ _ _ h
  · rename_i hw
    simp only [hw] at h
    exact ⟨keep a hy _, by rw [← Act.put_comm a v undef h2]; exact h⟩

/-- A free operation of the list may still come behind what is listed. -/
def needB (md : Region.Mode) (ops : Array Oper) (Vs Ps : List Nat) (listed : Array Bool) : Bool :=
  Vs.any fun i => (List.range ops.size).all fun k => !listed.getD k false || k == i || Ps.contains k || !((ops.getD k default).after.any fun e => Region.binds md e && e.on == i)
def shut (md : Region.Mode) (ops : Array Oper) (listed : Array Bool) : Prop :=
  ∀ k ok, ops[k]? = some ok → listed.getD k false = true → ∀ e ∈ ok.after, Region.binds md e = true → listed.getD e.on false = true
theorem needB_of {Vs Ps : List Nat} {i : Nat} {listed : Array Bool} (hi : i ∈ Vs) (h : ∀ k ok, ops[k]? = some ok → listed.getD k false = true → k ≠ i → ∀ e ∈ ok.after, Region.binds md e = true → e.on ≠ i) : needB md ops Vs Ps listed = true := by
  refine List.any_eq_true.2 ⟨i, hi, List.all_eq_true.2 fun k hk => ?_⟩
  have hk' : k < ops.size := List.mem_range.1 hk
  have hg : ops.getD k default = ops[k] := by simp [Array.getD_eq_getD_getElem?, hk']
  cases hl : listed.getD k false
  · simp
  · by_cases hki : k = i
    · simp [hki]
    · simp only [Bool.not_true, Bool.false_or, Bool.or_eq_true, beq_iff_eq, hki, false_or, Bool.not_eq_true', hg]
      refine .inr ?_
      rw [Bool.eq_false_iff]
      intro ha
      obtain ⟨e, he, hb⟩ := Array.any_eq_true'.1 ha
      simp only [Bool.and_eq_true, beq_iff_eq] at hb
      exact h k _ (by simp [hk']) hl hki e he hb.1 hb.2

theorem needB_pure {Vs Ps : List Nat} {i : Nat} {listed : Array Bool} (hi : Ps.contains i = true) (h : needB md ops Vs Ps listed = true) : needB md ops Vs Ps (listed.setIfInBounds i true) = true := by
  obtain ⟨v, hv, ha⟩ := List.any_eq_true.1 h
  refine List.any_eq_true.2 ⟨v, hv, List.all_eq_true.2 fun k hk => ?_⟩
  have := List.all_eq_true.1 ha k hk
  by_cases hik : i = k
  · subst hik
    rw [hi]
    simp
  · rw [getD_set_ne false hik]
    exact this
/-- Whatever order is picked, each operation moving the world on for as long as it must. -/
def anyC (P : Program) (md : Region.Mode) (ops : Array Oper) (Le : World → World → Prop) (Vs Ps : List Nat) (Q : Exit → Act → World → Prop) : Nat → Array Bool → Act → World → Prop
  | 0, listed, a, w => Region.ready md ops listed = [] ∧ Q .normal a w
  | fuel + 1, listed, a, w => (Region.ready md ops listed = [] → Q .normal a w) ∧ ∀ i ∈ Region.ready md ops listed, wpOp P ops Q i (fun a' w' => (needB md ops Vs Ps (listed.setIfInBounds i true) = true → Le w w') ∧ anyC P md ops Le Vs Ps Q fuel (listed.setIfInBounds i true) a' w') a w
theorem wpAny_of_anyC {Le : World → World → Prop} {Vs Ps : List Nat} : ∀ (fuel : Nat) (listed : Array Bool) (a : Act) (w : World), anyC P md ops Le Vs Ps Q fuel listed a w → wpAny P md ops Q fuel listed a w
  | 0, _, _, _, h => h
  | fuel + 1, _, _, _, h => ⟨h.1, fun i hi => wpOp_mono (fun a' w' h' => wpAny_of_anyC fuel _ a' w' h'.2) (h.2 i hi)⟩
theorem anyC_first {Le : World → World → Prop} (hrefl : ∀ w, Le w w) (htrans : ∀ w w' w'', Le w w' → Le w' w'' → Le w w'') {Vs Ps : List Nat} {i : Nat} {oi : Oper} {v : Value} (hi : ops[i]? = some oi) (hiV : i ∈ Vs) (hsel : ∀ (j : Nat) (o : Oper) cs b, ops[j]? = some o → o.op ≠ .select cs b)
    (hQ : ∀ c a w, Q (.panic c) (a.put oi.dst v) w → Q (.panic c) a w) :
    ∀ (fuel : Nat) (listed : Array Bool) (a : Act) (w : World), i < listed.size →
      (∀ k ok, ops[k]? = some ok → listed.getD k false = true → k ≠ i → ∀ e ∈ ok.after, Region.binds md e = true → e.on ≠ i) →
      (∀ j oj, ops[j]? = some oj → j ≠ i → listed.getD j true = false → (∀ e ∈ oj.after, Region.binds md e = true → e.on ≠ i) → oi.apart ops oj = true) →
      i ∈ Region.ready md ops listed → YieldsC P ops (Le w) oi v a →
      anyC P md ops Le Vs Ps Q fuel (listed.setIfInBounds i true) (a.put oi.dst v) w → anyC P md ops Le Vs Ps Q (fuel + 1) listed a w := by
  intro fuel
  induction fuel with
  | zero =>
    intro listed a w _ _ _ hr hy H
    refine ⟨fun h => (by rw [h] at hr; cases hr), fun j hj => ?_⟩
    by_cases hji : j = i
    · subst hji; exact hy.wpOp hi (hrefl w) ⟨fun _ => hrefl w, H⟩
    · have := ready_mono hj hji
      rw [H.1] at this
      cases this
  | succ fuel ih =>
    intro listed a w hlt hno hfree hr hy H
    refine ⟨fun h => (by rw [h] at hr; cases hr), fun j hj => ?_⟩
    by_cases hji : j = i
    · subst hji; exact hy.wpOp hi (hrefl w) ⟨fun _ => hrefl w, H⟩
    · have h1 := H.2 j (ready_mono hj hji)
      obtain ⟨hjun, oj, hoj, hall⟩ := mem_ready.1 hj
      have hun := (mem_ready.1 hr).1
      have hnot : ∀ e ∈ oj.after, Region.binds md e = true → e.on ≠ i := fun e he hb heq => by
        have h1 := hall e he hb
        rw [heq, getD_both hun] at h1
        cases h1
      have h2 := wpOp_put hoj (hfree j oj hoj hji hjun hnot) (fun cs b => hsel i oi cs b hi) (fun cs b => hsel j oj cs b hoj) hQ hy h1
      have hfree' : ∀ k ok, ops[k]? = some ok → k ≠ i → (listed.setIfInBounds j true).getD k true = false →
          (∀ e ∈ ok.after, Region.binds md e = true → e.on ≠ i) → oi.apart ops ok = true := fun k ok hk hki hun hno => by
        refine hfree k ok hk hki ?_ hno
        by_cases hjk : j = k
        · subst hjk; exact hjun
        · rw [getD_set_ne true hjk] at hun; exact hun
      have hno' : ∀ k ok, ops[k]? = some ok → (listed.setIfInBounds j true).getD k false = true → k ≠ i → ∀ e ∈ ok.after, Region.binds md e = true → e.on ≠ i := fun k ok hk hl hki e he hb => by
        by_cases hjk : j = k
        · subst hjk; rw [hoj] at hk; injection hk with hk; subst hk; exact hnot e he hb
        · rw [getD_set_ne false hjk] at hl; exact hno k ok hk hl hki e he hb
      have hrdy := ready_mono hr (Ne.symm hji)
      refine wpOp_mono (fun a' w' h3 => ?_) h2
      obtain ⟨h3y, h3l, h4⟩ := h3
      rw [Array.setIfInBounds_comm _ _ (Ne.symm hji)] at h4 h3l
      have hle : Le w w' := h3l (needB_of hiV fun k ok hk hl hki => by
        rw [getD_set_ne false (Ne.symm hki)] at hl
        exact hno' k ok hk hl hki)
      exact ⟨fun _ => hle, ih (listed.setIfInBounds j true) a' w' (by simpa using hlt) hno' hfree' hrdy
        (by rcases h3y with ⟨hw, hv⟩ | ⟨hw, rfl⟩
            · exact .inl ⟨hw, fun w'' h'' => hv w'' (htrans _ _ _ hle h'')⟩
            · exact .inr ⟨hw, rfl⟩) h4⟩

/-- .. of an operation that does not look at the world at all. -/
theorem anyC_first_pure {Le : World → World → Prop} (hrefl : ∀ w, Le w w) {Vs Ps : List Nat} {i : Nat} {oi : Oper} {v : Value} (hi : ops[i]? = some oi) (hiP : Ps.contains i = true) (hsel : ∀ (j : Nat) (o : Oper) cs b, ops[j]? = some o → o.op ≠ .select cs b)
    (hQ : ∀ c a w, Q (.panic c) (a.put oi.dst v) w → Q (.panic c) a w) :
    ∀ (fuel : Nat) (listed : Array Bool) (a : Act) (w : World), i < listed.size →
      (∀ k ok, ops[k]? = some ok → listed.getD k false = true → k ≠ i → ∀ e ∈ ok.after, Region.binds md e = true → e.on ≠ i) →
      (∀ j oj, ops[j]? = some oj → j ≠ i → listed.getD j true = false → (∀ e ∈ oj.after, Region.binds md e = true → e.on ≠ i) → oi.apart ops oj = true) →
      i ∈ Region.ready md ops listed → YieldsC P ops (fun _ => True) oi v a →
      anyC P md ops Le Vs Ps Q fuel (listed.setIfInBounds i true) (a.put oi.dst v) w → anyC P md ops Le Vs Ps Q (fuel + 1) listed a w := by
  intro fuel
  induction fuel with
  | zero =>
    intro listed a w _ _ _ hr hy H
    refine ⟨fun h => (by rw [h] at hr; cases hr), fun j hj => ?_⟩
    by_cases hji : j = i
    · subst hji; exact hy.wpOp hi trivial ⟨fun _ => hrefl w, H⟩
    · have := ready_mono hj hji
      rw [H.1] at this
      cases this
  | succ fuel ih =>
    intro listed a w hlt hno hfree hr hy H
    refine ⟨fun h => (by rw [h] at hr; cases hr), fun j hj => ?_⟩
    by_cases hji : j = i
    · subst hji; exact hy.wpOp hi trivial ⟨fun _ => hrefl w, H⟩
    · have h1 := H.2 j (ready_mono hj hji)
      obtain ⟨hjun, oj, hoj, hall⟩ := mem_ready.1 hj
      have hun := (mem_ready.1 hr).1
      have hnot : ∀ e ∈ oj.after, Region.binds md e = true → e.on ≠ i := fun e he hb heq => by
        have h1 := hall e he hb
        rw [heq, getD_both hun] at h1
        cases h1
      have h2 := wpOp_put hoj (hfree j oj hoj hji hjun hnot) (fun cs b => hsel i oi cs b hi) (fun cs b => hsel j oj cs b hoj) hQ hy h1
      have hfree' : ∀ k ok, ops[k]? = some ok → k ≠ i → (listed.setIfInBounds j true).getD k true = false →
          (∀ e ∈ ok.after, Region.binds md e = true → e.on ≠ i) → oi.apart ops ok = true := fun k ok hk hki hun hno => by
        refine hfree k ok hk hki ?_ hno
        by_cases hjk : j = k
        · subst hjk; exact hjun
        · rw [getD_set_ne true hjk] at hun; exact hun
      have hno' : ∀ k ok, ops[k]? = some ok → (listed.setIfInBounds j true).getD k false = true → k ≠ i → ∀ e ∈ ok.after, Region.binds md e = true → e.on ≠ i := fun k ok hk hl hki e he hb => by
        by_cases hjk : j = k
        · subst hjk; rw [hoj] at hk; injection hk with hk; subst hk; exact hnot e he hb
        · rw [getD_set_ne false hjk] at hl; exact hno k ok hk hl hki e he hb
      have hrdy := ready_mono hr (Ne.symm hji)
      refine wpOp_mono (fun a' w' h3 => ?_) h2
      obtain ⟨h3y, h3l, h4⟩ := h3
      rw [Array.setIfInBounds_comm _ _ (Ne.symm hji)] at h4 h3l
      exact ⟨fun hne => h3l (by
        rw [← Array.setIfInBounds_comm _ _ (Ne.symm hji)]
        rw [Array.setIfInBounds_comm _ _ (Ne.symm hji)]
        exact needB_pure hiP hne), ih (listed.setIfInBounds j true) a' w' (by simpa using hlt) hno' hfree' hrdy h3y h4⟩

/-- The exits: only the plain one. -/
def only (Q : Act → World → Prop) : Exit → Act → World → Prop
  | .normal, a, w => Q a w
  | _, _, _ => False

/-- The walk: (free, the world is asked behind it, operation). -/
def wpF (P : Program) (ops : Array Oper) (Le : World → World → Prop) (Q : Act → World → Prop) : List (Bool × Bool × Oper) → Act → World → Prop
  | [], a, w => Q a w
  | (true, true, o) :: rest, a, w => if Region.wanted o (yielded ops a.tmps) then ∃ v, (∀ w', Le w w' → at_ P o a w' v) ∧ wpF P ops Le Q rest (a.put o.dst v) w else wpF P ops Le Q rest (a.put o.dst undef) w
  | (true, false, o) :: rest, a, w => if Region.wanted o (yielded ops a.tmps) then ∃ v, (∀ w', at_ P o a w' v) ∧ wpF P ops Le Q rest (a.put o.dst v) w else wpF P ops Le Q rest (a.put o.dst undef) w
  | (false, need, o) :: rest, a, w => wpList P ops (only fun a' w' => (need = true → Le w w') ∧ wpF P ops Le Q rest a' w') [o] a w
section
variable {Le : World → World → Prop}
theorem wpF_nil {Q : Act → World → Prop} {a : Act} {w : World} (h : Q a w) : wpF P ops Le Q [] a w := h
theorem wpF_pure {Q : Act → World → Prop} {a : Act} {w : World} {o : Oper} {rest : List (Bool × Bool × Oper)}
    (h : ∀ K : Act → World → Prop, (∀ a w, wpF P ops Le Q rest a w → K a w) → if Region.wanted o (yielded ops a.tmps) then ∃ v, (∀ w', at_ P o a w' v) ∧ K (a.put o.dst v) w else K (a.put o.dst undef) w) : wpF P ops Le Q ((true, false, o) :: rest) a w :=
  h _ (fun _ _ h => h)
theorem wpF_free {Q : Act → World → Prop} {a : Act} {w : World} {o : Oper} {rest : List (Bool × Bool × Oper)}
    (h : ∀ K : Act → World → Prop, (∀ a w, wpF P ops Le Q rest a w → K a w) → if Region.wanted o (yielded ops a.tmps) then ∃ v, (∀ w', Le w w' → at_ P o a w' v) ∧ K (a.put o.dst v) w else K (a.put o.dst undef) w) : wpF P ops Le Q ((true, true, o) :: rest) a w :=
  h _ (fun _ _ h => h)
theorem wpF_must {Q : Act → World → Prop} {a : Act} {w : World} {o : Oper} {b : Bool} {rest : List (Bool × Bool × Oper)}
    (h : ∀ K : Act → World → Prop, (∀ a w', (b = true → Le w w') → wpF P ops Le Q rest a w' → K a w') → wpList P ops (only K) [o] a w) : wpF P ops Le Q ((false, b, o) :: rest) a w :=
  h _ (fun _ _ h1 h2 => ⟨h1, h2⟩)
end

/-- The order may be taken: computed. -/
def orderB (md : Region.Mode) (ops : Array Oper) (Vs Ps : List Nat) : List (Bool × Bool × Nat) → Array Bool → Bool
  | [], listed => (Region.ready md ops listed).isEmpty
  | (true, true, k) :: ks, listed => (Region.ready md ops listed).contains k && Vs.contains k && Region.free md ops listed k && orderB md ops Vs Ps ks (listed.setIfInBounds k true)
  | (true, false, k) :: ks, listed => (Region.ready md ops listed).contains k && Ps.contains k && Region.free md ops listed k && orderB md ops Vs Ps ks (listed.setIfInBounds k true)
  | (false, need, k) :: ks, listed => decide (Region.ready md ops listed = [k]) && (need || !needB md ops Vs Ps (listed.setIfInBounds k true)) && orderB md ops Vs Ps ks (listed.setIfInBounds k true)

theorem unlisted_shut {i : Nat} {listed : Array Bool} (hs : shut md ops listed) (hun : listed.getD i false = false) :
    ∀ k ok, ops[k]? = some ok → listed.getD k false = true → k ≠ i → ∀ e ∈ ok.after, Region.binds md e = true → e.on ≠ i := fun k ok hk hl hki e he hb heq => by
  have := hs k ok hk hl e he hb
  rw [heq, hun] at this
  cases this
theorem needB_shut {Vs : List Nat} {i : Nat} {listed : Array Bool} (hi : i ∈ Vs) (hs : shut md ops listed) (hun : listed.getD i false = false) :
    ∀ k ok, ops[k]? = some ok → listed.getD k false = true → k ≠ i → ∀ e ∈ ok.after, Region.binds md e = true → e.on ≠ i := fun k ok hk hl hki e he hb heq => by
  have := hs k ok hk hl e he hb
  rw [heq, hun] at this
  cases this
theorem shut_set {listed : Array Bool} {i : Nat} (hs : shut md ops listed) (hr : i ∈ Region.ready md ops listed) : shut md ops (listed.setIfInBounds i true) := fun k ok hk hl e he hb => by
  obtain ⟨_, o, ho, hall⟩ := mem_ready.1 hr
  by_cases hik : i = k
  · subst hik
    rw [ho] at hk; injection hk with hk; subst hk
    exact getD_set_true (hall e he hb)
  · rw [getD_set_ne false hik] at hl
    exact getD_set_true (hs k ok hk hl e he hb)
theorem anyC_order {Le : World → World → Prop} (hrefl : ∀ w, Le w w) (htrans : ∀ w w' w'', Le w w' → Le w' w'' → Le w w'') {Vs Ps : List Nat} {Qf : Act → World → Prop} (hsel : Region.noSelect ops = true) :
    ∀ (ks : List (Bool × Bool × Nat)) (listed : Array Bool) (a : Act) (w : World), listed.size = ops.size → shut md ops listed → orderB md ops Vs Ps ks listed = true →
      wpF P ops Le Qf (ks.map fun k => (k.1, k.2.1, ops.getD k.2.2 default)) a w → anyC P md ops Le Vs Ps (only Qf) ks.length listed a w
  | [], listed, a, w, _, _, hB, h => ⟨by simpa [orderB] using hB, h⟩
  | (true, true, k) :: ks, listed, a, w, hsz, hs, hB, h => by
    simp only [orderB, Bool.and_eq_true] at hB
    obtain ⟨⟨⟨hr, hV⟩, hf⟩, hB'⟩ := hB
    have hr' : k ∈ Region.ready md ops listed := by simpa using hr
    have hV' : k ∈ Vs := by simpa using hV
    obtain ⟨hun, o, ho, _⟩ := mem_ready.1 hr'
    have hlt : k < ops.size := (Array.getElem?_eq_some_iff.1 ho).1
    have hog : ops.getD k default = o := by simp [Array.getD_eq_getD_getElem?, ho]
    have hno := needB_shut hV' hs (getD_both hun)
    simp only [List.map_cons, hog, wpF] at h
    have hst : ∃ v, YieldsC P ops (Le w) o v a ∧ wpF P ops Le Qf (ks.map fun k => (k.1, k.2.1, ops.getD k.2.2 default)) (a.put o.dst v) w := by
      by_cases hw : Region.wanted o (yielded ops a.tmps) = true
      · simp only [hw, if_true] at h
        obtain ⟨v, h1, h2⟩ := h
        exact ⟨v, .inl ⟨hw, h1⟩, h2⟩
      · simp only [hw] at h
        exact ⟨undef, .inr ⟨by simpa using hw, rfl⟩, h⟩
    obtain ⟨v, hy, hK⟩ := hst
    exact anyC_first hrefl htrans ho hV' (Region.noSelect_spec hsel) (fun _ _ _ h => h) ks.length listed a w (by omega) hno (Region.free_spec ho hf) hr' hy
      (anyC_order hrefl htrans hsel ks _ _ w (by simpa using hsz) (shut_set hs hr') hB' hK)
  | (true, false, k) :: ks, listed, a, w, hsz, hs, hB, h => by
    simp only [orderB, Bool.and_eq_true] at hB
    obtain ⟨⟨⟨hr, hV⟩, hf⟩, hB'⟩ := hB
    have hr' : k ∈ Region.ready md ops listed := by simpa using hr
    obtain ⟨hun, o, ho, _⟩ := mem_ready.1 hr'
    have hlt : k < ops.size := (Array.getElem?_eq_some_iff.1 ho).1
    have hog : ops.getD k default = o := by simp [Array.getD_eq_getD_getElem?, ho]
    have hno := unlisted_shut hs (getD_both hun)
    simp only [List.map_cons, hog, wpF] at h
    have hst : ∃ v, YieldsC P ops (fun _ => True) o v a ∧ wpF P ops Le Qf (ks.map fun k => (k.1, k.2.1, ops.getD k.2.2 default)) (a.put o.dst v) w := by
      by_cases hw : Region.wanted o (yielded ops a.tmps) = true
      · simp only [hw, if_true] at h
        obtain ⟨v, h1, h2⟩ := h
        exact ⟨v, .inl ⟨hw, fun w' _ => h1 w'⟩, h2⟩
      · simp only [hw] at h
        exact ⟨undef, .inr ⟨by simpa using hw, rfl⟩, h⟩
    obtain ⟨v, hy, hK⟩ := hst
    exact anyC_first_pure hrefl ho hV (Region.noSelect_spec hsel) (fun _ _ _ h => h) ks.length listed a w (by omega) hno (Region.free_spec ho hf) hr' hy
      (anyC_order hrefl htrans hsel ks _ _ w (by simpa using hsz) (shut_set hs hr') hB' hK)
  | (false, b, k) :: ks, listed, a, w, hsz, hs, hB, h => by
    simp only [orderB, Bool.and_eq_true, decide_eq_true_eq] at hB
    obtain ⟨⟨hr, hn⟩, hB'⟩ := hB
    have hr' : k ∈ Region.ready md ops listed := by rw [hr]; simp
    obtain ⟨hun, o, ho, _⟩ := mem_ready.1 hr'
    have hog : ops.getD k default = o := by simp [Array.getD_eq_getD_getElem?, ho]
    refine ⟨fun h => (by rw [h] at hr; cases hr), fun j hj => ?_⟩
    rw [hr] at hj
    simp only [List.mem_singleton] at hj
    subst hj
    have hnext : ∀ a' w', ((b = true → Le w w') ∧ wpF P ops Le Qf (ks.map fun k => (k.1, k.2.1, ops.getD k.2.2 default)) a' w') →
        (needB md ops Vs Ps (listed.setIfInBounds j true) = true → Le w w') ∧ anyC P md ops Le Vs Ps (only Qf) ks.length (listed.setIfInBounds j true) a' w' := fun a' w' ⟨h1, h2⟩ => by
      refine ⟨fun hne => h1 ?_, anyC_order hrefl htrans hsel ks _ a' w' (by simpa using hsz) (shut_set hs hr') hB' h2⟩
      rw [hne] at hn
      simpa using hn
    simp only [List.map_cons, hog, wpF, wpList] at h
    unfold wpOp
    simp only [ho]
    split
    · rename_i hw
      simp only [hw, if_true] at h
      rcases h with h | h
      · refine .inl ?_
        unfold Oper.wp at *
        generalize (execOp a.eval o).run P w = r at *
        cases r with
        | ok n w' =>
          cases n <;> simp only [Oper.upon] at h ⊢ <;>
            first
              | exact hnext _ _ h
              | exact Calls.mono h (fun e w'' he => by cases e <;> first | exact hnext _ _ he | exact he.elim | exact he)
              | exact Rows.mono h (fun _ _ he => hnext _ _ he)
        | halt x w' => cases x <;> simp only [Oper.upon] at h ⊢ <;> first | exact h.elim | exact h
      · obtain ⟨_, _, _, hf⟩ := h; exact hf.elim
    · rename_i hw
      simp only [hw] at h
      exact hnext _ _ h

/-- **THE RULE.** Le: what an operation may do to the world; Vs: the free operations; ks: the order that is walked: (free, the world is asked behind it, which). -/
theorem wp_region_first {id : Nat} {Q : Exit → Act → World → Prop} {a : Act} {w : World} {l : List Oper} (Le : World → World → Prop) (hrefl : ∀ w, Le w w) (htrans : ∀ w w' w'', Le w w' → Le w' w'' → Le w w'') (Vs Ps : List Nat) (ks : List (Bool × Bool × Nat)) (hm : P.follows .mixedOrders = true)
    (hB : (Region.noSelect l.toArray && decide (ks.length = l.length) && orderB .any l.toArray Vs Ps ks (Array.replicate l.length false)) = true)
    (h : wpF P l.toArray Le (Q .normal) (ks.map fun k => (k.1, k.2.1, l.getD k.2.2 default)) a { w with drawn := w.drawn + 1 }) : (Code.region id l.toArray true).wp P Q a w := by
  simp only [Bool.and_eq_true, decide_eq_true_eq] at hB
  obtain ⟨⟨hsel, hlen⟩, hB⟩ := hB
  have hgd : ∀ k, l.toArray.getD k default = l.getD k default := fun k => by simp [Array.getD_eq_getD_getElem?, List.getD_eq_getElem?_getD]
  refine Code.wp_mono (Q := only (Q .normal)) (fun e a w q => by cases e <;> first | exact q | exact q.elim) ?_
  refine wp_region_any hm ?_
  have hl : l.toArray.size = l.length := by simp
  have := anyC_order (P := P) (md := .any) hrefl htrans (Vs := Vs) (Ps := Ps) (Qf := Q .normal) hsel ks (Array.replicate l.length false) a { w with drawn := w.drawn + 1 } (by simp)
    (fun k ok _ hl => (by rw [getD_replicate_false] at hl; cases hl)) hB (by simpa only [hgd] using h)
  rw [hlen] at this
  rw [hl]
  exact wpAny_of_anyC _ _ _ _ this
/-- 'Grown from': the worlds of calls that make new memory alone. -/
def Grown (w w' : World) : Prop := ∃ X : Ext, w' = w.ext X
theorem Grown.refl (w : World) : Grown w w := ⟨⟨#[], w.drawn⟩, by simp [World.ext]⟩
theorem Grown.ext (w : World) (X : Ext) : Grown w (w.ext X) := ⟨X, rfl⟩
theorem Grown.cat (w : World) (X Y : Ext) : Grown (w.ext X) (w.ext (X.cat Y)) := ⟨Y, (World.ext_ext w X Y).symm⟩
theorem grown_all {w : World} {p : World → Prop} : (∀ w', Grown w w' → p w') ↔ ∀ X : Ext, p (w.ext X) := ⟨fun h X => h _ ⟨X, rfl⟩, fun h w' ⟨X, e⟩ => e ▸ h X⟩
/-- .. the worlds that have grown from the region's. -/
theorem wp_region_first_ext {id : Nat} {Q : Exit → Act → World → Prop} {a : Act} {w : World} {l : List Oper} (Vs Ps : List Nat) (ks : List (Bool × Bool × Nat)) (hm : P.follows .mixedOrders = true)
    (hB : (Region.noSelect l.toArray && decide (ks.length = l.length) && orderB .any l.toArray Vs Ps ks (Array.replicate l.length false)) = true)
    (h : ∀ X, wpF P l.toArray Grown (Q .normal) (ks.map fun k => (k.1, k.2.1, l.getD k.2.2 default)) a (w.ext X)) : (Code.region id l.toArray true).wp P Q a w := by
  have hw₁ : ({ w with drawn := w.drawn + 1 } : World) = w.ext ⟨#[], w.drawn + 1⟩ := by simp [World.ext]
  exact wp_region_first _ Grown.refl (fun w w' w'' ⟨X, hX⟩ ⟨Y, hY⟩ => ⟨X.cat Y, by rw [hY, hX, World.ext_ext]⟩) Vs Ps ks hm hB (hw₁ ▸ h _)
attribute [go_sem] only grown_all
end
end Go.First
