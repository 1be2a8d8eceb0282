import Derived.Test.YtghinjnhcepaeaaFirst
/-! Regions whose operations that must be walked may come in more than one order: a tree of walks. -/
namespace Go.First
open Go.RowKit
set_option linter.unusedVariables false
set_option linter.unusedSimpArgs false
variable {P : Program} {md : Region.Mode} {ops : Array Oper}
/-- What is listed behind a walk. -/
def after (ks : List (Bool × Bool × Nat)) (listed : Array Bool) : Array Bool := ks.foldl (fun l k => l.setIfInBounds k.2.2 true) listed
/-- As orderB, but more may come behind. -/
def orderP (md : Region.Mode) (ops : Array Oper) (Vs Ps : List Nat) : List (Bool × Bool × Nat) → Array Bool → Bool
  | [], listed => true
  | (true, true, k) :: ks, listed => (Region.ready md ops listed).contains k && Vs.contains k && Region.free md ops listed k && orderP md ops Vs Ps ks (listed.setIfInBounds k true)
  | (true, false, k) :: ks, listed => (Region.ready md ops listed).contains k && Ps.contains k && Region.free md ops listed k && orderP md ops Vs Ps ks (listed.setIfInBounds k true)
  | (false, need, k) :: ks, listed => decide (Region.ready md ops listed = [k]) && (need || !needB md ops Vs Ps (listed.setIfInBounds k true)) && orderP md ops Vs Ps ks (listed.setIfInBounds k true)
theorem must_op {Le : World → World → Prop} {Vs Ps : List Nat} {Qf R : Act → World → Prop} {j : Nat} {o : Oper} {b : Bool} {listed : Array Bool} {fuel : Nat} {a : Act} {w : World} (ho : ops[j]? = some o)
    (hn : (b || !needB md ops Vs Ps (listed.setIfInBounds j true)) = true) (hR : ∀ a' w', R a' w' → anyC P md ops Le Vs Ps (only Qf) fuel (listed.setIfInBounds j true) a' w') (h : wpF P ops Le R [(false, b, o)] a w) :
    wpOp P ops (only Qf) j (fun a' w' => (needB md ops Vs Ps (listed.setIfInBounds j true) = true → Le w w') ∧ anyC P md ops Le Vs Ps (only Qf) fuel (listed.setIfInBounds j true) a' w') a w := by
  have hnext : ∀ a' w', ((b = true → Le w w') ∧ R a' w') →
      (needB md ops Vs Ps (listed.setIfInBounds j true) = true → Le w w') ∧ anyC P md ops Le Vs Ps (only Qf) fuel (listed.setIfInBounds j true) a' w' := fun a' w' ⟨h1, h2⟩ => by
    refine ⟨fun hne => h1 ?_, hR _ _ h2⟩
    rw [hne] at hn
    simpa using hn
  simp only [wpF, wpList] at h
  unfold wpOp
  simp only [ho]
  split
  · rename_i hw
    simp only [hw, if_true] at h
    rcases h with h | h
    · refine .inl ?_
      unfold Oper.wp at *
      generalize (execOp a.eval o).run P w = r at *
      cases r with
      | ok n w' =>
        cases n <;> simp only [Oper.upon] at h ⊢ <;>
          first
            | exact hnext _ _ h
            | exact Calls.mono h (fun e w'' he => by cases e <;> first | exact hnext _ _ he | exact he.elim | exact he)
            | exact Rows.mono h (fun _ _ he => hnext _ _ he)
      | halt x w' => cases x <;> simp only [Oper.upon] at h ⊢ <;> first | exact h.elim | exact h
    · obtain ⟨_, _, _, hf⟩ := h; exact hf.elim
  · rename_i hw
    simp only [hw] at h
    exact hnext _ _ h
theorem anyC_part {Le : World → World → Prop} (hrefl : ∀ w, Le w w) (htrans : ∀ w w' w'', Le w w' → Le w' w'' → Le w w'') {Vs Ps : List Nat} {Qf : Act → World → Prop} (hsel : Region.noSelect ops = true) (fuel : Nat) {R : Act → World → Prop} :
    ∀ (ks : List (Bool × Bool × Nat)) (listed : Array Bool) (a : Act) (w : World), listed.size = ops.size → shut md ops listed → orderP md ops Vs Ps ks listed = true →
      ((after ks listed).size = ops.size → shut md ops (after ks listed) → ∀ a w, R a w → anyC P md ops Le Vs Ps (only Qf) fuel (after ks listed) a w) →
      wpF P ops Le R (ks.map fun k => (k.1, k.2.1, ops.getD k.2.2 default)) a w → anyC P md ops Le Vs Ps (only Qf) (fuel + ks.length) listed a w
  | [], listed, a, w, hsz, hs, hB, hR, h => hR hsz hs a w h
  | (true, true, k) :: ks, listed, a, w, hsz, hs, hB, hR, h => by
    simp only [orderP, Bool.and_eq_true] at hB
    obtain ⟨⟨⟨hr, hV⟩, hf⟩, hB'⟩ := hB
    have hr' : k ∈ Region.ready md ops listed := by simpa using hr
    have hV' : k ∈ Vs := by simpa using hV
    obtain ⟨hun, o, ho, _⟩ := mem_ready.1 hr'
    have hlt : k < ops.size := (Array.getElem?_eq_some_iff.1 ho).1
    have hog : ops.getD k default = o := by simp [Array.getD_eq_getD_getElem?, ho]
    have hno := needB_shut hV' hs (getD_both hun)
    simp only [List.map_cons, hog, wpF] at h
    have hst : ∃ v, YieldsC P ops (Le w) o v a ∧ wpF P ops Le R (ks.map fun k => (k.1, k.2.1, ops.getD k.2.2 default)) (a.put o.dst v) w := by
      by_cases hw : Region.wanted o (yielded ops a.tmps) = true
      · simp only [hw, if_true] at h
        obtain ⟨v, h1, h2⟩ := h
        exact ⟨v, .inl ⟨hw, h1⟩, h2⟩
      · simp only [hw] at h
        exact ⟨undef, .inr ⟨by simpa using hw, rfl⟩, h⟩
    obtain ⟨v, hy, hK⟩ := hst
    exact anyC_first hrefl htrans ho hV' (Region.noSelect_spec hsel) (fun _ _ _ h => h) (fuel + ks.length) listed a w (by omega) hno (Region.free_spec ho hf) hr' hy
      (anyC_part hrefl htrans hsel fuel ks _ _ w (by simpa using hsz) (shut_set hs hr') hB' hR hK)
  | (true, false, k) :: ks, listed, a, w, hsz, hs, hB, hR, h => by
    simp only [orderP, Bool.and_eq_true] at hB
    obtain ⟨⟨⟨hr, hV⟩, hf⟩, hB'⟩ := hB
    have hr' : k ∈ Region.ready md ops listed := by simpa using hr
    obtain ⟨hun, o, ho, _⟩ := mem_ready.1 hr'
    have hlt : k < ops.size := (Array.getElem?_eq_some_iff.1 ho).1
    have hog : ops.getD k default = o := by simp [Array.getD_eq_getD_getElem?, ho]
    have hno := unlisted_shut hs (getD_both hun)
    simp only [List.map_cons, hog, wpF] at h
    have hst : ∃ v, YieldsC P ops (fun _ => True) o v a ∧ wpF P ops Le R (ks.map fun k => (k.1, k.2.1, ops.getD k.2.2 default)) (a.put o.dst v) w := by
      by_cases hw : Region.wanted o (yielded ops a.tmps) = true
      · simp only [hw, if_true] at h
        obtain ⟨v, h1, h2⟩ := h
        exact ⟨v, .inl ⟨hw, fun w' _ => h1 w'⟩, h2⟩
      · simp only [hw] at h
        exact ⟨undef, .inr ⟨by simpa using hw, rfl⟩, h⟩
    obtain ⟨v, hy, hK⟩ := hst
    exact anyC_first_pure hrefl ho hV (Region.noSelect_spec hsel) (fun _ _ _ h => h) (fuel + ks.length) listed a w (by omega) hno (Region.free_spec ho hf) hr' hy
      (anyC_part hrefl htrans hsel fuel ks _ _ w (by simpa using hsz) (shut_set hs hr') hB' hR hK)
  | (false, b, k) :: ks, listed, a, w, hsz, hs, hB, hR, h => by
    simp only [orderP, Bool.and_eq_true, decide_eq_true_eq] at hB
    obtain ⟨⟨hr, hn⟩, hB'⟩ := hB
    have hr' : k ∈ Region.ready md ops listed := by rw [hr]; simp
    obtain ⟨hun, o, ho, _⟩ := mem_ready.1 hr'
    have hog : ops.getD k default = o := by simp [Array.getD_eq_getD_getElem?, ho]
    refine ⟨fun h => (by rw [h] at hr; cases hr), fun j hj => ?_⟩
    rw [hr] at hj
    simp only [List.mem_singleton] at hj
    subst hj
    rw [List.map_cons, hog] at h
    exact must_op ho hn (fun a' w' h' => anyC_part hrefl htrans hsel fuel ks _ a' w' (by simpa using hsz) (shut_set hs hr') hB' hR h') h
/-- A tree of walks. -/
inductive Tr where
  | leaf (ks : List (Bool × Bool × Nat))
  | fork (ks : List (Bool × Bool × Nat)) (b : Bool) (k : Nat) (t : Tr) (b' : Bool) (k' : Nat) (t' : Tr)
def Tr.fuel : Tr → Nat
  | .leaf ks => ks.length
  | .fork ks _ _ t _ _ _ => t.fuel + 1 + ks.length
def Tr.okB (md : Region.Mode) (ops : Array Oper) (Vs Ps : List Nat) : Tr → Array Bool → Bool
  | .leaf ks, listed => orderB md ops Vs Ps ks listed
  | .fork ks b k t b' k' t', listed => orderP md ops Vs Ps ks listed && decide (Region.ready md ops (after ks listed) = [k, k']) && (b || !needB md ops Vs Ps ((after ks listed).setIfInBounds k true)) && (b' || !needB md ops Vs Ps ((after ks listed).setIfInBounds k' true))
      && decide (t'.fuel = t.fuel) && t.okB md ops Vs Ps ((after ks listed).setIfInBounds k true) && t'.okB md ops Vs Ps ((after ks listed).setIfInBounds k' true)
/-- Both ways at a fork. -/
def Both (p q : Prop) : Prop := p ∧ q
theorem Both.mk {p q : Prop} (h : p) (h' : q) : Both p q := ⟨h, h'⟩
def wpT (P : Program) (ops : Array Oper) (Le : World → World → Prop) (Q : Act → World → Prop) (at' : Nat → Oper) : Tr → Act → World → Prop
  | .leaf ks, a, w => wpF P ops Le Q (ks.map fun k => (k.1, k.2.1, at' k.2.2)) a w
  | .fork ks b k t b' k' t', a, w => wpF P ops Le (fun a w => Both (wpF P ops Le (wpT P ops Le Q at' t) [(false, b, at' k)] a w) (wpF P ops Le (wpT P ops Le Q at' t') [(false, b', at' k')] a w)) (ks.map fun k => (k.1, k.2.1, at' k.2.2)) a w
theorem anyC_tree {Le : World → World → Prop} (hrefl : ∀ w, Le w w) (htrans : ∀ w w' w'', Le w w' → Le w' w'' → Le w w'') {Vs Ps : List Nat} {Qf : Act → World → Prop} (hsel : Region.noSelect ops = true) :
    ∀ (t : Tr) (listed : Array Bool) (a : Act) (w : World), listed.size = ops.size → shut md ops listed → t.okB md ops Vs Ps listed = true →
      wpT P ops Le Qf (fun k => ops.getD k default) t a w → anyC P md ops Le Vs Ps (only Qf) t.fuel listed a w
  | .leaf ks, listed, a, w, hsz, hs, hB, h => anyC_order hrefl htrans hsel ks listed a w hsz hs hB h
  | .fork ks b k t b' k' t', listed, a, w, hsz, hs, hB, h => by
    simp only [Tr.okB, Bool.and_eq_true, decide_eq_true_eq] at hB
    obtain ⟨⟨⟨⟨⟨⟨hP, hr⟩, hn⟩, hn'⟩, hf⟩, ht⟩, ht'⟩ := hB
    refine anyC_part hrefl htrans hsel (t.fuel + 1) ks listed a w hsz hs hP ?_ h
    intro hsz2 hs2 a1 w1 hb
    obtain ⟨h1, h2⟩ := hb
    have hk : k ∈ Region.ready md ops (after ks listed) := by rw [hr]; simp
    have hk' : k' ∈ Region.ready md ops (after ks listed) := by rw [hr]; simp
    refine ⟨fun h => (by rw [h] at hr; cases hr), fun j hj => ?_⟩
    rw [hr] at hj
    simp only [List.mem_cons, List.not_mem_nil, or_false] at hj
    rcases hj with rfl | rfl
    · obtain ⟨hun, o, ho, _⟩ := mem_ready.1 hk
      simp only [show ops.getD j default = o by simp [Array.getD_eq_getD_getElem?, ho]] at h1
      exact must_op ho (by simpa using hn) (fun a' w' h' => anyC_tree hrefl htrans hsel t _ a' w' (by simpa using hsz2) (shut_set hs2 hk) ht h') h1
    · obtain ⟨hun, o, ho, _⟩ := mem_ready.1 hk'
      simp only [show ops.getD j default = o by simp [Array.getD_eq_getD_getElem?, ho]] at h2
      rw [← hf]
      exact must_op ho (by simpa using hn') (fun a' w' h' => anyC_tree hrefl htrans hsel t' _ a' w' (by simpa using hsz2) (shut_set hs2 hk') ht' h') h2
/-- **THE RULE**, for a tree of walks. -/
theorem wp_region_tree {id : Nat} {Q : Exit → Act → World → Prop} {a : Act} {w : World} {l : List Oper} (Le : World → World → Prop) (hrefl : ∀ w, Le w w) (htrans : ∀ w w' w'', Le w w' → Le w' w'' → Le w w'') (Vs Ps : List Nat) (t : Tr) (hm : P.follows .mixedOrders = true)
    (hB : (Region.noSelect l.toArray && decide (t.fuel = l.length) && t.okB .any l.toArray Vs Ps (Array.replicate l.length false)) = true)
    (h : wpT P l.toArray Le (Q .normal) (fun k => l.getD k default) t a { w with drawn := w.drawn + 1 }) : (Code.region id l.toArray true).wp P Q a w := by
  simp only [Bool.and_eq_true, decide_eq_true_eq] at hB
  obtain ⟨⟨hsel, hlen⟩, hB⟩ := hB
  have hgd : (fun k => l.toArray.getD k default) = (fun k => l.getD k default) := funext fun k => by simp [Array.getD_eq_getD_getElem?, List.getD_eq_getElem?_getD]
  refine Code.wp_mono (Q := only (Q .normal)) (fun e a w q => by cases e <;> first | exact q | exact q.elim) ?_
  refine wp_region_any hm ?_
  have hl : l.toArray.size = l.length := by simp
  have := anyC_tree (P := P) (md := .any) hrefl htrans (Vs := Vs) (Ps := Ps) (Qf := Q .normal) hsel t (Array.replicate l.length false) a { w with drawn := w.drawn + 1 } (by simp)
    (fun k ok _ hl => (by rw [getD_replicate_false] at hl; cases hl)) hB (by rw [hgd]; exact h)
  rw [hlen] at this
  rw [hl]
  exact wpAny_of_anyC _ _ _ _ this
theorem wp_region_tree_ext {P : Program} {id : Nat} {Q : Exit → Act → World → Prop} {a : Act} {w : World} {l : List Oper} (Vs Ps : List Nat) (t : Tr) (hm : P.follows .mixedOrders = true)
    (hB : (Region.noSelect l.toArray && decide (t.fuel = l.length) && t.okB .any l.toArray Vs Ps (Array.replicate l.length false)) = true)
    (h : ∀ X, wpT P l.toArray Grown (Q .normal) (fun k => l.getD k default) t a (w.ext X)) : (Code.region id l.toArray true).wp P Q a w := by
  have hw₁ : ({ w with drawn := w.drawn + 1 } : World) = w.ext ⟨#[], w.drawn + 1⟩ := by simp [World.ext]
  refine wp_region_tree Grown Grown.refl (fun w w' w'' h h' => ?_) Vs Ps t hm hB (hw₁ ▸ h _)
  obtain ⟨X, rfl⟩ := h
  obtain ⟨Y, rfl⟩ := h'
  exact ⟨X.cat Y, World.ext_ext w X Y⟩
end Go.First
