import Derived.Test.YtghinjnhcepaeaaCh22
/-! What a cut leaves to be told. -/
namespace Go.Proofs.Ytghinjnhcepaeaa
open Go.RowKit
set_option linter.unusedVariables false
set_option linter.unusedSimpArgs false
/-- From a stamp on two chains tell the same. -/
structure Twin (C D : List Ver) (k : Int) : Prop where
  gc : Good C
  gd : Good D
  up : ∀ z : Ver, k < z.k → (z ∈ C ↔ z ∈ D)
  at_ : getV C k = getV D k
theorem Srt.sub {l m : List Ver} (h : Srt l) (hs : m.Sublist l) : Srt m := List.Pairwise.sublist hs h
theorem Good.drop {L : List Ver} (h : Good L) (i : Nat) : Good (L.drop i) :=
  ⟨h.srt.sub (List.drop_sublist _ _), fun x hx => h.ok x (List.mem_of_mem_drop hx), fun x hx => h.right x (List.mem_of_mem_drop hx)⟩
theorem drop_mem {L : List Ver} {i j : Nat} {x : Ver} (hx : L[j]? = some x) (h : i ≤ j) : x ∈ L.drop i := by
  refine List.mem_of_getElem? (i := j - i) ?_
  rw [List.getElem?_drop, show i + (j - i) = j by omega, hx]
theorem drop_idx {L : List Ver} {i : Nat} {x : Ver} (hx : x ∈ L.drop i) : ∃ j, i ≤ j ∧ L[j]? = some x := by
  obtain ⟨j, hj⟩ := List.getElem?_of_mem hx
  rw [List.getElem?_drop] at hj
  exact ⟨i + j, by omega, hj⟩
theorem Twin.cut {C : List Ver} (h : Good C) (k : Int) : Twin C (cutV C k) k := by
  have hcl := cntLe_le C k
  have hci : cutI C k ≤ cntLe C k := by unfold cutI; split <;> omega
  refine ⟨h, h.drop _, fun z hz => ⟨fun hm => ?_, fun hm => List.mem_of_mem_drop hm⟩, ?_⟩
  · obtain ⟨j, hj⟩ := List.getElem?_of_mem hm
    have := (not_congr (cntLe_lt (k := k) h.srt hj)).1 (by omega)
    exact drop_mem hj (by omega)
  · cases hg : getV C k with
    | none =>
      have hcut : cutI C k = cntLe C k := by unfold cutI; rw [hg]; rfl
      have : standV (cutV C k) k = none := stand_none.2 fun z hz => by
        unfold cutV at hz
        rw [hcut] at hz
        obtain ⟨j, hji, hj⟩ := drop_idx hz
        have := (not_congr (cntLe_lt (k := k) h.srt hj)).2 (by omega)
        omega
      unfold getV
      rw [this]
      rfl
    | some x =>
      have hst : standV C k = some x ∧ x.kd ≠ 3 := by
        unfold getV at hg
        obtain ⟨h1, h2⟩ := Option.filter_eq_some_iff.1 hg
        exact ⟨h1, by simpa using h2⟩
      obtain ⟨hm, hxk, hmax⟩ := (stand_iff h.srt).1 hst.1
      have hcut : cutI C k = cntLe C k - 1 := by unfold cutI; rw [hg]; rfl
      have hxd : x ∈ cutV C k := by
        have h1 := hst.1
        unfold standV at h1
        split at h1
        · cases h1
        · exact drop_mem h1 (by omega)
      have : standV (cutV C k) k = some x := (stand_iff (h.drop _).srt).2 ⟨hxd, hxk, fun z hz hzk => hmax z (List.mem_of_mem_drop hz) hzk⟩
      unfold getV
      rw [this, Option.filter_some, if_pos (by simpa using hst.2)]
theorem stand_twin {C D : List Ver} {k : Int} (h : Twin C D k) {y : Int} (hy : k ≤ y) : getV C y = getV D y := by
  by_cases hex : ∃ z, z ∈ C ∧ k < z.k ∧ z.k ≤ y
  · obtain ⟨z, hz, hkz, hzy⟩ := hex
    have hst : standV C y = standV D y := by
      cases hc : standV C y with
      | none => have := stand_none.1 hc z hz; omega
      | some x =>
        obtain ⟨h1, h2, h3⟩ := (stand_iff h.gc.srt).1 hc
        have hzx := h3 z hz hzy
        refine ((stand_iff h.gd.srt).2 ⟨(h.up x (by omega)).1 h1, h2, fun v hv hvy => ?_⟩).symm
        rcases Int.lt_or_le k v.k with h' | h'
        · exact h3 v ((h.up v h').2 hv) hvy
        · omega
    unfold getV
    rw [hst]
  · have e1 : ∀ E : List Ver, (∀ z ∈ E, k < z.k → ¬ z.k ≤ y) → Srt E → standV E y = standV E k := fun E hE hs => by
      cases hc : standV E k with
      | none =>
        refine stand_none.2 fun z hz => ?_
        have h1 := stand_none.1 hc z hz
        have := hE z hz h1
        omega
      | some x =>
        obtain ⟨h1, h2, h3⟩ := (stand_iff hs).1 hc
        refine (stand_iff hs).2 ⟨h1, by omega, fun v hv hvy => ?_⟩
        rcases Int.lt_or_le k v.k with h' | h'
        · exact absurd hvy (hE v hv h')
        · exact h3 v hv h'
    have hC := e1 C (fun z hz hk hzy => hex ⟨z, hz, hk, hzy⟩) h.gc.srt
    have hD := e1 D (fun z hz hk hzy => hex ⟨z, (h.up z hk).2 hz, hk, hzy⟩) h.gd.srt
    have := h.at_
    unfold getV at *
    rw [hC, hD, this]
theorem Twin.has {C D : List Ver} {k : Int} (h : Twin C D k) {x : Ver} (hx : k < x.k) : hasK C x.k = hasK D x.k := by
  rw [Bool.eq_iff_iff]
  simp only [hasK, List.any_eq_true, decide_eq_true_eq]
  constructor
  · rintro ⟨z, hz, e⟩; exact ⟨z, (h.up z (by omega)).1 hz, e⟩
  · rintro ⟨z, hz, e⟩; exact ⟨z, (h.up z (by omega)).2 hz, e⟩
theorem Twin.err {C D : List Ver} {k : Int} (h : Twin C D k) {x : Ver} (hx : k < x.k) : errL C x = errL D x := by
  unfold errL; rw [h.has hx]
theorem Twin.put {C D : List Ver} {k : Int} (h : Twin C D k) {x : Ver} (hx : k < x.k) (hok : x.ok) (he : errL C x = 0) : Twin (putL C x) (putL D x) k := by
  obtain ⟨h1, h2⟩ := errL_zero.1 he
  have h3 : hasK D x.k = false := by rw [← h.has hx, h2]
  refine ⟨h.gc.put hok h1 h2, h.gd.put hok h1 h3, fun z hz => ?_, ?_⟩
  · rw [putL_mem, putL_mem, h.up z hz]
  · have := h.at_
    unfold getV at *
    rw [stand_put h.gc.srt h2, stand_put h.gd.srt h3, if_neg (by omega), if_neg (by omega), this]
end Go.Proofs.Ytghinjnhcepaeaa
