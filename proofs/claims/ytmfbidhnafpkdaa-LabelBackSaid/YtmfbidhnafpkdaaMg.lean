import Derived.Test.YtmfbidhnafpkdaaRot
/-! What the merge of two parts does, in plain words. -/
namespace Go.Proofs.Ytmfbidhnafpkdaa
open Go.RowKit
set_option linter.unusedVariables false
set_option linter.unusedSimpArgs false
def mvL (a k c : Nat) : Nat := if a ≤ c ∧ c < k then c + 1 else if c = k then a else c
theorem mvL_start (a c : Nat) : mvL a a c = c := by unfold mvL; (repeat' split) <;> omega
theorem mvL_step {P Q : List Par} {a k : Nat} (hk : k + 1 < Q.length) (hak : a ≤ k) (h : ∀ c, Q[c]? = P[mvL a k c]?) (c : Nat) : (swp Q k (k + 1))[c]? = P[mvL a (k + 1) c]? := by
  rw [swp_get (by omega) hk, h, h, h]
  have e1 : mvL a k k = a := by unfold mvL; (repeat' split) <;> omega
  have e2 : mvL a k (k + 1) = k + 1 := by unfold mvL; (repeat' split) <;> omega
  rw [e1, e2]
  by_cases h1 : c = k + 1
  · rw [if_pos h1]; congr 1; unfold mvL; (repeat' split) <;> omega
  · rw [if_neg h1]
    by_cases h2 : c = k
    · rw [if_pos h2]; congr 1; unfold mvL; (repeat' split) <;> omega
    · rw [if_neg h2]; congr 1; unfold mvL; (repeat' split) <;> omega
theorem oneL {P Q : List Par} {a b i : Nat} {x : Par} (hx : P[a]? = some x) (hs : SrtS P (a + 1) b) (hi : a + 1 ≤ i) (hib : i ≤ b)
    (h1 : ∀ (c : Nat) (y : Par), a + 1 ≤ c → c < i → P[c]? = some y → leN y x) (h2 : ∀ (c : Nat) (y : Par), i ≤ c → c < b → P[c]? = some y → leN x y)
    (h : ∀ c, Q[c]? = P[mvL a (i - 1) c]?) : SrtS Q a b := fun u v y z hu huv hv hy hz => by
  rw [h] at hy hz
  unfold mvL at hy hz
  by_cases hui : u < i - 1
  · rw [if_pos ⟨hu, hui⟩] at hy
    by_cases hvi : v < i - 1
    · rw [if_pos ⟨by omega, hvi⟩] at hz
      exact hs (u + 1) (v + 1) y z (by omega) (by omega) (by omega) hy hz
    · rw [if_neg (by omega)] at hz
      by_cases hve : v = i - 1
      · rw [if_pos hve, hx] at hz
        cases hz
        exact h1 (u + 1) y (by omega) (by omega) hy
      · rw [if_neg hve] at hz
        exact hs (u + 1) v y z (by omega) (by omega) hv hy hz
  · rw [if_neg (by omega)] at hy
    rw [if_neg (by omega), if_neg (by omega)] at hz
    by_cases hue : u = i - 1
    · rw [if_pos hue, hx] at hy
      cases hy
      exact h2 v z (by omega) hv hz
    · rw [if_neg hue] at hy
      exact hs u v y z (by omega) huv hv hy hz
def mvR (m k c : Nat) : Nat := if c = k then m else if k < c ∧ c ≤ m then c - 1 else c
theorem mvR_start (m c : Nat) : mvR m m c = c := by unfold mvR; (repeat' split) <;> omega
theorem mvR_step {P Q : List Par} {m k : Nat} (hk : 0 < k) (hkm : k ≤ m) (hm : m < Q.length) (h : ∀ c, Q[c]? = P[mvR m k c]?) (c : Nat) : (swp Q k (k - 1))[c]? = P[mvR m (k - 1) c]? := by
  rw [swp_get (by omega) (by omega), h, h, h]
  have e1 : mvR m k k = m := by unfold mvR; (repeat' split) <;> omega
  have e2 : mvR m k (k - 1) = k - 1 := by unfold mvR; (repeat' split) <;> omega
  rw [e1, e2]
  by_cases h1 : c = k - 1
  · rw [if_pos h1]; congr 1; unfold mvR; (repeat' split) <;> omega
  · rw [if_neg h1]
    by_cases h2 : c = k
    · rw [if_pos h2]; congr 1; unfold mvR; (repeat' split) <;> omega
    · rw [if_neg h2]; congr 1; unfold mvR; (repeat' split) <;> omega
theorem oneR {P Q : List Par} {a m i : Nat} {x : Par} (hx : P[m]? = some x) (hs : SrtS P a m) (hi : a ≤ i) (him : i ≤ m)
    (h1 : ∀ (c : Nat) (y : Par), a ≤ c → c < i → P[c]? = some y → leN y x) (h2 : ∀ (c : Nat) (y : Par), i ≤ c → c < m → P[c]? = some y → leN x y)
    (h : ∀ c, Q[c]? = P[mvR m i c]?) : SrtS Q a (m + 1) := fun u v y z hu huv hv hy hz => by
  rw [h] at hy hz
  unfold mvR at hy hz
  by_cases hvi : v < i
  · rw [if_neg (by omega), if_neg (by omega)] at hy hz
    exact hs u v y z hu huv (by omega) hy hz
  · by_cases hve : v = i
    · rw [if_pos hve, hx] at hz
      cases hz
      rw [if_neg (by omega), if_neg (by omega)] at hy
      exact h1 u y hu (by omega) hy
    · rw [if_neg hve, if_pos (by omega)] at hz
      by_cases hui : u < i
      · rw [if_neg (by omega), if_neg (by omega)] at hy
        exact hs u (v - 1) y z hu (by omega) (by omega) hy hz
      · by_cases hue : u = i
        · rw [if_pos hue, hx] at hy
          cases hy
          exact h2 (v - 1) z (by omega) (by omega) hz
        · rw [if_neg hue, if_pos (by omega)] at hy
          exact hs (u - 1) (v - 1) y z (by omega) (by omega) (by omega) hy hz
/-- What the search between the two parts tells. -/
structure Cut (P : List Par) (a m b mid st : Nat) : Prop where
  stm : st ≤ m
  ast : a ≤ st
  lem : st ≤ mid
  mle : m ≤ mid + m - st
  ebl : mid + m - st ≤ b
  /-- what stays on the left is no farther than what stays on the right -/
  lr : ∀ x y, a < st + 1 → mid + m - st < b → a < st → P[st - 1]? = some x → P[mid + m - st]? = some y → leN x y
  rl : ∀ x y, m < mid + m - st → st < m → P[mid + m - st - 1]? = some x → P[st]? = some y → leN x y
theorem Cut.turn {P Q : List Par} {a m b mid st : Nat} (hc : Cut P a m b mid st) (hm1 : a < m) (hmb : m < b) (hbl : b ≤ P.length) (hmid : mid ≤ b)
    (h1 : SrtS P a m) (h2 : SrtS P m b) (hg : ∀ k, Q[k]? = P[src st m (mid + m - st) k]?) :
    SrtS Q a st ∧ SrtS Q st mid ∧ SrtS Q mid (mid + m - st) ∧ SrtS Q (mid + m - st) b ∧
      ∀ (u v : Nat) (x y : Par), a ≤ u → u < mid → mid ≤ v → v < b → Q[u]? = some x → Q[v]? = some y → leN x y := by
  obtain ⟨hsm, has, hle, hme, heb, hlr, hrl⟩ := hc
  have sA : ∀ k, k < st → src st m (mid + m - st) k = k := fun k hk => by unfold src; (repeat' split) <;> omega
  have sB : ∀ k, st ≤ k → k < mid → src st m (mid + m - st) k = k + (m - st) := fun k h1 h2 => by unfold src; (repeat' split) <;> omega
  have sC : ∀ k, mid ≤ k → k < mid + m - st → src st m (mid + m - st) k = k - (mid - st) := fun k h1 h2 => by unfold src; (repeat' split) <;> omega
  have sD : ∀ k, mid + m - st ≤ k → src st m (mid + m - st) k = k := fun k hk => by unfold src; (repeat' split) <;> omega
  refine ⟨fun u v x y hu huv hv hx hy => ?_, fun u v x y hu huv hv hx hy => ?_, fun u v x y hu huv hv hx hy => ?_, fun u v x y hu huv hv hx hy => ?_, fun u v x y hu hum hmv hv hx hy => ?_⟩
  · rw [hg, sA u (by omega)] at hx
    rw [hg, sA v (by omega)] at hy
    exact h1 u v x y hu huv (by omega) hx hy
  · rw [hg, sB u (by omega) (by omega)] at hx
    rw [hg, sB v (by omega) (by omega)] at hy
    exact h2 _ _ x y (by omega) (by omega) (by omega) hx hy
  · rw [hg, sC u (by omega) (by omega)] at hx
    rw [hg, sC v (by omega) (by omega)] at hy
    exact h1 _ _ x y (by omega) (by omega) (by omega) hx hy
  · rw [hg, sD u (by omega)] at hx
    rw [hg, sD v (by omega)] at hy
    exact h2 _ _ x y (by omega) (by omega) (by omega) hx hy
  · have lst : ∀ (s e : Nat) (z t : Par), SrtS P s e → ∀ p q : Nat, s ≤ p → p ≤ q → q < e → P[p]? = some z → P[q]? = some t → leN z t := fun s e z t hS p q h3 h4 h5 hz ht => by
      rcases Nat.lt_or_ge p q with h6 | h6
      · exact hS p q z t h3 h6 h5 hz ht
      · obtain rfl : p = q := by omega
        rw [hz] at ht; cases ht; exact leN.refl _
    rcases Nat.lt_or_ge u st with hus | hus <;> rcases Nat.lt_or_ge v (mid + m - st) with hve | hve
    · rw [hg, sA u hus] at hx
      rw [hg, sC v hmv hve] at hy
      exact lst a m x y h1 _ _ hu (by omega) (by omega) hx hy
    · rw [hg, sA u hus] at hx
      rw [hg, sD v hve] at hy
      obtain ⟨p, hp⟩ : ∃ p, P[st - 1]? = some p := ⟨_, List.getElem?_eq_getElem (by omega)⟩
      obtain ⟨r, hr⟩ : ∃ r, P[mid + m - st]? = some r := ⟨_, List.getElem?_eq_getElem (by omega)⟩
      have e1 := lst a m x p h1 u (st - 1) hu (by omega) (by omega) hx hp
      have e2 := hlr p r (by omega) (by omega) (by omega) hp hr
      have e3 := lst m b r y h2 (mid + m - st) v (by omega) hve hv hr hy
      exact (e1.trans e2).trans e3
    · rw [hg, sB u hus hum] at hx
      rw [hg, sC v hmv hve] at hy
      obtain ⟨p, hp⟩ : ∃ p, P[mid + m - st - 1]? = some p := ⟨_, List.getElem?_eq_getElem (by omega)⟩
      obtain ⟨r, hr⟩ : ∃ r, P[st]? = some r := ⟨_, List.getElem?_eq_getElem (by omega)⟩
      have e1 := lst m b x p h2 _ _ (by omega) (by omega) (by omega) hx hp
      have e2 := hrl p r (by omega) (by omega) hp hr
      have e3 := lst a m r y h1 _ _ (by omega) (by omega) (by omega) hr hy
      exact (e1.trans e2).trans e3
    · rw [hg, sB u hus hum] at hx
      rw [hg, sD v hve] at hy
      exact lst m b x y h2 _ _ (by omega) (by omega) (by omega) hx hy
/-- Two halves in order, the one ahead of the other: in order. -/
theorem halves {Q R S : List Par} {a mid b : Nat} (ham : a ≤ mid) (hmb : mid ≤ b)
    (hc : ∀ (u v : Nat) (x y : Par), a ≤ u → u < mid → mid ≤ v → v < b → Q[u]? = some x → Q[v]? = some y → leN x y)
    (h1 : Seg a mid Q R) (h2 : Seg mid b R S) (s1 : SrtS R a mid) (s2 : SrtS S mid b) : Seg a b Q S ∧ SrtS S a b := by
  refine ⟨(h1.wide (Nat.le_refl _) hmb).trans (h2.wide ham (Nat.le_refl _)), fun u v x y hu huv hv hx hy => ?_⟩
  rcases Nat.lt_or_ge v mid with h | h
  · rw [h2.out u (.inl (by omega))] at hx
    rw [h2.out v (.inl (by omega))] at hy
    exact s1 u v x y hu huv h hx hy
  · rcases Nat.lt_or_ge u mid with h' | h'
    · rw [h2.out u (.inl (by omega))] at hx
      obtain ⟨j, hj1, hj2, hj⟩ := h1.inn u hu h'
      obtain ⟨k, hk1, hk2, hk⟩ := h2.inn v h hv
      rw [hj] at hx
      rw [hk, h1.out k (.inr hk1)] at hy
      exact hc j k x y hj1 hj2 hk1 hk2 hx hy
    · exact s2 u v x y h' huv hv hx hy
end Go.Proofs.Ytmfbidhnafpkdaa
