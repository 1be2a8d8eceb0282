import Derived.Test.YtghinjnhcepaeaaCh19
/-! What stands at a stamp; the law on the model. -/
namespace Go.Proofs.Ytghinjnhcepaeaa
open Go.RowKit
set_option linter.unusedVariables false
set_option linter.unusedSimpArgs false
theorem cntLe_lt {l : List Ver} {k : Int} {j : Nat} {x : Ver} (hs : Srt l) (hx : l[j]? = some x) : (x.k ≤ k ↔ j < cntLe l k) := by
  have e : cntLe l k = cntK l (k + 1) := by
    unfold cntLe cntK
    apply List.countP_congr
    intro x hx
    simp; omega
  rw [e, ← cntK_lt hs hx]
  omega
theorem Srt.idx {l : List Ver} (hs : Srt l) {i j : Nat} {x y : Ver} (hx : l[i]? = some x) (hy : l[j]? = some y) (h : x.k = y.k) : i = j := by
  rcases Nat.lt_trichotomy i j with h' | h' | h'
  · have := hs.lt h' hx hy; omega
  · exact h'
  · have := hs.lt h' hy hx; omega
theorem stand_iff {L : List Ver} {k : Int} {y : Ver} (hs : Srt L) : standV L k = some y ↔ y ∈ L ∧ y.k ≤ k ∧ ∀ z ∈ L, z.k ≤ k → z.k ≤ y.k := by
  unfold standV
  have hcl := cntLe_le L k
  constructor
  · intro h
    split at h
    · cases h
    · rename_i hc
      refine ⟨List.mem_of_getElem? h, (cntLe_lt hs h).2 (by omega), fun z hz hzk => ?_⟩
      obtain ⟨j, hj⟩ := List.getElem?_of_mem hz
      have h1 := (cntLe_lt hs hj).1 hzk
      rcases Nat.lt_or_ge j (cntLe L k - 1) with h2 | h2
      · have := hs.lt h2 hj h; omega
      · obtain rfl : j = cntLe L k - 1 := by omega
        rw [hj] at h; cases h; omega
  · rintro ⟨hy, hyk, hmax⟩
    obtain ⟨j, hj⟩ := List.getElem?_of_mem hy
    have h1 := (cntLe_lt hs hj).1 hyk
    rw [if_neg (by omega)]
    have hg : L[cntLe L k - 1]? = some (L[cntLe L k - 1]'(by omega)) := List.getElem?_eq_getElem (by omega)
    generalize L[cntLe L k - 1]'(by omega) = z at hg
    have hz := (cntLe_lt (k := k) hs hg).2 (by omega)
    have h2 := hmax z (List.mem_of_getElem? hg) hz
    have h3 : cntLe L k - 1 = j := by
      rcases Nat.lt_or_ge j (cntLe L k - 1) with h' | h'
      · have := hs.lt h' hj hg; omega
      · omega
    rw [h3, hj]
theorem stand_none {L : List Ver} {k : Int} : standV L k = none ↔ ∀ z ∈ L, k < z.k := by
  unfold standV
  have hcl := cntLe_le L k
  constructor
  · intro h
    split at h
    · rename_i hc
      intro z hz
      have := List.countP_eq_zero.1 hc z hz
      simpa using this
    · rw [List.getElem?_eq_none_iff] at h; omega
  · intro h
    rw [if_pos]
    exact List.countP_eq_zero.2 fun z hz => by simpa using h z hz
theorem stand_put {L : List Ver} {x : Ver} {k : Int} (hs : Srt L) (h : hasK L x.k = false) :
    standV (putL L x) k = if x.k ≤ k ∧ (∀ y, standV L k = some y → y.k < x.k) then some x else standV L k := by
  have hs' := putL_srt hs h
  split
  · rename_i hc
    refine (stand_iff hs').2 ⟨putL_mem.2 (.inl rfl), hc.1, fun z hz hzk => ?_⟩
    rcases putL_mem.1 hz with rfl | hz
    · omega
    · cases hst : standV L k with
      | none => have := stand_none.1 hst z hz; omega
      | some y =>
        have h1 := hc.2 y hst
        have h2 := ((stand_iff hs).1 hst).2.2 z hz hzk
        omega
  · rename_i hc
    cases hst : standV L k with
    | none =>
      rw [hst] at hc
      refine stand_none.2 fun z hz => ?_
      rcases putL_mem.1 hz with rfl | hz
      · rcases Int.lt_or_le k z.k with h' | h'
        · exact h'
        · exact absurd ⟨h', fun y hy => by cases hy⟩ hc
      · exact stand_none.1 hst z hz
    | some y =>
      rw [hst] at hc
      obtain ⟨h1, h2, h3⟩ := (stand_iff hs).1 hst
      refine (stand_iff hs').2 ⟨putL_mem.2 (.inr h1), h2, fun z hz hzk => ?_⟩
      rcases putL_mem.1 hz with rfl | hz
      · rcases Int.lt_or_le y.k z.k with h' | h'
        · exact absurd ⟨hzk, fun y' hy' => by cases hy'; exact h'⟩ hc
        · exact h'
      · exact h3 z hz hzk
/-- A chain that lies in blocks from one on. -/
def Chn2 (B : Nat) (w : World) (v : Value) (L : List Ver) : Prop :=
  ∃ A c, v = .slice A L.length c ∧ L.length ≤ c ∧ (A = none ∧ c = 0 ∨ ∃ b o, A = some ⟨b, o, none⟩ ∧ B ≤ b) ∧ Reads w w.heap.size 6 A L.length (vsV L)
theorem Chn2.nil (B : Nat) (w : World) : Chn2 B w (.slice none 0 0) [] := ⟨none, 0, rfl, Nat.le_refl _, .inl ⟨rfl, rfl⟩, Reads.none_⟩
theorem Chn2.chn {B : Nat} {w : World} {v : Value} {L : List Ver} (h : Chn2 B w v L) : Chn w v L := by
  obtain ⟨A, c, e, h1, h2, h3⟩ := h
  exact ⟨A, c, e, h1, h2.imp id (fun ⟨b, o, e, _⟩ => ⟨b, o, e⟩), h3⟩
theorem Chn2.below {B : Nat} {w w' : World} {v : Value} {L : List Ver} (h : Chn2 B w v L) (hb : Below w.heap.size w w') : Chn2 B w' v L := by
  obtain ⟨A, c, e, h1, h2, h3⟩ := h
  exact ⟨A, c, e, h1, h2, (h3.below hb).more hb.size⟩
theorem Chn2.low {B B' : Nat} {w : World} {v : Value} {L : List Ver} (h : Chn2 B w v L) (hb : B' ≤ B) : Chn2 B' w v L := by
  obtain ⟨A, c, e, h1, h2, h3⟩ := h
  exact ⟨A, c, e, h1, h2.imp id (fun ⟨b, o, e, h⟩ => ⟨b, o, e, by omega⟩), h3⟩
theorem Chn2.set {B : Nat} {w : World} {v : Value} {L : List Ver} (h : Chn2 B w v L) {p : Addr} (hp : p.block < B) (u : Value) : Chn2 B (w.setCell p u) v L := by
  obtain ⟨A, c, e, h1, h2, h3⟩ := h
  refine ⟨A, c, e, h1, h2, h3.1, fun hn => ?_⟩
  obtain ⟨ad, ea, hb, hc⟩ := h3.2 hn
  refine ⟨ad, ea, by simpa using hb, fun j u' hu => ?_⟩
  rcases h2 with ⟨e', _⟩ | ⟨b, o, e', hB⟩
  · rw [e'] at ea; cases ea
  · rw [e'] at ea; cases ea
    rw [World.cell?_setCell_other w p _ u (fun e => by
      have := congrArg Addr.block e
      rw [block_of_add] at this
      simp only at this
      omega)]
    exact hc j u' hu
theorem Chn2.own {w : World} {base n : Nat} {t : TypeId} {v : Value} {L : List Ver} (h : w.ownsRow base t 6 v n (vsV L)) : Chn2 base w v L := by
  have hl : L.length = n := by have := h.1; rw [vsV_length] at this; omega
  subst hl
  rcases h.2 with ⟨rfl, h0⟩ | ⟨g, cap, cur, rfl, hge, hg, hnc, _⟩
  · rw [h0] at h
    exact ⟨none, 0, by rw [h0], by omega, .inl ⟨rfl, rfl⟩, by rw [h0]; exact Reads.of_own h⟩
  · exact ⟨_, cap, rfl, hnc, .inr ⟨g, 0, rfl, hge⟩, Reads.of_own h⟩
theorem put_g2 {s : Value} {L : List Ver} (x : Ver) (w : World) (h : Chn w s L) (hg : Good L) (hx : x.ok) (hn : (L.length + 1) * 48 ≤ 140737488355328) :
    Calls Try.prog 21 #[s, .agg #[.int .i64 x.a, .int .u32 x.b, .int .u32 x.c, .int .i64 x.kd, .int .i64 x.num, .string x.text]] w fun e w' => (∃ u, e = .returned (.tuple #[u, .int .i64 (errL L x)]) ∧ Chn2 w.heap.size w' u (resL L x)) ∧ Below w.heap.size w w' := by
  obtain ⟨A, c, rfl, hc, hA, hr⟩ := h
  unfold resL errL
  cases h1 : vright x with
  | false => exact (vput_bad _ x w h1).mono fun e w' ⟨h, hb⟩ => ⟨⟨_, h, Chn2.nil _ _⟩, hb⟩
  | true =>
    cases h2 : hasK L x.k with
    | true => exact (vput_twice A _ c L x w hr (by omega) hg.srt hg.ok hx h1 h2).mono fun e w' ⟨h, hb⟩ => ⟨⟨_, h, Chn2.nil _ _⟩, hb⟩
    | false => exact (vput_yes A _ c L x w hr hn hg.srt hg.ok hx h1 h2).mono fun e w' ⟨⟨u, h, ho⟩, hb⟩ => ⟨⟨u, h, Chn2.own ho⟩, hb⟩
end Go.Proofs.Ytghinjnhcepaeaa
