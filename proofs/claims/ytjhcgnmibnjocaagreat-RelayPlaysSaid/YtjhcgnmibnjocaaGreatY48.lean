import Derived.Test.YtjhcgnmibnjocaaGreatGE
import Derived.Test.YtjhcgnmibnjocaaGreatY21
/-! What records tell, in plain words. -/
namespace Go.Proofs.YtjhcgnmibnjocaaGreat
open Go.RowKit Go.Maps
set_option linter.unusedVariables false
set_option linter.unusedSimpArgs false
def rest1 (r : Rl) (G : Gv) : Option Rl := if (endP G.r).e ≠ 0 ∨ (⟨G.e, G.p, G.l⟩ : Vi).right = false ∨ G.e ≤ r.v.e then none else some (promiseP r ⟨G.e, G.p, G.l⟩)
def rest2 (r : Rl) (n : Int) (L : List Ent × Rest) : Option Rl := if (endP L.2).e ≠ 0 ∨ L.1.length ≠ 1 ∨ n ≠ (r.log.length : Int) + 1 ∨ 4096 < n then none else some { r with log := r.log ++ L.1 }
def rest3 (r : Rl) (n : Int) (L : List Ent × Rest) : Option Rl := if (endP L.2).e ≠ 0 ∨ n < 0 ∨ r.v.e < n then none else some { r with joined := n, log := L.1 }
def restoreP (r : Rl) (bs : List Nat) : Option Rl :=
 if (numP ⟨bs, 0⟩).1 = 1 then rest1 r (getV (numP ⟨bs, 0⟩).2)
 else if (numP ⟨bs, 0⟩).1 = 2 then rest2 r (zag (numP (numP ⟨bs, 0⟩).2).1) (getL (numP (numP ⟨bs, 0⟩).2).2)
 else if (numP ⟨bs, 0⟩).1 = 3 then rest3 r (zag (numP (numP ⟨bs, 0⟩).2).1) (getL (numP (numP ⟨bs, 0⟩).2).2)
 else none
def restores (r : Rl) : List (List Nat) → Option Rl
 | [] => some r
 | b :: l => match restoreP r b with | none => none | some r' => restores r' l
def loadedP (r : Rl) : Rl := settleP (if r.leads then { r with sure := 0, act := false, acks := ackedL r.id r.log.length [] } else { r with sure := 0, act := false, acks := [] })
theorem restore_ok {r : Rl} (h : r.ok) {bs : List Nat} (hby : ∀ x ∈ bs, x < 256) : ∀ r', restoreP r bs = some r' → r'.ok := fun r' hr => by
 have hb1 := numP_by (r := ⟨bs, 0⟩) hby
 have hb2 := getL_by (numP_by hb1)
 have hvb : r.v.e ≤ 4611686018427387904 := by
  rcases h.v with e | e
  ·rw [e]; decide
  ·exact (right_bd e).2.1
 unfold restoreP at hr
 split at hr
 ·unfold rest1 at hr
  split at hr
  ·cases hr
  ·rename_i hc
   cases hr
   exact promise_ok h (by
    rcases hv : (⟨(getV (numP ⟨bs, 0⟩).2).e, (getV (numP ⟨bs, 0⟩).2).p, (getV (numP ⟨bs, 0⟩).2).l⟩ : Vi).right with _ | _
    ·exact absurd (.inr (.inl hv)) hc
    ·rfl)
 split at hr
 ·unfold rest2 at hr
  split at hr
  ·cases hr
  ·rename_i hc
   cases hr
   have h1 : (getL (numP (numP ⟨bs, 0⟩).2).2).1.length = 1 := Classical.byContradiction fun h => hc (.inr (.inl h))
   have h2 : zag (numP (numP ⟨bs, 0⟩).2).1 = (r.log.length : Int) + 1 := Classical.byContradiction fun h => hc (.inr (.inr (.inl h)))
   have h3 : ¬4096 < zag (numP (numP ⟨bs, 0⟩).2).1 := fun h => hc (.inr (.inr (.inr h)))
   exact ⟨h.id, h.v, by simp only [List.length_append]; omega, fun x hx => (List.mem_append.1 hx).elim (h.log x) (hb2.1 x), h.j, h.s, h.ak, h.an⟩
 split at hr
 ·unfold rest3 at hr
  split at hr
  ·cases hr
  ·rename_i hc
   cases hr
   have h2 : ¬zag (numP (numP ⟨bs, 0⟩).2).1 < 0 := fun h => hc (.inr (.inl h))
   have h3 : ¬r.v.e < zag (numP (numP ⟨bs, 0⟩).2).1 := fun h => hc (.inr (.inr h))
   exact ⟨h.id, h.v, hb2.2.2, hb2.1, ⟨by simp only; omega, by simp only; omega⟩, h.s, h.ak, h.an⟩
 ·cases hr
theorem loaded_ok {r : Rl} (h : r.ok) : (loadedP r).ok := by
 unfold loadedP
 have hn := h.n
 have hid := h.id
 refine settle_ok ?_
 split
 ·exact ⟨h.id, h.v, h.n, h.log, h.j, by simp, fun x hx => by
   simp only [ackedL, List.filter_nil, List.mem_cons, List.not_mem_nil, or_false] at hx
   rw [hx]
   exact ⟨by simp only; omega, by simp only; omega, by simp only; omega⟩, by simp [ackedL]⟩
 ·exact ⟨h.id, h.v, h.n, h.log, h.j, by simp, (fun x hx => by cases hx), List.nodup_nil⟩
theorem restore_id {r : Rl} {bs : List Nat} {r' : Rl} (h : restoreP r bs = some r') : r'.id = r.id := by
 unfold restoreP rest1 rest2 rest3 at h
 repeat' split at h
 all_goals first | (cases h; done) | (cases h; rfl) | skip
 cases h
 unfold promiseP
 split <;> exact (settle_v _).2.1
end Go.Proofs.YtjhcgnmibnjocaaGreat
