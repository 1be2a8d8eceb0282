import Derived.Test.YtjhcgnmibnjocaaGreatGC
import Derived.Test.YtjhcgnmibnjocaaGreatGA
import Derived.Maps.OwnSet
import Derived.Maps.OwnOps
import Derived.Test.YtjhcgnmibnjocaaGreatGB
/-! Several texts in one. -/
set_option linter.unusedVariables false
set_option linter.unusedSimpArgs false
namespace Go.Proofs.YtjhcgnmibnjocaaGreat
open Go.RowKit
structure Ent where
 e : Int
 t : List Nat
deriving DecidableEq
structure Vi where
 e : Int
 p : Int
 l : List Int
deriving DecidableEq
def Vi.none : Vi := ⟨0, 0, []⟩
def Vi.right (v : Vi) : Bool := rightV v.e v.p v.l
structure Rl where
 id : Int
 v : Vi
 log : List Ent
 joined : Int
 sure : Nat
 acks : List (Int × Nat)
 act : Bool
deriving DecidableEq
def Rl.leads (r : Rl) : Bool := decide (0 < r.v.e) && decide (r.v.p = r.id)
def leastP (acks : List (Int × Nat)) : List Int → Nat → Option Nat
 | [], m => some m
 | n :: l, m => match acks.lookup n with | .none => .none | some k => leastP acks l (min m k)
def ackedL (n : Int) (k : Nat) (l : List (Int × Nat)) : List (Int × Nat) := (n, k) :: l.filter fun x => !(x.1 == n)
def settleP (r : Rl) : Rl := if r.leads then (match leastP r.acks r.v.l r.log.length with | .none => r | some m => { r with act := true, sure := max r.sure m }) else r
def promiseP (r : Rl) (v : Vi) : Rl :=
 settleP (if ({ r with v := v, act := false, acks := [] } : Rl).leads then { r with v := v, act := false, joined := v.e, acks := ackedL r.id r.log.length [] } else { r with v := v, act := false, acks := [] })
def newP (id : Int) : Rl := ⟨id, Vi.none, [], 0, 0, [], false⟩
def entB (x : Ent) : List Nat := numB (zig x.e) ++ (numB x.t.length ++ x.t)
def entsB (l : List Ent) : List Nat := l.flatMap entB
def logB (l : List Ent) : List Nat := numB l.length ++ entsB l
def recPromiseP (v : Vi) : List Nat := numB 1 ++ viewB v.e v.p v.l
def recEntryP (at_ : Nat) (x : Ent) : List Nat := numB 2 ++ (numB (zig at_) ++ logB [x])
def recLogP (e : Int) (l : List Ent) : List Nat := numB 3 ++ (numB (zig e) ++ logB l)
structure Mg where
 k : Int
 e : Int
 v : Vi
 i : Int
 s : Int
 log : List Ent
deriving DecidableEq
structure Ot where
 to : Int
 m : Mg
deriving DecidableEq
structure Lead where
 recs : List (List Nat)
 e : Int
 r : Rl
def leadP (r : Rl) (v : Vi) : Lead := if v.right then (if v.e ≤ r.v.e then ⟨[], 0, r⟩ else ⟨[recPromiseP v], 0, promiseP r v⟩) else ⟨[], 1, r⟩
def othersP (r : Rl) : List Int := r.v.l.filter fun n => !(n == r.id)
structure Prop_ where
 at_ : Nat
 recs : List (List Nat)
 outs : List Ot
 e : Int
 r : Rl
def proposed (r : Rl) (c : List Nat) : Rl := settleP { r with log := r.log ++ [⟨r.v.e, c⟩], acks := ackedL r.id (r.log.length + 1) r.acks }
def proposeP (r : Rl) (c : List Nat) : Prop_ :=
 if 262144 < c.length then ⟨0, [], [], 8, r⟩ else if !(r.leads && r.act) then ⟨0, [], [], 3, r⟩ else if 4096 ≤ r.log.length then ⟨0, [], [], 4, r⟩ else
  ⟨r.log.length + 1, [recEntryP (r.log.length + 1) ⟨r.v.e, c⟩], (othersP r).map fun n => ⟨n, ⟨2, r.v.e, Vi.none, (r.log.length + 1 : Nat), (proposed r c).sure, [⟨r.v.e, c⟩]⟩⟩, 0, proposed r c⟩
def shipsP (r : Rl) (n : Int) (k : Nat) : Nat → List Ot
 | 0 => []
 | j + 1 => shipsP r n k j ++ (match r.log[k + j]? with | some x => [⟨n, ⟨2, r.v.e, Vi.none, (k + j + 1 : Nat), r.sure, [x]⟩⟩] | .none => [])
def tickOne (r : Rl) (n : Int) : List Ot :=
 match r.acks.lookup n with
 | .none => [⟨n, ⟨1, r.v.e, r.v, 0, r.sure, r.log⟩⟩]
 | some k => (if k = r.log.length then [⟨n, ⟨2, r.v.e, Vi.none, k, r.sure, []⟩⟩] else []) ++ shipsP r n k 16
def tickP (r : Rl) : List Ot := if r.leads then (othersP r).flatMap (tickOne r) else []
def hearP (r : Rl) (s : Int) : Rl := { r with sure := max r.sure (min s r.log.length).toNat }
def hearO (r : Rl) (f : Int) : List Ot := [⟨f, ⟨3, r.v.e, Vi.none, r.log.length, 0, []⟩⟩]
structure Took where
 recs : List (List Nat)
 outs : List Ot
 r : Rl
def offerOk (r : Rl) (f : Int) (m : Mg) : Bool := m.v.right && decide (m.v.e = m.e) && decide (m.v.p = f) && !(f == r.id) && hasB m.v.l r.id && decide (m.log.length ≤ 4096) && !(decide (m.e < r.v.e)) && !(decide (m.e = r.v.e) && !(r.v.p == f))
def offer1 (r : Rl) (m : Mg) : Rl := if r.v.e < m.e then promiseP r m.v else r
def offerR (r : Rl) (m : Mg) : List (List Nat) := if r.v.e < m.e then [recPromiseP m.v] else []
def takes (r : Rl) (m : Mg) : Bool := !(r.joined == r.v.e) || decide (r.log.length ≤ m.log.length)
def offer2 (r : Rl) (m : Mg) : Rl := if takes r m then { r with joined := r.v.e, log := m.log } else r
def offer2R (r : Rl) (m : Mg) : List (List Nat) := if takes r m then [recLogP r.v.e m.log] else []
def offerP (r : Rl) (f : Int) (m : Mg) : Took :=
 if offerOk r f m then ⟨offerR r m ++ offer2R (offer1 r m) m, hearO (offer2 (offer1 r m) m) f, hearP (offer2 (offer1 r m) m) m.s⟩ else ⟨[], [], r⟩
def shipOk (r : Rl) (f : Int) (m : Mg) : Bool := decide (m.e = r.v.e) && decide (r.joined = m.e) && decide (r.v.p = f) && !(f == r.id)
def shipIn (r : Rl) (m : Mg) : Option Ent := match m.log with | [x] => if m.i = r.log.length + 1 ∧ m.i ≤ 4096 then some x else .none | _ => .none
def ship1 (r : Rl) (m : Mg) : Rl := match shipIn r m with | some x => { r with log := r.log ++ [x] } | .none => r
def ship1R (r : Rl) (m : Mg) : List (List Nat) := match shipIn r m with | some x => [recEntryP (r.log.length + 1) x] | .none => []
def shipP (r : Rl) (f : Int) (m : Mg) : Took := if shipOk r f m then ⟨ship1R r m, hearO (ship1 r m) f, hearP (ship1 r m) m.s⟩ else ⟨[], [], r⟩
def ackOk (r : Rl) (f : Int) (m : Mg) : Bool := r.leads && decide (m.e = r.v.e) && !(f == r.id) && hasB r.v.l f && decide (0 ≤ m.i) && decide (m.i ≤ r.log.length)
def ackP (r : Rl) (f : Int) (m : Mg) : Rl := if ackOk r f m then settleP { r with acks := ackedL f (max ((r.acks.lookup f).getD 0) m.i.toNat) r.acks } else r
def takeP_ (r : Rl) (f : Int) (m : Mg) : Took := if m.k = 1 then offerP r f m else if m.k = 2 then shipP r f m else if m.k = 3 then ⟨[], [], ackP r f m⟩ else ⟨[], [], r⟩
def saveP (r : Rl) : List (List Nat) := (if 0 < r.v.e then [recPromiseP r.v] else []) ++ (if 0 < r.log.length ∨ 0 < r.joined then [recLogP r.joined r.log] else [])
structure Ent.ok (x : Ent) : Prop where
 e : I64 x.e
 n : x.t.length ≤ 262144
 by_ : ∀ y ∈ x.t, y < 256
structure Vi.ok (v : Vi) : Prop where
 e : I64 v.e
 p : I64 v.p
 l : ∀ x ∈ v.l, I64 x
structure Rl.ok (r : Rl) : Prop where
 id : 0 ≤ r.id ∧ r.id < 8
 v : r.v = Vi.none ∨ r.v.right = true
 n : r.log.length ≤ 4096
 log : ∀ x ∈ r.log, x.ok
 j : 0 ≤ r.joined ∧ r.joined ≤ 4611686018427387904
 s : r.sure ≤ 4096
 ak : ∀ x ∈ r.acks, x.2 ≤ 4096 ∧ 0 ≤ x.1 ∧ x.1 < 8
 an : (r.acks.map (·.1)).Nodup
theorem right_bd {v : Vi} (h : v.right = true) : 1 ≤ v.e ∧ v.e ≤ 4611686018427387904 ∧ risingB v.l = true ∧ v.p ∈ v.l := by
 unfold Vi.right rightV at h
 simp only [Bool.and_eq_true, decide_eq_true_eq] at h
 exact ⟨h.1.1.1, h.1.1.2, h.1.2, hasB_mem.1 h.2⟩
end Go.Proofs.YtjhcgnmibnjocaaGreat

namespace Go.Proofs.YtjhcgnmibnjocaaGreat
open Go.RowKit Go.Maps
structure Bsl (w : World) (T : Nat → Prop) (v : Value) (t : List Nat) : Prop where
 ex : ∃ A c, v = .slice A t.length c ∧ Reads w w.heap.size 1 A t.length (u8s t) ∧ (A = none → c = 0) ∧ (0 < t.length → ∀ a, A = some a → ¬T a.block) ∧ t.length ≤ c ∧ c ≤ maxLen
 by_ : ∀ x ∈ t, x < 256
theorem Bsl.kp {w w' : World} {T : Nat → Prop} {v : Value} {t : List Nat} (h : Bsl w T v t) (hk : Kp T w w') : Bsl w' T v t := by
 obtain ⟨⟨A, c, e, hr, hn, hT, h1, h2⟩, hb⟩ := h
 exact ⟨⟨A, c, e, Reads.kp hr hk hT, hn, hT, h1, h2⟩, hb⟩
theorem Bsl.sub {w : World} {T T' : Nat → Prop} {v : Value} {t : List Nat} (h : Bsl w T v t) (hs : ∀ k, k < w.heap.size → T' k → T k) : Bsl w T' v t := by
 obtain ⟨⟨A, c, e, hr, hn, hT, h1, h2⟩, hb⟩ := h
 refine ⟨⟨A, c, e, hr, hn, fun h0 a ha ht => hT h0 a ha (hs _ ?_ ht), h1, h2⟩, hb⟩
 obtain ⟨a', e', hl, _⟩ := hr.2 h0
 rw [ha] at e'; cases e'; exact hl
theorem Bsl.row {w : World} {T : Nat → Prop} {base : Nat} {v : Value} {t : List Nat} (h : Row w base v t) (hT : ∀ k, T k → k < base) (hb : ∀ x ∈ t, x < 256) : Bsl w T v t := by
 obtain ⟨A, c, e, h1, h2, hn, hr⟩ := h.slice
 refine ⟨⟨A, c, e, hr, hn, fun h0 a ha ht => ?_, h1, h2⟩, hb⟩
 rcases h.2 with ⟨hv, h'⟩ | ⟨g, cap, cur, hv, hbg, _⟩
 ·omega
 ·rw [e] at hv
  cases hv
  cases ha
  have h3 : g < base := hT _ ht
  omega
structure Em where
 x : Ent
 v : Value
def Em.cells (m : Em) : List Value := [.int .i64 m.x.e, m.v]
theorem Em.cells_len (m : Em) : m.cells.length = 2 := rfl
def emV (ms : List Em) : List Value := rowsV Em.cells ms
theorem emV_length (ms : List Em) : (emV ms).length = ms.length * 2 := rowsV_length (k := 2) Em.cells_len ms
theorem emV_append (ms ns : List Em) : emV (ms ++ ns) = emV ms ++ emV ns := by simp [emV, rowsV]
def Ems (w : World) (T : Nat → Prop) (ms : List Em) : Prop := ∀ m ∈ ms, Bsl w T m.v m.x.t ∧ m.x.ok
theorem Ems.kp {w w' : World} {T : Nat → Prop} {ms : List Em} (h : Ems w T ms) (hk : Kp T w w') : Ems w' T ms := fun m hm => ⟨(h m hm).1.kp hk, (h m hm).2⟩
theorem Ems.sub {w : World} {T T' : Nat → Prop} {ms : List Em} (h : Ems w T ms) (hs : ∀ k, k < w.heap.size → T' k → T k) : Ems w T' ms := fun m hm => ⟨(h m hm).1.sub hs, (h m hm).2⟩
structure Ents (w : World) (T : Nat → Prop) (A : Option Addr) (n : Nat) (l : List Ent) : Prop where
 ex : ∃ ms : List Em, ms.map Em.x = l ∧ Reads w w.heap.size 2 A n (emV ms) ∧ Ems w T ms
 len : l.length = n
 nt : 0 < n → ∀ a, A = some a → ¬T a.block
theorem Ents.kp {w w' : World} {T : Nat → Prop} {A : Option Addr} {n : Nat} {l : List Ent} (h : Ents w T A n l) (hk : Kp T w w') : Ents w' T A n l := by
 obtain ⟨⟨ms, e, hr, hm⟩, hl, hn⟩ := h
 exact ⟨⟨ms, e, Reads.kp hr hk hn, hm.kp hk⟩, hl, hn⟩
theorem Ents.sub {w : World} {T T' : Nat → Prop} {A : Option Addr} {n : Nat} {l : List Ent} (h : Ents w T A n l) (hs : ∀ k, k < w.heap.size → T' k → T k) : Ents w T' A n l := by
 obtain ⟨⟨ms, e, hr, hm⟩, hl, hn⟩ := h
 refine ⟨⟨ms, e, hr, hm.sub hs⟩, hl, fun h0 a ha ht => hn h0 a ha (hs _ ?_ ht)⟩
 obtain ⟨a', e', hl', _⟩ := hr.2 h0
 rw [ha] at e'; cases e'; exact hl'
theorem Ents.nil (w : World) (T : Nat → Prop) : Ents w T none 0 [] := ⟨⟨[], rfl, Reads.none_, fun _ h => by cases h⟩, rfl, fun h => absurd h (by omega)⟩
structure OwnE (w : World) (T : Nat → Prop) (base : Nat) (v : Value) (l : List Ent) : Prop where
 ex : ∃ ms : List Em, ms.map Em.x = l ∧ w.ownsRow base 65 2 v l.length (emV ms) ∧ Ems w T ms
theorem OwnE.nil (w : World) (T : Nat → Prop) (base : Nat) : OwnE w T base (.slice none 0 0) [] := ⟨[], rfl, World.ownsRow_nil _ _ _ _, fun _ h => by cases h⟩
structure AckR (D : DataW Unit) (l : List (Int × Nat)) : Prop where
 has : ∀ n, Maps.has D (.int .i64 n) = (l.lookup n).isSome
 at_ : ∀ n, D.atKey (.int .i64 n) (.lit (.int .i64 0)) = .lit (.int .i64 ((l.lookup n).getD 0 : Nat))
 size : Maps.size D ≤ l.length
theorem lawK : Keyed Tryz.prog 3 := int_keyed Tryz.underlying3
theorem zeroI (w : World) : (zeroValue 3).run Tryz.prog w = .ok (.int .i64 0) w := by kernel_rfl
def Mp (w : World) (b : Nat) (l : List (Int × Nat)) : Prop := ∃ D : DataW Unit, w.ownsMap Tryz.prog 3 (plainElem Tryz.prog 3) b l.length D ∧ AckR D l
theorem Mp.kp {S : Nat → Prop} {w w' : World} {b : Nat} {l : List (Int × Nat)} (h : Mp w b l) (hk : Kp S w w') (hn : ¬S b) : Mp w' b l := by
 obtain ⟨D, ⟨es, clock, hb, F, hs, hD⟩, hr⟩ := h
 exact ⟨D, ⟨es, clock, (hk.block b (Array.getElem?_eq_some_iff.1 hb).1 hn).trans hb, F, hs, hD⟩, hr⟩
theorem Mp.lt {w : World} {b : Nat} {l : List (Int × Nat)} (h : Mp w b l) : b < w.heap.size := by
 obtain ⟨D, h, _⟩ := h
 exact h.lt
theorem Mp.made (w : World) : Mp (w.alloc (.map #[] 0)) w.heap.size [] :=
 ⟨.map [], World.ownsMap_made w _ _ _, fun n => rfl, fun n => rfl, Nat.le_refl _⟩
theorem lookup_acked (n m : Int) (k : Nat) (l : List (Int × Nat)) : (ackedL n k l).lookup m = if m = n then some k else l.lookup m := by
 unfold ackedL
 rw [List.lookup_cons]
 by_cases h : m = n
 ·simp [h]
 ·simp only [beq_eq_false_iff_ne.2 h, if_neg h]
  induction l with
  | nil => rfl
  | cons x l ih =>
   obtain ⟨a, b⟩ := x
   simp only [List.filter_cons]
   by_cases ha : a = n
   ·simp only [ha, beq_self_eq_true, Bool.not_true]
    rw [List.lookup_cons]
    simpa [beq_eq_false_iff_ne.2 h] using ih
   ·simp only [beq_eq_false_iff_ne.2 ha, Bool.not_false, if_true]
    rw [List.lookup_cons, List.lookup_cons, ih]
theorem key64 {n : Int} (h : I64 n) : keyOf Tryz.prog 3 (.int .i64 n) = some (.int .i64 n) := keyOf_int_mk Tryz.underlying3 (by unfold I64 at h; simp [Lit.wf, IntKind.min, IntKind.max, IntKind.signed, IntKind.bits]; omega)
theorem Mp.look {w : World} {b : Nat} {l : List (Int × Nat)} (h : Mp w b l) {n : Int} (hn : I64 n) :
  (Instr.lookup 75 (.map (some b)) (.int .i64 n) true).run Tryz.prog w = .ok (.tuple #[.int .i64 ((l.lookup n).getD 0 : Nat), .bool (l.lookup n).isSome]) w := by
 obtain ⟨D, ho, hr⟩ := h
 obtain ⟨v, ps, hrun, hv⟩ := ho.look_ok lawK Tryz.underlying75 (zeroI w) (plainElem_int Tryz.underlying3 (by decide)) (key64 hn)
 obtain ⟨c, rfl, hc, hw⟩ := plainElem_int_inv Tryz.underlying3 hv
 rw [hr.at_ n] at hc
 simp only [Prod.mk.injEq, DataW.lit.injEq, Lit.int.injEq, true_and] at hc
 rw [hrun, hr.has n, ← hc.1]
theorem Mp.tight {w : World} {b n n' : Nat} {D : DataW Unit} (h : w.ownsMap Tryz.prog 3 (plainElem Tryz.prog 3) b n D) (hs : Maps.size D ≤ n') : w.ownsMap Tryz.prog 3 (plainElem Tryz.prog 3) b n' D := by
 obtain ⟨es, clock, hb, F, _, rfl⟩ := h
 exact ⟨es, clock, hb, F, by simpa [Maps.size, length_sorted] using hs, rfl⟩
theorem lookup_none_filter : ∀ (n : Int) (l : List (Int × Nat)), (l.lookup n).isSome = false → (l.filter fun x => !(x.1 == n)) = l
 | n, [], _ => rfl
 | n, (a, b) :: l, h => by
  rw [List.lookup_cons] at h
  by_cases ha : n = a
  ·simp [ha] at h
  ·simp only [beq_eq_false_iff_ne.2 ha] at h
   rw [List.filter_cons, if_pos (by simp [beq_eq_false_iff_ne.2 (fun e => ha e.symm : a ≠ n)]), lookup_none_filter n l h]
theorem lookup_some_filter : ∀ (n : Int) (l : List (Int × Nat)), (l.map (·.1)).Nodup → (l.lookup n).isSome = true → (l.filter fun x => !(x.1 == n)).length + 1 = l.length
 | n, [], _, h => by simp at h
 | n, (a, b) :: l, hd, h => by
  rw [List.lookup_cons] at h
  rw [List.map_cons, List.nodup_cons] at hd
  by_cases ha : n = a
  ·subst ha
   have : (l.filter fun x => !(x.1 == n)) = l := by
    rw [List.filter_eq_self]
    rintro ⟨c, d⟩ hc
    have : c ≠ n := fun e => hd.1 (e ▸ List.mem_map.2 ⟨_, hc, rfl⟩)
    simp [beq_eq_false_iff_ne.2 this]
   rw [List.filter_cons, if_neg (by simp), this]
   rfl
  ·simp only [beq_eq_false_iff_ne.2 ha] at h
   rw [List.filter_cons, if_pos (by simp [beq_eq_false_iff_ne.2 (fun e => ha e.symm : a ≠ n)])]
   have := lookup_some_filter n l hd.2 h
   simp only [List.length_cons]
   omega
theorem acked_nodup {n : Int} {k : Nat} {l : List (Int × Nat)} (h : (l.map (·.1)).Nodup) : ((ackedL n k l).map (·.1)).Nodup := by
 unfold ackedL
 rw [List.map_cons, List.nodup_cons]
 refine ⟨fun hm => ?_, ?_⟩
 ·obtain ⟨⟨a, b⟩, hx, he⟩ := List.mem_map.1 hm
  have := (List.mem_filter.1 hx).2
  simp only at he
  subst he
  simp at this
 ·exact h.sublist (List.Sublist.map _ (List.filter_sublist))
theorem AckR.put {D : DataW Unit} {l : List (Int × Nat)} (h : AckR D l) (ht : Tidy D) (n : Int) (k : Nat) (hd : (l.map (·.1)).Nodup) : AckR (D.put (.int .i64 n) (.lit (.int .i64 (k : Int)))) (ackedL n k l) := by
 have hk : WideAt.IsKeyLit (.int .i64 n) := by simp [WideAt.IsKeyLit]
 refine ⟨fun m => ?_, fun m => ?_, ?_⟩
 ·rw [lookup_acked]
  by_cases hm : m = n
  ·subst hm
   rw [if_pos rfl, Maps.has_put_same ht.isMap hk]
   rfl
  ·rw [if_neg hm, Maps.has_put_other (by intro e; injection e with _ e; exact hm e), h.has]
 ·rw [lookup_acked]
  by_cases hm : m = n
  ·subst hm
   rw [if_pos rfl, Maps.atKey_put_same ht.isMap hk]
   rfl
  ·rw [if_neg hm, Maps.atKey_put_other (by intro e; injection e with _ e; exact hm e), h.at_]
 ·rw [Maps.size_put ht, h.has]
  have hs := h.size
  unfold ackedL
  rw [List.length_cons]
  cases hl : (l.lookup n).isSome
  ·rw [lookup_none_filter n l hl]
   simp only [Bool.false_eq_true, if_false]
   omega
  ·have := lookup_some_filter n l hd hl
   simp only [if_true]
   omega
theorem wpList_put {w : World} {ops : Array Oper} {rest : List Oper} {o : Oper} {a : Act} {Q : Exit → Act → World → Prop} (hg : o.guard = none) (m x v : Operand) (hop : o.op = Op.mapUpdate 75 m x v)
  (b : Nat) (l : List (Int × Nat)) (hm : a.eval m = .map (some b)) (h : Mp w b l) (n : Int) (k : Nat) (hx : a.eval x = .int .i64 n) (hv : a.eval v = .int .i64 (k : Int)) (hn : I64 n) (hk : k ≤ 9223372036854775807) (hl : l.length ≤ 1000000) (hd : (l.map (·.1)).Nodup)
  (hK : ∀ w', Mp w' b (ackedL n k l) → Only w w' b → wpList Tryz.prog ops Q rest (a.put o.dst undef) w') : wpList Tryz.prog ops Q (o :: rest) a w := by
 obtain ⟨D, ho, hr⟩ := h
 refine wpList_mapUpdate_own w hg m x v 75 hop 3 3 lawK Tryz.underlying75 (plainElem Tryz.prog 3) b l.length D hm ho (by unfold maxLen; omega) _ _ _ hx hv (key64 hn) _ [] (plainElem_int Tryz.underlying3 (by simp [Lit.wf, IntKind.min, IntKind.max, IntKind.signed, IntKind.bits]; omega)) fun w' h1 h2 => hK w' ?_ ?_
 ·have h3 := hr.put (ho.tidy lawK) n k hd
  exact ⟨_, Mp.tight h1 h3.size, h3⟩
 ·exact ⟨h2.os, h2.tape, h2.output, h2.size, fun i hi hne => h2.block i hi (by intro e; cases e; exact hne rfl)⟩
structure RelX (w : World) (S T : Nat → Prop) (g : Nat) (r : Rl) (Am : Option Addr) (cm : Nat) (vl : Value) (mb : Nat) : Prop where
 blk : Blk w g 77 #[.int .i64 r.id, .int .i64 r.v.e, .int .i64 r.v.p, .slice Am r.v.l.length cm, vl, .int .i64 r.joined, .int .i64 (r.sure : Int), .map (some mb), .bool r.act]
 rd : Reads w w.heap.size 1 Am r.v.l.length (ints r.v.l)
 mt : 0 < r.v.l.length → ∀ a, Am = some a → ¬T a.block
 own : OwnE w T 0 vl r.log
 vs : ∀ k, vl.ownBlock = some k → S k
 mp : Mp w mb r.acks
 ms : S mb
 mg : mb ≠ g
 vg : vl.ownBlock ≠ some g
 vm : vl.ownBlock ≠ some mb
 g : S g
 sub : ∀ k, S k → T k
 lt : ∀ k, T k → k < w.heap.size
def RelW (w : World) (S T : Nat → Prop) (g : Nat) (r : Rl) : Prop := r.ok ∧ ∃ Am cm vl mb, RelX w S T g r Am cm vl mb
theorem Kp.weaken {S T : Nat → Prop} {w w' : World} (h : Kp S w w') (hs : ∀ k, S k → T k) : Kp T w w' := ⟨h.os, h.tape, h.output, h.size, fun k hk hn => h.block k hk fun e => hn (hs k e)⟩
theorem OwnE.keep {w w' : World} {T : Nat → Prop} {base : Nat} {v : Value} {l : List Ent} (h : OwnE w T base v l) (hk : Kp T w w') (hv : ∀ k, v.ownBlock = some k → k < w.heap.size → w'.heap[k]? = w.heap[k]?) : OwnE w' T base v l := by
 obtain ⟨ms, e, ho, hm⟩ := h
 refine ⟨ms, e, ⟨ho.1, ?_⟩, hm.kp hk⟩
 rcases ho.2 with h' | ⟨g, cap, cur, hv', hb, hh, r⟩
 ·exact .inl h'
 ·exact .inr ⟨g, cap, cur, hv', hb, (hv g (by rw [hv']; rfl) (Blk.lt hh)).trans hh, r⟩
theorem OwnE.sub {w : World} {T T' : Nat → Prop} {base : Nat} {v : Value} {l : List Ent} (h : OwnE w T base v l) (hs : ∀ k, k < w.heap.size → T' k → T k) : OwnE w T' base v l := by
 obtain ⟨ms, e, ho, hm⟩ := h
 exact ⟨ms, e, ho, hm.sub hs⟩
theorem RelX.far {w w' : World} {S T R : Nat → Prop} {g : Nat} {r : Rl} {Am : Option Addr} {cm : Nat} {vl : Value} {mb : Nat} (h : RelX w S T g r Am cm vl mb) (hk : Kp R w w') (h1 : ∀ k, R k → T k) (h2 : ∀ k, S k → ¬R k) : RelX w' S T g r Am cm vl mb :=
 ⟨Blk.kp h.blk hk (h2 _ h.g), Reads.kp h.rd (hk.weaken h1) h.mt, h.mt, h.own.keep (hk.weaken h1) (fun k hv hl => hk.block k hl (h2 k (h.vs k hv))), h.vs, h.mp.kp hk (h2 _ h.ms), h.ms, h.mg, h.vg, h.vm, h.g, h.sub, fun k ht => Nat.lt_of_lt_of_le (h.lt k ht) hk.size⟩
theorem RelX.below {w w' : World} {S T : Nat → Prop} {g : Nat} {r : Rl} {Am : Option Addr} {cm : Nat} {vl : Value} {mb : Nat} (h : RelX w S T g r Am cm vl mb) (hb : Below w.heap.size w w') : RelX w' S T g r Am cm vl mb :=
 h.far (R := fun _ => False) (Kp.of_below hb) (fun _ h => h.elim) (fun _ _ h => h)
theorem RelX.cells {w w' : World} {S T : Nat → Prop} {g : Nat} {r r' : Rl} {Am : Option Addr} {cm : Nat} {vl : Value} {mb : Nat} (h : RelX w S T g r Am cm vl mb) (ho : Only w w' g) (hb : Blk w' g 77 #[.int .i64 r'.id, .int .i64 r'.v.e, .int .i64 r'.v.p, .slice Am r'.v.l.length cm, vl, .int .i64 r'.joined, .int .i64 (r'.sure : Int), .map (some mb), .bool r'.act])
  (e1 : r'.v.l = r.v.l) (e2 : r'.log = r.log) (e3 : r'.acks = r.acks) : RelX w' S T g r' Am cm vl mb := by
 have hk : Kp T w w' := Kp.of_only ho (h.sub _ h.g)
 refine ⟨hb, by rw [e1]; exact Reads.kp h.rd hk h.mt, by rw [e1]; exact h.mt, ?_, h.vs, ?_, h.ms, h.mg, h.vg, h.vm, h.g, h.sub, fun k ht => Nat.lt_of_lt_of_le (h.lt k ht) hk.size⟩
 ·rw [e2]
  exact h.own.keep hk fun k hv hl => ho.block k hl fun e => h.vg (e ▸ hv)
 ·rw [e3]
  exact h.mp.kp (Kp.of_only (S := fun k => k = g) ho rfl) h.mg
end Go.Proofs.YtjhcgnmibnjocaaGreat

namespace Go.Proofs.YtjhcgnmibnjocaaGreat
open Go.RowKit Go.Maps
theorem leads_any {S T : Nat → Prop} {g : Nat} {r : Rl} {Am : Option Addr} {cm : Nat} {vl : Value} {mb : Nat} (w : World) (h : RelX w S T g r Am cm vl mb) :
  Calls Tryz.prog 32 #[.pointer (some ⟨g, 0, none⟩)] w fun e w' => e = .returned (.bool r.leads) ∧ Below w.heap.size w w' := by
 have c1 := h.blk.cell
 have l1 := h.blk.lt
 clear h
 unfold Rl.leads
 by_cases h1 : 0 < r.v.e
 ·by_cases h2 : r.v.p = r.id
  ·have d1 : decide (0 < r.v.e) = true := by simpa using h1
   have d2 : (r.v.p == r.id) = true := by simpa using h2
   go_enter Tryz.func32, Tryz.ntmps32
   go_wp2
   refine wp_region_ext_lit (by kernel_rfl) (by kernel_rfl) ?_
   (repeat (first | ((with_reducible refine wpQuiet_step (fun K hK => ?_)); go_simp; first | ((with_reducible refine hK _ ?_); clear hK K) | (apply Exists.intro; (with_reducible refine ⟨fun _ => ?_, hK _ ?_⟩); skip; clear hK K)) | ((with_reducible refine quiet_skipN ?_ (fun K hK => ?_)); (rfl); go_simp; (with_reducible refine hK _ ?_); clear hK K)))
   (with_reducible refine wpQuiet_nil ?_); intro _ hw'; obtain ⟨Y, hw''⟩ := hw'; subst hw''
   go_wp2
   go_ret
   exact ⟨by simp [h1, h2], by (repeat' (first | with_reducible (first | exact Below.refl _ _ | refine Below.ext ?_ ?_ _ | refine Below.alloc ?_ ?_ _ | refine Below.setCell ?_ ?_ _ | refine Below.drew ?_ | assumption) | (simp [World.size_ext]; done) | (simp [World.size_ext]; omega)))⟩
  ·have d1 : decide (0 < r.v.e) = true := by simpa using h1
   have d2 : (r.v.p == r.id) = false := by simpa using h2
   go_enter Tryz.func32, Tryz.ntmps32
   go_wp2
   refine wp_region_ext_lit (by kernel_rfl) (by kernel_rfl) ?_
   (repeat (first | ((with_reducible refine wpQuiet_step (fun K hK => ?_)); go_simp; first | ((with_reducible refine hK _ ?_); clear hK K) | (apply Exists.intro; (with_reducible refine ⟨fun _ => ?_, hK _ ?_⟩); skip; clear hK K)) | ((with_reducible refine quiet_skipN ?_ (fun K hK => ?_)); (rfl); go_simp; (with_reducible refine hK _ ?_); clear hK K)))
   (with_reducible refine wpQuiet_nil ?_); intro _ hw'; obtain ⟨Y, hw''⟩ := hw'; subst hw''
   go_wp2
   go_ret
   exact ⟨by simp [h1, h2], by (repeat' (first | with_reducible (first | exact Below.refl _ _ | refine Below.ext ?_ ?_ _ | refine Below.alloc ?_ ?_ _ | refine Below.setCell ?_ ?_ _ | refine Below.drew ?_ | assumption) | (simp [World.size_ext]; done) | (simp [World.size_ext]; omega)))⟩
 ·have d1 : decide (0 < r.v.e) = false := by simpa using h1
  go_enter Tryz.func32, Tryz.ntmps32
  go_wp2
  refine wp_region_ext_lit (by kernel_rfl) (by kernel_rfl) ?_
  (repeat (first | ((with_reducible refine wpQuiet_step (fun K hK => ?_)); go_simp; first | ((with_reducible refine hK _ ?_); clear hK K) | (apply Exists.intro; (with_reducible refine ⟨fun _ => ?_, hK _ ?_⟩); skip; clear hK K)) | ((with_reducible refine quiet_skipN ?_ (fun K hK => ?_)); (rfl); go_simp; (with_reducible refine hK _ ?_); clear hK K)))
  (with_reducible refine wpQuiet_nil ?_); intro _ hw'; obtain ⟨Y, hw''⟩ := hw'; subst hw''
  go_wp2
  go_ret
  exact ⟨by rw [d1]; rfl, by (repeat' (first | with_reducible (first | exact Below.refl _ _ | refine Below.ext ?_ ?_ _ | refine Below.alloc ?_ ?_ _ | refine Below.setCell ?_ ?_ _ | refine Below.drew ?_ | assumption) | (simp [World.size_ext]; done) | (simp [World.size_ext]; omega)))⟩
theorem leastP_step {acks : List (Int × Nat)} {l : List Int} {j m : Nat} {x : Int} (h : l[j]? = some x) : leastP acks (l.drop j) m = match acks.lookup x with | .none => .none | some k => leastP acks (l.drop (j + 1)) (min m k) := by
 have hl := (List.getElem?_eq_some_iff.1 h).1
 rw [List.drop_eq_getElem_cons hl]
 have : l[j] = x := (List.getElem?_eq_some_iff.1 h).2
 rw [this]
 rfl
theorem lookup_mem : ∀ {l : List (Int × Nat)} {n : Int} {k : Nat}, l.lookup n = some k → (n, k) ∈ l
 | [], _, _, h => by cases h
 | (a, b) :: l, n, k, h => by
  rw [List.lookup_cons] at h
  by_cases ha : n = a
  ·subst ha
   simp at h
   subst h
   exact List.mem_cons_self
  ·simp only [beq_eq_false_iff_ne.2 ha] at h
   exact List.mem_cons_of_mem _ (lookup_mem h)
theorem rising_mem {l : List Int} (h : risingB l = true) : ∀ x ∈ l, 0 ≤ x ∧ x < 8 := fun x hx => by
 unfold risingB at h
 simp only [Bool.and_eq_true] at h
 obtain ⟨i, hi, rfl⟩ := List.getElem_of_mem hx
 have h1 := List.all_eq_true.1 h.1 i (List.mem_range.2 hi)
 unfold okN at h1
 rw [List.getElem?_eq_getElem hi] at h1
 simp only [Option.map_some, Option.getD_some, Bool.and_eq_true, decide_eq_true_eq] at h1
 exact h1.1
theorem rising_lt {l : List Int} (h : risingB l = true) : ∀ (i : Nat) (x : Int), l[i]? = some x → (i : Int) ≤ x := by
 intro i
 induction i with
 | zero => intro x hx; have := rising_mem h x (List.mem_of_getElem? hx); omega
 | succ i ih =>
  intro x hx
  have hi := (List.getElem?_eq_some_iff.1 hx).1
  have h1 := ih l[i] (List.getElem?_eq_getElem (by omega))
  unfold risingB at h
  simp only [Bool.and_eq_true] at h
  have h2 := List.all_eq_true.1 h.1 (i + 1) (List.mem_range.2 hi)
  rw [okN_succ hx (List.getElem?_eq_getElem (by omega))] at h2
  simp only [Bool.and_eq_true, decide_eq_true_eq] at h2
  omega
theorem rising_len {l : List Int} (h : risingB l = true) : l.length ≤ 8 := by
 rcases Nat.lt_or_ge 8 l.length with h' | h'
 ·have h1 := rising_lt h 8 l[8] (List.getElem?_eq_getElem h')
  have h2 := rising_mem h l[8] (List.getElem_mem h')
  omega
 ·exact h'
theorem Rl.ok.mem {r : Rl} (h : r.ok) : (∀ x ∈ r.v.l, 0 ≤ x ∧ x < 8) ∧ r.v.l.length ≤ 8 := by
 rcases h.v with e | e
 ·rw [e]; exact ⟨fun x hx => (by cases hx), by simp [Vi.none]⟩
 ·have := (right_bd e).2.2.1
  exact ⟨rising_mem this, rising_len this⟩
set_option maxRecDepth 100000 in
set_option maxHeartbeats 2000000 in
theorem settle_any {S T : Nat → Prop} {g : Nat} {r : Rl} {Am : Option Addr} {cm : Nat} {vl : Value} {mb : Nat} (w : World) (h : RelX w S T g r Am cm vl mb) (hok : r.ok) :
  Calls Tryz.prog 34 #[.pointer (some ⟨g, 0, none⟩)] w fun e w' => e = .returned (.tuple #[]) ∧ RelX w' S T g (settleP r) Am cm vl mb ∧ Only w w' g := by
 have hL := leads_any w h
 by_cases hl : r.leads = true
 ·rw [hl] at hL
  unfold settleP
  rw [if_pos hl]
  obtain ⟨ms, _, hown, hems⟩ := h.own.ex
  obtain ⟨Al, cl, hvl, hcl⟩ := own_sl hown
  have hlen := hide (reads_len h.rd)
  have hmem := hok.mem
  have hak := hok.ak
  have hs := hok.s
  have hn4 := hok.n
  clear hown hems
  subst hvl
  generalize hR : leastP r.acks r.v.l r.log.length = R
  have HR := hide hR
  clear hR
  go_enter Tryz.func34, Tryz.ntmps34
  go_wp2_with ((go_at_call 32; with_reducible refine (hL).mono ?_; rintro e w1 ⟨rfl, hb1⟩; have hs1 := hb1.size); have h1 := h.below hb1; have c1 := h1.blk.cell; have f1 := h1.blk.frozen; have l1 := h1.blk.lt)
  have hq : r.v.l.length = r.v.l.length := rfl
  go_loopw [2, 21] (fun vm vi wr => ∃ j m : Nat, j ≤ r.v.l.length ∧ vi = .int .i64 (j : Int) ∧ vm = .int .i64 (m : Int) ∧ m ≤ 4096 ∧ Hid (leastP r.acks (r.v.l.drop j) m = R) ∧ wr = w1) (fun _ vi _ => ((r.v.l.length : Int) - intOf vi).toNat)
  case atStart => exact ⟨0, _, by omega, rfl, rfl, hn4, by rw [List.drop_zero]; exact HR, rfl⟩
  case round =>
   obtain ⟨j, m, hj, rfl, rfl, hm4, hls, rfl⟩ := hrel
   obtain ⟨wo, rfl⟩ : ∃ wo : World, wo = wr := ⟨_, rfl⟩
   by_cases hlt : j < r.v.l.length
   ·obtain ⟨b, o, rfl, hbb, hcc⟩ := h1.rd.plain (by omega) (by omega)
    have hg : r.v.l[j]? = some r.v.l[j] := List.getElem?_eq_getElem (by omega)
    have m1 := hcc _ _ (ints_get hg)
    have hx := hmem.1 _ (List.getElem_mem hlt)
    have hst := leastP_step (acks := r.acks) (m := m) hg
    generalize r.v.l[j] = x at *
    have hx64 : I64 x := by unfold I64; omega
    have hlk := h1.mp.look hx64
    have hlj : (j : Int) < r.v.l.length := by omega
    rcases hkk : r.acks.lookup x with _ | k
    ·rw [hkk] at hst hlk
     simp only [Option.isSome_none, Option.getD_none] at hlk
     have HS := hide (hst.symm.trans hls.out)
     clear hst hls HR hcc hg hkk
     go_wp2
     refine bodyPost_ret (v := .tuple #[]) (by simp [results, Tryz.results34, go_sem] <;> rfl) rfl ⟨rfl, ?_⟩
     first | exact ⟨h1, Only.of_below hb1⟩ | (rw [← HS.out]; exact ⟨h1, Only.of_below hb1⟩)
    ·rw [hkk] at hst hlk
     simp only [Option.isSome_some, Option.getD_some] at hlk
     have HS := hide (hst.symm.trans hls.out)
     have hk4 := (hak _ (lookup_mem hkk)).1
     clear hst hls HR hcc hg hkk
     go_wp2
     go_roundw
     case rel => exact ⟨j + 1, min m k, by omega, by go_num, by first | rfl | (congr 1; omega), by omega, HS, by first | rfl | trivial⟩
     case measure => simp [intOf]; omega
   ·obtain rfl : j = r.v.l.length := by omega
    have hR : some m = R := by rw [← hls.out, List.drop_of_length_le (Nat.le_refl _)]; rfl
    subst hR
    clear hls HR
    by_cases hsm : r.sure < m
    ·have hsm' : (r.sure : Int) < m := by omega
     have hmx := hide (show max r.sure m = m by omega)
     go_wp2
     refine bodyPost_end (v := .tuple #[]) (by simp [results, Tryz.results34, go_sem] <;> rfl) rfl ⟨rfl, ?_⟩
     show RelX _ S T g { r with act := true, sure := max r.sure m } Am cm _ mb ∧ _
     rw [hmx.out]
     exact ⟨h1.cells (by (repeat' (first | with_reducible exact h1.blk | with_reducible exact Only.refl _ _ | with_reducible refine Only.set_ ?_ ?_ _ | with_reducible refine Only.alloc ?_ _ | with_reducible refine Only.ext ?_ _ | exact .inl rfl | (right; first | omega | (simp [World.size_ext]; done) | (simp [World.size_ext]; omega))))) (by (repeat' (first | with_reducible (first | exact h1.blk | refine Blk.ext ?_ _ | refine Blk.alloc ?_ _ | apply Blk.set_to | refine Blk.far ?_ ?_ _) | rfl | (simp [World.size_ext]; done) | (simp [World.size_ext]; omega)))) rfl rfl rfl, (Only.of_below hb1).trans (by (repeat' (first | with_reducible exact h1.blk | with_reducible exact Only.refl _ _ | with_reducible refine Only.set_ ?_ ?_ _ | with_reducible refine Only.alloc ?_ _ | with_reducible refine Only.ext ?_ _ | exact .inl rfl | (right; first | omega | (simp [World.size_ext]; done) | (simp [World.size_ext]; omega)))))⟩
    ·have hsm' : ¬(r.sure : Int) < m := by omega
     have hmx := hide (show max r.sure m = r.sure by omega)
     go_wp2
     refine bodyPost_end (v := .tuple #[]) (by simp [results, Tryz.results34, go_sem] <;> rfl) rfl ⟨rfl, ?_⟩
     show RelX _ S T g { r with act := true, sure := max r.sure m } Am cm _ mb ∧ _
     rw [hmx.out]
     exact ⟨h1.cells (by (repeat' (first | with_reducible exact h1.blk | with_reducible exact Only.refl _ _ | with_reducible refine Only.set_ ?_ ?_ _ | with_reducible refine Only.alloc ?_ _ | with_reducible refine Only.ext ?_ _ | exact .inl rfl | (right; first | omega | (simp [World.size_ext]; done) | (simp [World.size_ext]; omega))))) (by (repeat' (first | with_reducible (first | exact h1.blk | refine Blk.ext ?_ _ | refine Blk.alloc ?_ _ | apply Blk.set_to | refine Blk.far ?_ ?_ _) | rfl | (simp [World.size_ext]; done) | (simp [World.size_ext]; omega)))) rfl rfl rfl, (Only.of_below hb1).trans (by (repeat' (first | with_reducible exact h1.blk | with_reducible exact Only.refl _ _ | with_reducible refine Only.set_ ?_ ?_ _ | with_reducible refine Only.alloc ?_ _ | with_reducible refine Only.ext ?_ _ | exact .inl rfl | (right; first | omega | (simp [World.size_ext]; done) | (simp [World.size_ext]; omega)))))⟩
 ·have hl' : r.leads = false := by simpa using hl
  rw [hl'] at hL
  unfold settleP
  rw [if_neg hl]
  go_enter Tryz.func34, Tryz.ntmps34
  go_wp2_with ((go_at_call 32; with_reducible refine (hL).mono ?_; rintro e w1 ⟨rfl, hb1⟩; have hs1 := hb1.size))
  refine bodyPost_ret (v := .tuple #[]) (by simp [results, Tryz.results34, go_sem] <;> rfl) rfl ⟨rfl, ?_⟩
  exact ⟨h.below hb1, Only.of_below hb1⟩
end Go.Proofs.YtjhcgnmibnjocaaGreat

namespace Go.Proofs.YtjhcgnmibnjocaaGreat
open Go.RowKit Go.Maps
theorem settle_ok {r : Rl} (h : r.ok) : (settleP r).ok := by
 unfold settleP
 split
 ·cases hm : leastP r.acks r.v.l r.log.length with
  | none => exact h
  | some m =>
   have hle : m ≤ r.log.length := by
    have : ∀ (l : List Int) (k m : Nat), leastP r.acks l k = some m → m ≤ k := by
     intro l
     induction l with
     | nil => intro k m h; simp only [leastP, Option.some.injEq] at h; omega
     | cons x l ih =>
      intro k m h
      unfold leastP at h
      cases hx : r.acks.lookup x with
      | none => rw [hx] at h; cases h
      | some y => rw [hx] at h; have := ih _ _ h; omega
    exact this _ _ _ hm
   exact ⟨h.id, h.v, h.n, h.log, h.j, (by have := h.s; have := h.n; show max r.sure m ≤ 4096; omega), h.ak, h.an⟩
 ·exact h
theorem acked_ok {n : Int} {k : Nat} {l : List (Int × Nat)} (h : ∀ x ∈ l, x.2 ≤ 4096 ∧ 0 ≤ x.1 ∧ x.1 < 8) (hk : k ≤ 4096) (hn : 0 ≤ n ∧ n < 8) : ∀ x ∈ ackedL n k l, x.2 ≤ 4096 ∧ 0 ≤ x.1 ∧ x.1 < 8 := fun x hx => by
 rcases List.mem_cons.1 hx with rfl | hx
 ·exact ⟨hk, hn⟩
 ·exact h x (List.mem_filter.1 hx).1
theorem promise_ok {r : Rl} (h : r.ok) {v : Vi} (hv : v.right = true) : (promiseP r v).ok := by
 unfold promiseP
 refine settle_ok ?_
 have hb := right_bd hv
 split
 ·exact ⟨h.id, .inr hv, h.n, h.log, ⟨by show 0 ≤ v.e; omega, hb.2.1⟩, h.s, acked_ok (fun x hx => by cases hx) h.n h.id, acked_nodup List.nodup_nil⟩
 ·exact ⟨h.id, .inr hv, h.n, h.log, h.j, h.s, (fun x hx => by cases hx), List.nodup_nil⟩
theorem nodup_len : ∀ (l m : List Int), l.Nodup → (∀ x ∈ l, x ∈ m) → l.length ≤ m.length
 | [], _, _, _ => Nat.zero_le _
 | x :: l, m, hd, h => by
  rw [List.nodup_cons] at hd
  have h1 := nodup_len l (m.erase x) hd.2 (fun y hy => (List.mem_erase_of_ne (fun e : y = x => hd.1 (by rw [← e]; exact hy))).2 (h y (List.mem_cons_of_mem _ hy)))
  rw [List.length_erase_of_mem (h x List.mem_cons_self)] at h1
  have := List.length_pos_of_mem (h x List.mem_cons_self)
  simp only [List.length_cons]
  omega
theorem ack_len {l : List (Int × Nat)} (h : ∀ x ∈ l, x.2 ≤ 4096 ∧ 0 ≤ x.1 ∧ x.1 < 8) (hd : (l.map (·.1)).Nodup) : l.length ≤ 8 := by
 have h1 := nodup_len (l.map (·.1)) ((List.range 8).map fun n : Nat => (n : Int)) hd (fun x hx => by
  obtain ⟨y, hy, rfl⟩ := List.mem_map.1 hx
  have := h y hy
  exact List.mem_map.2 ⟨y.1.toNat, List.mem_range.2 (by omega), by omega⟩)
 simpa using h1
theorem Calls.abstr {P : Program} {f : FuncId} {args : Array Value} {W : World} {Q : Ending → World → Prop} (p : World → Prop) (hp : p W) (h : ∀ W', p W' → Calls P f args W' Q) : Calls P f args W Q := h W hp
theorem RelX.renew {w W : World} {S T : Nat → Prop} {g : Nat} {r r1 : Rl} {Am : Option Addr} {cm : Nat} {vl : Value} {mb : Nat} (h : RelX w S T g r Am cm vl mb) (ho : Only w W g) {A1 : Option Addr} {c1 m1 : Nat} (hB : Blk W g 77 #[.int .i64 r1.id, .int .i64 r1.v.e, .int .i64 r1.v.p, .slice A1 r1.v.l.length c1, vl, .int .i64 r1.joined, .int .i64 (r1.sure : Int), .map (some m1), .bool r1.act])
  (rd : Reads W W.heap.size 1 A1 r1.v.l.length (ints r1.v.l)) (mt : 0 < r1.v.l.length → ∀ a, A1 = some a → w.heap.size ≤ a.block ∧ a.block ≠ m1) (mp : Mp W m1 r1.acks) (hm : w.heap.size ≤ m1) (e2 : r1.log = r.log) :
  RelX W (fun k => S k ∨ k = m1) (fun k => T k ∨ k = m1) g r1 A1 c1 vl m1 := by
 have hk : Kp T w W := Kp.of_only ho (h.sub _ h.g)
 have hg := h.blk.lt
 refine ⟨hB, rd, fun h0 a ha ht => ?_, ?_, fun k hv => .inl (h.vs k hv), mp, .inr rfl, by omega, h.vg, fun hv => ?_, .inl h.g, fun k hs => hs.elim (fun hs => .inl (h.sub k hs)) .inr, fun k ht => ?_⟩
 ·obtain ⟨h1, h2⟩ := mt h0 a ha
  rcases ht with ht | ht
  ·have := h.lt _ ht; omega
  ·exact h2 ht
 ·rw [e2]
  exact (h.own.sub (fun k hk ht => ht.elim id (fun e => by omega))).keep (hk.weaken fun k => .inl) (fun k hv hl => ho.block k hl fun e => h.vg (e ▸ hv))
 ·have := h.lt _ (h.sub _ (h.vs _ hv)); omega
 ·rcases ht with ht | rfl
  ·exact Nat.lt_of_lt_of_le (h.lt _ ht) hk.size
  ·exact mp.lt
theorem RelX.acks {w W : World} {S T : Nat → Prop} {g : Nat} {r r1 : Rl} {Am : Option Addr} {cm : Nat} {vl : Value} {mb : Nat} (h : RelX w S T g r Am cm vl mb) (ho : Only w W mb) (mp : Mp W mb r1.acks)
  (e1 : r1 = { r with acks := r1.acks }) : RelX W S T g r1 Am cm vl mb := by
 have hk : Kp T w W := Kp.of_only ho (h.sub _ h.ms)
 rw [e1]
 exact ⟨Blk.only h.blk ho (fun e => h.mg e.symm), Reads.kp h.rd hk h.mt, h.mt, h.own.keep hk (fun k hv hl => ho.block k hl fun e => h.vm (e ▸ hv)), h.vs, mp, h.ms, h.mg, h.vg, h.vm, h.g, h.sub, fun k ht => Nat.lt_of_lt_of_le (h.lt k ht) ho.size⟩
set_option maxRecDepth 100000 in
set_option maxHeartbeats 4000000 in
theorem promise_any {S T : Nat → Prop} {g : Nat} {r : Rl} {Am : Option Addr} {cm : Nat} {vl : Value} {mb : Nat} (A : Option Addr) (c : Nat) (v : Vi) (w : World) (h : RelX w S T g r Am cm vl mb) (hok : r.ok) (hv : v.right = true) (hr : Reads w w.heap.size 1 A v.l.length (ints v.l)) :
  Calls Tryz.prog 27 #[.pointer (some ⟨g, 0, none⟩), .agg #[.int .i64 v.e, .int .i64 v.p, .slice A v.l.length c]] w fun e w' => e = .returned (.tuple #[]) ∧
   (∃ A1 c1 m1, RelX w' (fun k => S k ∨ k = m1) (fun k => T k ∨ k = m1) g (promiseP r v) A1 c1 vl m1 ∧ w.heap.size ≤ m1) ∧ Only w w' g := by
 have hmm := @run_makeMap Tryz.prog
 have hb := right_bd hv
 have hl8 := rising_len hb.2.2.1
 have hB0 := h.blk.alloc (.cells #[.int .i64 v.e, .int .i64 v.p, .slice A v.l.length c] 44)
 have hP0 := Blk.new w 44 #[.int .i64 v.e, .int .i64 v.p, .slice A v.l.length c]
 have hk := clone_any A v.l.length c v.l (w.alloc (.cells #[.int .i64 v.e, .int .i64 v.p, .slice A v.l.length c] 44)) ((hr.alloc (Nat.le_refl _) _).more (by simp)) (by omega)
 have l0 := h.blk.lt
 have hp : w.heap.size ≠ g := by omega
 obtain ⟨r1, hr1⟩ : ∃ r1 : Rl, r1 = { r with v := v, act := false, acks := [] } := ⟨_, rfl⟩
 have HP : Hid (promiseP r v = settleP (if r1.leads then { r with v := v, act := false, joined := v.e, acks := ackedL r.id r.log.length [] } else r1)) := show _ = _ by rw [hr1]; rfl
 have hok1 : r1.ok := by rw [hr1]; exact ⟨hok.id, .inr hv, hok.n, hok.log, hok.j, hok.s, (fun x hx => by cases hx), List.nodup_nil⟩
 obtain ⟨ms, _, hown, _⟩ := h.own.ex
 obtain ⟨Al, cl, hvl, hcl⟩ := own_sl hown
 clear hown
 subst hvl
 rcases hl' : r1.leads
 rotate_left 1
 ·skip
  go_enter Tryz.func27, Tryz.ntmps27
  go_wp2_with (first | (go_at_call 65; (with_reducible refine hk.mono ?_); rintro e w1 ⟨⟨u, rfl, ho⟩, hb1⟩; obtain ⟨A1, c1, rfl, hc1⟩ := own_sl ho; have hB1 := hB0.below hb1 (by simp; omega); have hP1 := hP0.below hb1 (by simp); have cB1 := hB1.cell; have fB1 := hB1.frozen; have lB1 := hB1.lt; have cP1 := hP1.cell; have fP1 := hP1.frozen; have lP1 := hP1.lt; have hs1 := hb1.size; (simp only [World.size_alloc] at hs1); have hOW : Only w w1 g := (Only.alloc (Only.refl w g) _).trans (Only.of_below hb1)) | (go_at_call 32; refine Calls.abstr (fun W => RelX W (fun k => S k ∨ k = w1.heap.size) (fun k => T k ∨ k = w1.heap.size) g r1 A1 c1 (.slice Al r.log.length cl) w1.heap.size ∧ Only w W g ∧ Blk W w.heap.size 44 #[.int .i64 v.e, .int .i64 v.p, .slice A1 v.l.length c1]) ?h1 (fun w2 hw2 => ?_); rotate_left 1; obtain ⟨hX2, ho2, hP2⟩ := hw2; (with_reducible refine (leads_any w2 hX2).mono ?_); rintro e w3 ⟨rfl, hb3⟩; rw [hl']; have hX3 := hX2.below hb3; have hP3 := hP2.below hb3 hP2.lt; have cX3 := hX3.blk.cell; have fX3 := hX3.blk.frozen; have lX3 := hX3.blk.lt; have cP3 := hP3.cell; have lP3 := hP3.lt))
  case h1 => (have hB2 := hB1.far (p := ⟨w.heap.size, 2, none⟩) (Ne.symm hp) (.slice A1 v.l.length c1); exact ⟨h.renew (by (repeat' (first | with_reducible exact hOW | with_reducible exact Only.refl _ _ | with_reducible refine Only.set_ ?_ ?_ _ | with_reducible refine Only.alloc ?_ _ | with_reducible refine Only.ext ?_ _ | exact .inl rfl | (right; first | omega | (simp [World.size_ext]; done) | (simp [World.size_ext]; omega))))) (by rw [hr1]; (repeat' (first | with_reducible (first | exact hB2 | refine Blk.ext ?_ _ | refine Blk.alloc ?_ _ | apply Blk.set_to | refine Blk.far ?_ ?_ _) | rfl | (simp [World.size_ext]; done) | (simp [World.size_ext]; omega)))) (by rw [hr1]; exact Reads.of_own (own_alloc (own_set (own_set (own_set (own_set (own_set (own_set ho (by simp) _) (by simp; omega) _) (by simp; omega) _) (by simp; omega) _) (by simp; omega) _) (by simp; omega) _) _)) (by intro _ a ha; have h1 := own_addr ho a ha; (simp only [World.size_alloc] at h1); omega) (by have := Mp.made ((((((w1.setCell ⟨w.heap.size, 2, none⟩ (.slice A1 v.l.length c1)).setCell ⟨g, 1, none⟩ (.int .i64 v.e)).setCell ⟨g, 2, none⟩ (.int .i64 v.p)).setCell ⟨g, 3, none⟩ (.slice A1 v.l.length c1)).setCell ⟨g, 8, none⟩ (.bool false)).setCell ⟨g, 7, none⟩ (.map (some w1.heap.size))); rw [hr1]; simpa using this) (by omega) (by rw [hr1]), (by (repeat' (first | with_reducible exact hOW | with_reducible exact Only.refl _ _ | with_reducible refine Only.set_ ?_ ?_ _ | with_reducible refine Only.alloc ?_ _ | with_reducible refine Only.ext ?_ _ | exact .inl rfl | (right; first | omega | (simp [World.size_ext]; done) | (simp [World.size_ext]; omega))))), (by (repeat' (first | with_reducible (first | exact hP1 | refine Blk.ext ?_ _ | refine Blk.alloc ?_ _ | apply Blk.set_to | refine Blk.far ?_ ?_ _) | rfl | (simp [World.size_ext]; done) | (simp [World.size_ext]; omega))))⟩)
  refine abstr (fun W => RelX W (fun k => S k ∨ k = w1.heap.size) (fun k => T k ∨ k = w1.heap.size) g { r1 with joined := v.e } A1 c1 (.slice Al r.log.length cl) w1.heap.size ∧ Only w W g) ⟨?_, ?_⟩ (fun w4 hw4 => ?_)
  rotate_left 2
  ·obtain ⟨hX4, ho4⟩ := hw4
   clear hX2 ho2 hP2 hX3 hP3 cX3 fX3 lX3 cP3 lP3 hB1 hP1 cB1 fB1 lB1 cP1 fP1 lP1 hB0 hP0
   have cX4 := hX4.blk.cell
   have lX4 := hX4.blk.lt
   have e0 : r1.acks = [] := by rw [hr1]
   have e1 : r1.log.length = r.log.length := by rw [hr1]
   have e2 : r1.id = r.id := by rw [hr1]
   refine First.wp_region_first_ext [3, 7, 11] [0, 1, 2, 4, 5, 6, 8, 9, 10, 12] [(true, false, 0), (true, false, 1), (true, false, 2), (true, true, 3), (true, false, 4), (true, false, 5), (true, false, 6), (true, true, 7), (true, false, 8), (true, false, 9), (true, false, 10), (true, true, 11), (true, false, 12), (false, false, 13)] (by kernel_rfl) (by kernel_rfl) (fun X => ?_); simp only [List.map_cons, List.map_nil, List.getD_cons_zero, List.getD_cons_succ]
   have hmp : Mp (w4.ext X) w1.heap.size [] := by
    have := hX4.mp.kp (Kp.of_below (S := fun _ => False) (World.below_ext w4 X)) (fun h => h)
    rwa [show ({ r1 with joined := v.e } : Rl).acks = [] from e0] at this
   (repeat (first | (refine wfp fun K hK => ?_; go_simp; refine hK _ _ ?_; clear hK K) | (refine wff fun K hK => ?_; go_simp; refine hK _ _ ?_; clear hK K)))
   refine First.wpF_must (fun K hK => ?_)
   go_wp2_with (at_mapUpdate; refine wpList_put rfl _ _ _ rfl w1.heap.size [] rfl hmp r.id r.log.length rfl rfl (by have := hok.id; unfold I64; omega) (by have := hok.n; omega) (by simp) List.nodup_nil (fun w5 hm5 ho5 => ?_))
   (refine hK _ _ (fun hnd => by first | exact Bool.noConfusion hnd | assumption | with_reducible (first | exact grown_alloc _ _ | exact First.Grown.refl _ | exact First.Grown.cat _ _ _ | exact First.Grown.ext _ _)) ?_; clear hK K)
   refine First.wpF_nil ?_
   have hX5 : RelX w5 (fun k => S k ∨ k = w1.heap.size) (fun k => T k ∨ k = w1.heap.size) g { r1 with joined := v.e, acks := ackedL r.id r.log.length [] } A1 c1 (.slice Al r.log.length cl) w1.heap.size :=
    (hX4.below (World.below_ext w4 X)).acks ho5 hm5 rfl
   have hok5 : ({ r1 with joined := v.e, acks := ackedL r.id r.log.length [] } : Rl).ok := ⟨hok1.id, hok1.v, hok1.n, hok1.log, ⟨by show 0 ≤ v.e; omega, hb.2.1⟩, hok1.s, acked_ok (fun x hx => by cases hx) hok.n hok.id, acked_nodup List.nodup_nil⟩
   have hk5 : Only w w5 g := ⟨ho5.os.trans ho4.os, ho5.tape.trans ho4.tape, ho5.output.trans ho4.output, Nat.le_trans ho4.size (by have := ho5.size; simp only [World.size_ext] at this; omega), fun k hk hg => ((ho5.block k (by have := ho4.size; simp only [World.size_ext]; omega) (by omega)).trans (World.heap_ext (by have := ho4.size; omega))).trans (ho4.block k hk hg)⟩
   have hE : ({ r1 with joined := v.e, acks := ackedL r.id r.log.length [] } : Rl) = { r with v := v, act := false, joined := v.e, acks := ackedL r.id r.log.length [] } := by rw [hr1]
   have hcs := settle_any w5 hX5 hok5
   rw [hE] at hcs
   clear hX5 hX4 cX4 hmp hm5
   go_wp2_with (go_at_call 34; (with_reducible refine hcs.mono ?_); rintro e w6 ⟨rfl, hX6, ho6⟩)
   refine bodyPost_end (v := .tuple #[]) (by simp [results, Tryz.results27, go_sem] <;> rfl) rfl ⟨rfl, ?_⟩
   rw [HP.out, if_pos hl']
   exact ⟨⟨A1, c1, _, hX6, by omega⟩, hk5.trans ho6⟩
  ·exact hX3.cells (by (repeat' (first | with_reducible exact hX3.blk | with_reducible exact Only.refl _ _ | with_reducible refine Only.set_ ?_ ?_ _ | with_reducible refine Only.alloc ?_ _ | with_reducible refine Only.ext ?_ _ | exact .inl rfl | (right; first | omega | (simp [World.size_ext]; done) | (simp [World.size_ext]; omega))))) (by (repeat' (first | with_reducible (first | exact hX3.blk | refine Blk.ext ?_ _ | refine Blk.alloc ?_ _ | apply Blk.set_to | refine Blk.far ?_ ?_ _) | rfl | (simp [World.size_ext]; done) | (simp [World.size_ext]; omega)))) rfl rfl rfl
  ·exact (ho2.trans (Only.of_below hb3)).set_ (.inl rfl) _
 ·skip
  go_enter Tryz.func27, Tryz.ntmps27
  go_wp2_with (first | (go_at_call 65; (with_reducible refine hk.mono ?_); rintro e w1 ⟨⟨u, rfl, ho⟩, hb1⟩; obtain ⟨A1, c1, rfl, hc1⟩ := own_sl ho; have hB1 := hB0.below hb1 (by simp; omega); have hP1 := hP0.below hb1 (by simp); have cB1 := hB1.cell; have fB1 := hB1.frozen; have lB1 := hB1.lt; have cP1 := hP1.cell; have fP1 := hP1.frozen; have lP1 := hP1.lt; have hs1 := hb1.size; (simp only [World.size_alloc] at hs1); have hOW : Only w w1 g := (Only.alloc (Only.refl w g) _).trans (Only.of_below hb1)) | (go_at_call 32; refine Calls.abstr (fun W => RelX W (fun k => S k ∨ k = w1.heap.size) (fun k => T k ∨ k = w1.heap.size) g r1 A1 c1 (.slice Al r.log.length cl) w1.heap.size ∧ Only w W g ∧ Blk W w.heap.size 44 #[.int .i64 v.e, .int .i64 v.p, .slice A1 v.l.length c1]) ?h1 (fun w2 hw2 => ?_); rotate_left 1; obtain ⟨hX2, ho2, hP2⟩ := hw2; (with_reducible refine (leads_any w2 hX2).mono ?_); rintro e w3 ⟨rfl, hb3⟩; rw [hl']; have hX3 := hX2.below hb3; have hP3 := hP2.below hb3 hP2.lt; have cX3 := hX3.blk.cell; have fX3 := hX3.blk.frozen; have lX3 := hX3.blk.lt; have cP3 := hP3.cell; have lP3 := hP3.lt) | (go_at_call 34; (with_reducible refine (settle_any w3 hX3 hok1).mono ?_); rintro e w6 ⟨rfl, hX6, ho6⟩))
  case h1 => (have hB2 := hB1.far (p := ⟨w.heap.size, 2, none⟩) (Ne.symm hp) (.slice A1 v.l.length c1); exact ⟨h.renew (by (repeat' (first | with_reducible exact hOW | with_reducible exact Only.refl _ _ | with_reducible refine Only.set_ ?_ ?_ _ | with_reducible refine Only.alloc ?_ _ | with_reducible refine Only.ext ?_ _ | exact .inl rfl | (right; first | omega | (simp [World.size_ext]; done) | (simp [World.size_ext]; omega))))) (by rw [hr1]; (repeat' (first | with_reducible (first | exact hB2 | refine Blk.ext ?_ _ | refine Blk.alloc ?_ _ | apply Blk.set_to | refine Blk.far ?_ ?_ _) | rfl | (simp [World.size_ext]; done) | (simp [World.size_ext]; omega)))) (by rw [hr1]; exact Reads.of_own (own_alloc (own_set (own_set (own_set (own_set (own_set (own_set ho (by simp) _) (by simp; omega) _) (by simp; omega) _) (by simp; omega) _) (by simp; omega) _) (by simp; omega) _) _)) (by intro _ a ha; have h1 := own_addr ho a ha; (simp only [World.size_alloc] at h1); omega) (by have := Mp.made ((((((w1.setCell ⟨w.heap.size, 2, none⟩ (.slice A1 v.l.length c1)).setCell ⟨g, 1, none⟩ (.int .i64 v.e)).setCell ⟨g, 2, none⟩ (.int .i64 v.p)).setCell ⟨g, 3, none⟩ (.slice A1 v.l.length c1)).setCell ⟨g, 8, none⟩ (.bool false)).setCell ⟨g, 7, none⟩ (.map (some w1.heap.size))); rw [hr1]; simpa using this) (by omega) (by rw [hr1]), (by (repeat' (first | with_reducible exact hOW | with_reducible exact Only.refl _ _ | with_reducible refine Only.set_ ?_ ?_ _ | with_reducible refine Only.alloc ?_ _ | with_reducible refine Only.ext ?_ _ | exact .inl rfl | (right; first | omega | (simp [World.size_ext]; done) | (simp [World.size_ext]; omega))))), (by (repeat' (first | with_reducible (first | exact hP1 | refine Blk.ext ?_ _ | refine Blk.alloc ?_ _ | apply Blk.set_to | refine Blk.far ?_ ?_ _) | rfl | (simp [World.size_ext]; done) | (simp [World.size_ext]; omega))))⟩)
  refine bodyPost_end (v := .tuple #[]) (by simp [results, Tryz.results27, go_sem] <;> rfl) rfl ⟨rfl, ?_⟩
  rw [HP.out, if_neg (by rw [hl']; decide)]
  exact ⟨⟨A1, c1, _, hX6, by omega⟩, (ho2.trans (Only.of_below hb3)).trans ho6⟩
end Go.Proofs.YtjhcgnmibnjocaaGreat

namespace Go.Proofs.YtjhcgnmibnjocaaGreat
open Go.RowKit Go.Maps
theorem infoEnt : (Tryz.prog.info? 65).map (fun i => (i.zero, i.size, i.bytes)) = some (some (.agg #[.int .i64 0, .slice none 0 0]), 2, 32) := by kernel_rfl
theorem Bsl.exR {w : World} {T : Nat → Prop} {v : Value} {t : List Nat} (h : Bsl w T v t) : ∃ A c, v = .slice A t.length c ∧ Reads w w.heap.size 1 A t.length (u8s t) ∧ (A = none → c = 0) := by
 obtain ⟨⟨A, c, e, hr, hn, _⟩, _⟩ := h
 exact ⟨A, c, e, hr, hn⟩
set_option maxHeartbeats 1000000 in
theorem cloneB_any {T : Nat → Prop} (u : Value) (t : List Nat) (w : World) (h : Bsl w T u t) (hn : t.length ≤ 1000000) :
  Calls Tryz.prog 33 #[u] w fun e w' => ∃ v, e = .returned v ∧ Row w' w.heap.size v t ∧ Below w.heap.size w w' := by
 obtain ⟨A, c, rfl, hr, hnil⟩ := h.exR
 obtain ⟨i0, hi, hz0, hz1, hz2⟩ := info_parts infoU8
 have q : ∀ (w : World) (a : Option Addr) (n c n' c' : Nat), (binOp .eql 36 (.slice a n c) (.slice none n' c')).run Tryz.prog w = .ok (.bool a.isNone) w := fun w a n c n' c' => Lib.run_eql_slice_nil w _ _ a n c n' c' Tryz.underlying36
 cases A with
 | none =>
  obtain rfl : t = [] := by
   rcases Nat.eq_zero_or_pos t.length with h | h
   ·exact List.eq_nil_of_length_eq_zero h
   ·obtain ⟨_, e, _⟩ := hr.2 h; cases e
  go_enter Tryz.func33, Tryz.ntmps33
  go_wp2
  go_ret
  exact ⟨_, rfl, Row.nil _ _, Below.refl _ _⟩
 | some ad =>
  have hc : ∀ j x, (u8s t)[j]? = some x → (w.alloc (.cells #[] 5)).cell? (ad.add j) = some x := fun j x hu => by
   have hn0 : 0 < t.length := by
    have := (List.getElem?_eq_some_iff.1 hu).1
    rw [u8s_length] at this
    omega
   obtain ⟨ad', e, hb, h⟩ := hr.2 hn0
   cases e
   rw [World.cell?_alloc_lt w _ _ (by rw [block_of_add]; exact hb)]
   exact h j x hu
  go_enter Tryz.func33, Tryz.ntmps33
  go_wp2_with (at_builtin; refine wpList_append_own _ rfl _ _ 36 rfl w.heap.size 5 i0 (.int .u8 0) 1 1 Tryz.underlying36 hi hz0 hz1 hz2 rfl (by decide) _ _ _ rfl (World.ownsRow_made w #[] 0 (Nat.le_refl _) (Nat.zero_le _) rfl) ad t.length c (u8s t) rfl ?qc1 ?qc2 ?qc3 ?qc4 ?qc5 ?qc6 ?_)
  case qc1 => simp [u8s_length]
  case qc2 => exact hc
  case qc3 => intro u hu; simp only [u8s, List.mem_map] at hu; obtain ⟨x, _, rfl⟩ := hu; rfl
  case qc4 => unfold maxLen; omega
  case qc5 => omega
  case qc6 => simp
  intro v' w1 hown hgrow hnil
  go_wp2
  go_ret
  exact ⟨v', rfl, by simpa [Row] using hown, ((Below.refl _ w).alloc (Nat.le_refl _) _).grown hgrow (by simp) (by intro k hk; simp [Value.ownBlock] at hk; omega)⟩
set_option maxHeartbeats 1000000 in
theorem cloneE_any (A : Option Addr) (n c : Nat) (ms : List Em) (w : World) (hr : Reads w w.heap.size 2 A n (emV ms)) (hm : ∀ m ∈ ms, ∃ a n c, m.v = .slice a n c) (hn : n ≤ 4096) (hl : ms.length = n) :
  Calls Tryz.prog 74 #[.slice A n c] w fun e w' => ∃ v, e = .returned v ∧ w'.ownsRow w.heap.size 65 2 v n (emV ms) ∧ Below w.heap.size w w' := by
 obtain ⟨i0, hi, hz0, hz1, hz2⟩ := info_parts infoEnt
 have q : ∀ (w : World) (a : Option Addr) (n c n' c' : Nat), (binOp .eql 58 (.slice a n c) (.slice none n' c')).run Tryz.prog w = .ok (.bool a.isNone) w := fun w a n c n' c' => Lib.run_eql_slice_nil w _ _ a n c n' c' Tryz.underlying58
 cases A with
 | none =>
  obtain rfl : n = 0 := by
   rcases Nat.eq_zero_or_pos n with h | h
   ·exact h
   ·obtain ⟨_, e, _⟩ := hr.2 h; cases e
  obtain rfl : ms = [] := List.eq_nil_of_length_eq_zero hl
  go_enter Tryz.func74, Tryz.ntmps74
  go_wp2
  go_ret
  exact ⟨_, rfl, World.ownsRow_nil _ _ _ _, Below.refl _ _⟩
 | some ad =>
  have hc : ∀ j x, (emV ms)[j]? = some x → (w.alloc (.cells #[] 65)).cell? (ad.add j) = some x := fun j x hu => by
   have hn0 : 0 < n := by
    have := (List.getElem?_eq_some_iff.1 hu).1
    rw [emV_length] at this
    omega
   obtain ⟨ad', e, hb, h⟩ := hr.2 hn0
   cases e
   rw [World.cell?_alloc_lt w _ _ (by rw [block_of_add]; exact hb)]
   exact h j x hu
  go_enter Tryz.func74, Tryz.ntmps74
  go_wp2_with (at_builtin; refine wpList_append_own _ rfl _ _ 58 rfl w.heap.size 65 i0 (.agg #[.int .i64 0, .slice none 0 0]) 2 32 Tryz.underlying58 hi hz0 hz1 hz2 rfl (by decide) _ _ _ rfl (World.ownsRow_made w #[] 0 (Nat.le_refl _) (Nat.zero_le _) rfl) ad n c (emV ms) rfl ?qc1 ?qc2 ?qc3 ?qc4 ?qc5 ?qc6 ?_)
  case qc1 => simp [emV_length, hl]
  case qc2 => exact hc
  case qc3 =>
   intro u hu
   simp only [emV, rowsV, List.mem_flatMap] at hu
   obtain ⟨m, hmm, hu⟩ := hu
   obtain ⟨a, n', c', e⟩ := hm m hmm
   simp only [Em.cells, e, List.mem_cons, List.not_mem_nil, or_false] at hu
   rcases hu with rfl | rfl <;> rfl
  case qc4 => unfold maxLen; omega
  case qc5 => omega
  case qc6 => simp
  intro v' w1 hown hgrow hnil
  go_wp2
  go_ret
  exact ⟨v', rfl, by simpa using hown, ((Below.refl _ w).alloc (Nat.le_refl _) _).grown hgrow (by simp) (by intro k hk; simp [Value.ownBlock] at hk; omega)⟩
end Go.Proofs.YtjhcgnmibnjocaaGreat

namespace Go.Proofs.YtjhcgnmibnjocaaGreat
open Go.RowKit Go.Maps
theorem emV_get {ms : List Em} {i : Nat} {m : Em} (h : ms[i]? = some m) : (emV ms)[i * 2]? = some (.int .i64 m.x.e) ∧ (emV ms)[i * 2 + 1]? = some m.v :=
 ⟨rowsV_get (k := 2) Em.cells_len ms i m h 0 _ rfl, rowsV_get (k := 2) Em.cells_len ms i m h 1 _ rfl⟩
theorem emV_cons (m : Em) (ms : List Em) : emV (m :: ms) = .int .i64 m.x.e :: m.v :: emV ms := rfl
theorem emV_set : ∀ {ms : List Em} {j : Nat} {m : Em} (v : Value), ms[j]? = some m → emV (ms.set j ⟨m.x, v⟩) = (emV ms).set (j * 2 + 1) v
 | [], j, m, v, h => by simp at h
 | a :: ms, 0, m, v, h => by
  simp at h
  subst h
  rfl
 | a :: ms, j + 1, m, v, h => by
  rw [List.set_cons_succ, emV_cons, emV_cons, emV_set v (by simpa using h), show (j + 1) * 2 + 1 = j * 2 + 1 + 1 + 1 by omega]
  rfl
theorem own_put {w : World} {base n cap b k : Nat} {e : TypeId} {u : Value} {xs : List Value} (h : w.ownsRow base e 2 (.slice (some ⟨b, 0, none⟩) n cap) n xs) (hk : k < n * 2) : (w.setCell ⟨b, k, none⟩ u).ownsRow base e 2 (.slice (some ⟨b, 0, none⟩) n cap) n (xs.set k u) := by
 refine ⟨by rw [List.length_set]; exact h.1, ?_⟩
 rcases h.2 with ⟨h', _⟩ | ⟨g, cap', cur, hv, hb, hh, hnc, hm, hsz, htk⟩
 ·cases h'
 ·cases hv
  refine .inr ⟨b, cap, cur.setIfInBounds k u, rfl, hb, Blk.set_ hh k u, hnc, hm, by rw [Array.size_setIfInBounds]; exact hsz, ?_⟩
  rw [← htk, Array.toList_setIfInBounds, List.take_set]
theorem own_cellE {w : World} {base n cap b i : Nat} {e : TypeId} {xs : List Value} {u : Value} (h : w.ownsRow base e 2 (.slice (some ⟨b, 0, none⟩) n cap) n xs) (hi : xs[i]? = some u) : w.cell? ⟨b, i, none⟩ = some u ∧ w.frozen? ⟨b, i, none⟩ = false ∧ b < w.heap.size := by
 rcases h.2 with ⟨h', _⟩ | ⟨g, cap', cur, hv, hb, hh, hnc, hm, hsz, htk⟩
 ·cases h'
 ·cases hv
  refine ⟨?_, blk_frozen hh i, blk_lt hh⟩
  rw [blk_cell hh]
  rw [← htk, List.getElem?_take] at hi
  split at hi
  ·simpa using hi
  ·cases hi
theorem own_some {w : World} {base n cap : Nat} {e : TypeId} {A : Option Addr} {xs : List Value} (h : w.ownsRow base e 2 (.slice A n cap) n xs) (hn : 0 < n) : ∃ b, A = some ⟨b, 0, none⟩ := by
 rcases h.2 with ⟨h', h0⟩ | ⟨g, cap', cur, hv, _⟩
 ·omega
 ·cases hv
  exact ⟨g, rfl⟩
def Old (n : Nat) (v : Value) : Nat → Prop := fun k => k < n ∨ v.ownBlock = some k
theorem Bsl.sl {w : World} {T : Nat → Prop} {v : Value} {t : List Nat} (h : Bsl w T v t) : ∃ a n c, v = .slice a n c := by
 obtain ⟨A, c, e, _⟩ := h.ex
 exact ⟨A, _, c, e⟩
theorem Bsl.keep {w w' : World} {T : Nat → Prop} {v : Value} {t : List Nat} (h : Bsl w T v t) (hs : w.heap.size ≤ w'.heap.size) (hk : ∀ k, k < w.heap.size → ¬T k → w'.heap[k]? = w.heap[k]?) : Bsl w' T v t := by
 obtain ⟨⟨A, c, e, hr, hn, hT, h1, h2⟩, hb⟩ := h
 refine ⟨⟨A, c, e, ⟨hr.1, fun h0 => ?_⟩, hn, hT, h1, h2⟩, hb⟩
 obtain ⟨ad, e', hl, hc⟩ := hr.2 h0
 refine ⟨ad, e', Nat.lt_of_lt_of_le hl hs, fun j u hu => ?_⟩
 have := hc j u hu
 unfold World.cell? at this ⊢
 rw [hk _ (by rw [block_of_add]; exact hl) (by rw [block_of_add]; exact hT h0 _ e')]
 exact this
set_option maxRecDepth 100000 in
set_option maxHeartbeats 4000000 in
theorem twins_any {T : Nat → Prop} (A : Option Addr) (n c : Nat) (l : List Ent) (w : World) (h : Ents w T A n l) (hn : n ≤ 4096) :
  Calls Tryz.prog 36 #[.slice A n c] w fun e w' => ∃ A1 c1, e = .returned (.slice A1 n c1) ∧ OwnE w' (Old w.heap.size (.slice A1 n c1)) w.heap.size (.slice A1 n c1) l ∧ Below w.heap.size w w' := by
 obtain ⟨⟨ms, he, hr, hm⟩, hln, _⟩ := h
 have hmn : ms.length = n := by rw [← hln, ← he, List.length_map]
 have hc := cloneE_any A n c ms w hr (fun m hmm => (hm m hmm).1.sl) hn hmn
 go_enter Tryz.func36, Tryz.ntmps36
 go_wp2_with (go_at_call 74; (with_reducible refine hc.mono ?_); rintro e w1 ⟨v1, rfl, ho1, hb1⟩; obtain ⟨A1, c1, rfl, hc1⟩ := own_sl ho1)
 have hA1 := own_addr ho1
 go_loopw [9] (fun vi wr => ∃ (j : Nat) (ns : List Em), j ≤ n ∧ vi = .int .i64 (j : Int) ∧ ns.map Em.x = l ∧ wr.ownsRow w.heap.size 65 2 (.slice A1 n c1) n (emV ns) ∧ Below w.heap.size w wr ∧ w1.heap.size ≤ wr.heap.size ∧ (∀ i m, ns[i]? = some m → m.x.ok ∧ if i < j then Bsl wr (Old w.heap.size (.slice A1 n c1)) m.v m.x.t else Bsl w T m.v m.x.t)) (fun vi _ => ((n : Int) - intOf vi).toNat)
 case atStart => exact ⟨0, ms, by omega, rfl, he, ho1, hb1, Nat.le_refl _, fun i m hi => ⟨(hm m (List.mem_of_getElem? hi)).2, (hm m (List.mem_of_getElem? hi)).1⟩⟩
 case round =>
  clear ho1
  obtain ⟨j, ns, hj, rfl, hns, ho, hb, hsz, hE⟩ := hrel
  obtain ⟨wo, rfl⟩ : ∃ wo : World, wo = wr := ⟨_, rfl⟩
  have hnl : ns.length = n := by rw [← hln, ← hns, List.length_map]
  by_cases hlt : j < n
  ·have hlj : (j : Int) < n := by omega
   obtain ⟨b, rfl⟩ := own_some ho (by omega)
   have hg : ns[j]? = some ns[j] := List.getElem?_eq_getElem (by omega)
   obtain ⟨hmo, hB⟩ := hE j _ hg
   rw [if_neg (by omega)] at hB
   have hcells := own_cellE ho (emV_get hg).2
   obtain ⟨m1, f1, l1⟩ := hcells
   have hSet := fun v => emV_set v hg
   have hgx : Hid (ns[j]? = some ns[j]) := hide hg
   have hbn : w.heap.size ≤ b := (hA1 _ rfl).1
   have hb1s : b < w1.heap.size := (hA1 _ rfl).2
   generalize ns[j] = mj at *
   have hBo : Bsl wo (fun k => w.heap.size ≤ k) mj.v mj.x.t := (hB.sub (T' := fun k => w.heap.size ≤ k) (fun k hk h => by omega)).keep hb.size (fun k hk _ => hb.block k hk)
   have hcl := cloneB_any mj.v mj.x.t wo hBo (by have := hmo.n; omega)
   obtain ⟨vA, vn, vc, hv⟩ := hB.sl
   rw [hv] at m1 hcl
   have HO := hide (⟨ho, hE, hSet, hB, hBo⟩ : _ ∧ _ ∧ _ ∧ _ ∧ _)
   clear ho hE hSet hB hBo hg
   go_wp2_with (go_at_call 33; (with_reducible refine hcl.mono ?_); rintro e w2 ⟨v2, rfl, hr2, hb2⟩; have hs2 := hb2.size; have f2 := (hb2.frozen (p := ⟨b, j * 2 + 1, none⟩) l1).trans f1; obtain ⟨A2, n2, c2, rfl⟩ := hr2.shape; have m2 := (hb2.cell (p := ⟨b, j * 2 + 1, none⟩) l1).trans m1; have l2 : b < w2.heap.size := by omega)
   go_roundw
   case rel =>
    obtain ⟨ho, hE, hSet, hB, hBo⟩ := HO.out
    have hjl : j < ns.length := by omega
    have ho2 : w2.ownsRow w.heap.size 65 2 (.slice (some ⟨b, 0, none⟩) n c1) n (emV ns) := own_keep ho fun k _ hk => hb2.block k hk
    refine ⟨j + 1, ns.set j ⟨mj.x, .slice A2 n2 c2⟩, by omega, by go_num, ?_, ?_, (hb.trans (hb2.mono (by omega))).setCell (by show w.heap.size ≤ b; omega) _, by simp; omega, fun i m hi => ?_⟩
    ·rw [← hns]
     apply List.ext_getElem?
     intro i
     rw [List.getElem?_map, List.getElem?_set, List.getElem?_map]
     by_cases hij : j = i
     ·subst hij
      rw [if_pos rfl, if_pos hjl, hgx.out]
      rfl
     ·rw [if_neg hij]
    ·rw [hSet]
     exact own_put ho2 (by omega)
    ·have hW : ∀ {v : Value} {t : List Nat}, Bsl wo (Old w.heap.size (.slice (some ⟨b, 0, none⟩) n c1)) v t → Bsl (w2.setCell ⟨b, j * 2 + 1, none⟩ (.slice A2 n2 c2)) (Old w.heap.size (.slice (some ⟨b, 0, none⟩) n c1)) v t := fun h => h.keep (by simp; omega) (fun k hk hT => (Below.heap_setCell w2 ⟨b, _, none⟩ _ k (fun e => hT (.inr (by rw [e]; rfl)))).trans (hb2.block k hk))
     rw [List.getElem?_set] at hi
     by_cases hij : j = i
     ·subst hij
      rw [if_pos rfl, if_pos hjl] at hi
      cases hi
      rw [if_pos (by omega)]
      refine ⟨hmo, ?_⟩
      have hbs : Bsl w2 (fun k => k < wo.heap.size) (.slice A2 n2 c2) mj.x.t := Bsl.row hr2 (fun k hk => hk) hmo.by_
      exact (hbs.sub (T' := Old w.heap.size (.slice (some ⟨b, 0, none⟩) n c1)) (fun k _ h => by
       rcases h with h | h
       ·show k < wo.heap.size; omega
       ·cases h; show b < wo.heap.size; exact l1)).keep (by simp) (fun k hk hT => Below.heap_setCell w2 ⟨b, _, none⟩ _ k (fun e => hT (.inr (by rw [e]; rfl))))
     ·rw [if_neg hij] at hi
      obtain ⟨h1, h2⟩ := hE i m hi
      refine ⟨h1, ?_⟩
      by_cases hi1 : i < j
      ·rw [if_pos hi1] at h2
       rw [if_pos (by omega)]
       exact hW h2
      ·rw [if_neg hi1] at h2
       rw [if_neg (by omega)]
       exact h2
   case measure => simp [intOf]; omega
  ·obtain rfl : j = n := by omega
   have HO := hide (⟨ho, hE⟩ : _ ∧ _)
   clear ho hE
   go_wp2
   go_ret
   obtain ⟨ho, hE⟩ := HO.out
   refine ⟨A1, c1, rfl, ⟨ns, hns, by rw [hln]; exact ho, fun m hmm => ?_⟩, hb⟩
   obtain ⟨i, hi, rfl⟩ := List.getElem_of_mem hmm
   obtain ⟨h1, h2⟩ := hE i _ (List.getElem?_eq_getElem hi)
   rw [if_pos (by omega)] at h2
   exact ⟨h2, h1⟩
end Go.Proofs.YtjhcgnmibnjocaaGreat

namespace Go.Proofs.YtjhcgnmibnjocaaGreat
open Go.RowKit Go.Maps
theorem entB_le {x : Ent} (h : x.ok) : (entB x).length ≤ 262162 := by
 have h1 := numB_le _ (zig_lt _ h.e)
 have h2 := numB_le x.t.length (by have := h.n; omega)
 have := h.n
 simp only [entB, List.length_append]
 omega
theorem entsB_le : ∀ {l : List Ent}, (∀ x ∈ l, x.ok) → (entsB l).length ≤ 262162 * l.length
 | [], _ => by simp [entsB]
 | x :: l, h => by
  have h1 := entB_le (h x (by simp))
  have h2 := entsB_le (l := l) (fun y hy => h y (by simp [hy]))
  simp only [entsB, List.flatMap_cons, List.length_append, List.length_cons] at *
  omega
theorem entsB_take {l : List Ent} {j : Nat} {x : Ent} (h : l[j]? = some x) : entsB (l.take (j + 1)) = entsB (l.take j) ++ entB x := by
 unfold entsB
 rw [List.take_add_one, h, List.flatMap_append]
 simp
theorem textB_str {t : List Nat} (h : ∀ y ∈ t, y < 256) : textB (strOf t) = numB t.length ++ t := by
 unfold textB
 rw [numsOf_strOf h, strOf_size]
theorem Ents.at_ {w : World} {T : Nat → Prop} {A : Option Addr} {n : Nat} {l : List Ent} (h : Ents w T A n l) {j : Nat} (hj : j < n) : ∃ b o A2 c2 x, A = some ⟨b, o, none⟩ ∧ b < w.heap.size ∧ l[j]? = some x ∧ x.ok ∧ w.cell? ⟨b, o + j * 2, none⟩ = some (.int .i64 x.e) ∧ w.cell? ⟨b, o + j * 2 + 1, none⟩ = some (.slice A2 x.t.length c2) ∧ Bsl w T (.slice A2 x.t.length c2) x.t := by
 obtain ⟨⟨ms, he, hr, hm⟩, hl, _⟩ := h
 obtain ⟨b, o, rfl, hb, hc⟩ := hr.plain (by omega) (by omega)
 have hml : ms.length = n := by rw [← hl, ← he, List.length_map]
 have hg : ms[j]? = some ms[j] := List.getElem?_eq_getElem (by omega)
 obtain ⟨h1, h2⟩ := emV_get hg
 obtain ⟨hB, hok⟩ := hm _ (List.getElem_mem (by omega : j < ms.length))
 have hB' := hB
 obtain ⟨⟨A2, c2, e, _⟩, _⟩ := hB'
 refine ⟨b, o, A2, c2, ms[j].x, rfl, hb, (congrArg (·[j]?) he).symm.trans (by show (ms.map Em.x)[j]? = _; rw [List.getElem?_map, hg]; rfl), hok, hc _ _ h1, ?_, by rw [← e]; exact hB⟩
 rw [← e, Nat.add_assoc]
 exact hc _ _ h2
theorem Kp.cell {S : Nat → Prop} {w w' : World} (h : Kp S w w') {p : Addr} (hp : p.block < w.heap.size) (hn : ¬S p.block) : w'.cell? p = w.cell? p := by
 unfold World.cell?
 rw [h.block _ hp hn]
theorem Bsl.conv {w : World} {T : Nat → Prop} {v : Value} {t : List Nat} (h : Bsl w T v t) : (convert 36 9 v).run Tryz.prog w = .ok (.string (strOf t)) w := by
 obtain ⟨A, c, rfl, hr, _⟩ := h.exR
 exact conv_bytes hr Tryz.underlying36 Tryz.underlying5 Tryz.underlying9 c
theorem Ents.okAll {w : World} {T : Nat → Prop} {A : Option Addr} {n : Nat} {l : List Ent} (h : Ents w T A n l) : ∀ x ∈ l, x.ok := fun x hx => by
 obtain ⟨⟨ms, he, hr, hm⟩, hl, _⟩ := h
 rw [← he] at hx
 obtain ⟨m, hmm, rfl⟩ := List.mem_map.1 hx
 exact (hm m hmm).2
set_option maxRecDepth 100000 in
set_option maxHeartbeats 4000000 in
theorem putLog_any (base g : Nat) (v : Value) (xs : List Nat) (A : Option Addr) (n c : Nat) (l : List Ent) (w : World) (hw : Wrt w base g 153 v xs) (h : Ents w (fun k => k = g ∨ v.ownBlock = some k) A n l) (hn : n ≤ 4096) (hlen : xs.length ≤ 1000) :
  Calls Tryz.prog 76 #[.pointer (some ⟨g, 0, none⟩), .slice A n c] w fun r w' => r = .returned (.tuple #[]) ∧ ∃ v', Wrt w' base g 153 v' (xs ++ logB l) ∧ Chw w w' g v v' := by
 have hln := h.len
 have hok := h.okAll
 have l3 := numB_le n (by omega)
 have k1 : IntKind.u64.wrap (n : Int) = (n : Int) := by show (n : Int) % 18446744073709551616 = _; omega
 have hu : U64 (n : Int) := by unfold U64; omega
 have hN := num_any _ _ _ _ _ _ hw hu (by omega)
 rw [Int.toNat_natCast] at hN
 go_enter Tryz.func76, Tryz.ntmps76
 go_wp2_with (go_at_call 67; (with_reducible refine hN.mono ?_); rintro r w1 ⟨rfl, v1, hw1, hc1⟩)
 clear hN
 go_loopw [13] (fun vi wr => ∃ (j : Nat) (v' : Value), j ≤ n ∧ vi = .int .i64 (j : Int) ∧ Wrt wr base g 153 v' (xs ++ numB n ++ entsB (l.take j)) ∧ Chw w wr g v v') (fun vi _ => ((n : Int) - intOf vi).toNat)
 case atStart => exact ⟨0, v1, by omega, rfl, by simpa [entsB] using hw1, hc1⟩
 case round =>
  clear hw1 hc1
  obtain ⟨j, v', hj, rfl, hw', hc⟩ := hrel
  obtain ⟨wo, rfl⟩ : ∃ wo : World, wo = wr := ⟨_, rfl⟩
  have htl := entsB_le (l := l.take j) (fun x hx => hok x (List.mem_of_mem_take hx))
  have htk : (l.take j).length ≤ 4096 := by rw [List.length_take]; omega
  by_cases hlt : j < n
  ·have hK := Kp.of_chw hc
   obtain ⟨b, o, A2, c2, x, rfl, hb, hg, hxo, m1, m2, hB⟩ := h.at_ hlt
   have hnT := h.nt (by omega) _ rfl
   replace m1 := (hK.cell (p := ⟨b, o + j * 2, none⟩) hb hnT).trans m1
   replace m2 := (hK.cell (p := ⟨b, o + j * 2 + 1, none⟩) hb hnT).trans m2
   have hlj : (j : Int) < n := by omega
   have hT := hide (entsB_take hg)
   have hw2 := hw'.below (Below.alloc (Below.refl _ _) (Nat.le_refl _) (.cells #[.int .i64 x.e, .slice A2 x.t.length c2] 65))
   have hP := Blk.new wo 65 #[.int .i64 x.e, .slice A2 x.t.length c2]
   have hne := hw'.row.far (Nat.le_refl _)
   have hgl := hw'.blk.lt
   have hgb : wo.heap.size ≠ g := by omega
   have hst : (strOf x.t).size = x.t.length := strOf_size _
   have hI := int_any base g v' _ x.e _ hw2 hxo.e (by simp only [List.length_append]; omega)
   have hxn := hxo.n
   have hxe := numB_le _ (zig_lt _ hxo.e)
   have hca := hc.trans (Chw.of_below (Below.alloc (Below.refl _ _) (Nat.le_refl _) (.cells #[.int .i64 x.e, .slice A2 x.t.length c2] 65)))
   have hbo : b < wo.heap.size := Nat.lt_of_lt_of_le hb hK.size
   go_wp2_with (first | (go_at_call 75; (with_reducible refine hI.mono ?_); rintro r w5 ⟨rfl, v5, hw5, hc5⟩; have hP5 := Blk.chw hP hc5 hgb hne; have cP5 := hP5.cell; have lP5 := hP5.lt; have hc05 := hca.trans hc5; have hcv := (hB.kp (Kp.of_chw hc05)).conv) | (go_at_call 96; (with_reducible refine (text_any base g v5 _ (strOf x.t) w5 hw5 (by simp only [List.length_append]; omega)).mono ?_); rintro r w6 ⟨rfl, v6, hw6, hc6⟩))
   go_roundw
   case rel =>
    refine ⟨j + 1, v6, by omega, by go_num, ?_, hc05.trans hc6⟩
    rw [textB_str hxo.by_] at hw6
    rw [hT.out]
    simpa [entB, List.append_assoc] using hw6
   case measure => simp [intOf]; omega
  ·obtain rfl : j = n := by omega
   go_wp2
   refine bodyPost_end (v := .tuple #[]) (by simp [results, Tryz.results76, go_sem] <;> rfl) rfl ⟨rfl, ?_⟩
   refine ⟨v', ?_, hc⟩
   rw [List.take_of_length_le (by omega)] at hw'
   simpa [logB, List.append_assoc, hln] using hw'
end Go.Proofs.YtjhcgnmibnjocaaGreat

namespace Go.Proofs.YtjhcgnmibnjocaaGreat
open Go.RowKit Go.Maps
theorem Ents.later {w w' : World} {T : Nat → Prop} {A : Option Addr} {n : Nat} {l : List Ent} (h : Ents w T A n l) (hb : Below w.heap.size w w') : Ents w' (fun k => w.heap.size ≤ k) A n l :=
 (h.sub (T' := fun k => w.heap.size ≤ k) (fun k hk h => by omega)).kp ⟨hb.os, hb.tape, hb.output, hb.size, fun k hk _ => hb.block k hk⟩
theorem Ents.wr {w w' : World} {T : Nat → Prop} {A : Option Addr} {n : Nat} {l : List Ent} (h : Ents w T A n l) (hb : Below w.heap.size w w') {base g : Nat} {t : TypeId} {v : Value} {xs : List Nat} (hw : Wrt w' base g t v xs) (hbase : w.heap.size ≤ base) :
  Ents w' (fun k => k = g ∨ v.ownBlock = some k) A n l :=
 (h.later hb).sub fun k hk h => by
  rcases h with rfl | h
  ·exact Nat.le_trans hbase hw.ge
  ·exact Nat.le_trans hbase (hw.row.ge h).1
theorem Bsl.later {w w' : World} {T : Nat → Prop} {v : Value} {t : List Nat} (h : Bsl w T v t) (hb : Below w.heap.size w w') : Bsl w' (fun k => w.heap.size ≤ k) v t :=
 (h.sub (T' := fun k => w.heap.size ≤ k) (fun k hk h => by omega)).kp ⟨hb.os, hb.tape, hb.output, hb.size, fun k hk _ => hb.block k hk⟩
theorem Ents.one {w : World} {T : Nat → Prop} {v : Value} {x : Ent} (h : Bsl w T v x.t) (hx : x.ok) (hT : ¬T w.heap.size) : Ents (w.alloc (.cells #[.int .i64 x.e, v] 65)) T (some ⟨w.heap.size, 0, none⟩) 1 [x] := by
 have hb : Below w.heap.size w (w.alloc (.cells #[.int .i64 x.e, v] 65)) := Below.alloc (Below.refl _ _) (Nat.le_refl _) _
 refine ⟨⟨[⟨x, v⟩], rfl, ⟨rfl, fun _ => ⟨_, rfl, by simp, fun j u hu => ?_⟩⟩, fun m hm => ?_⟩, rfl, fun _ a ha => by cases ha; exact hT⟩
 ·rw [add_plain, (Blk.new w 65 #[.int .i64 x.e, v]).cell, Nat.zero_add]
  have : emV [⟨x, v⟩] = [.int .i64 x.e, v] := rfl
  rw [this] at hu
  simpa using hu
 ·simp only [List.mem_singleton] at hm
  subst hm
  exact ⟨h.kp ⟨hb.os, hb.tape, hb.output, hb.size, fun k hk _ => hb.block k hk⟩, hx⟩
theorem Ents.oneW {w w' : World} {T : Nat → Prop} {v : Value} {x : Ent} (h : Bsl w T v x.t) (hx : x.ok) (hb : Below w.heap.size w w') {base g : Nat} {t : TypeId} {u : Value} {xs : List Nat} (hw : Wrt w' base g t u xs) (hbase : w.heap.size ≤ base) :
  Ents (w'.alloc (.cells #[.int .i64 x.e, v] 65)) (fun k => k = g ∨ u.ownBlock = some k) (some ⟨w'.heap.size, 0, none⟩) 1 [x] := by
 refine Ents.one ((h.later hb).sub fun k hk ht => ?_) hx fun ht => ?_
 ·rcases ht with rfl | ht
  ·exact Nat.le_trans hbase hw.ge
  ·exact Nat.le_trans hbase (hw.row.ge ht).1
 ·rcases ht with ht | ht
  ·have := hw.blk.lt; omega
  ·have := (hw.row.ge ht).2; omega
set_option maxRecDepth 100000 in
set_option maxHeartbeats 4000000 in
theorem recLog_any {T : Nat → Prop} (e : Int) (A : Option Addr) (n c : Nat) (l : List Ent) (w : World) (h : Ents w T A n l) (hn : n ≤ 4096) (he : I64 e) :
  Calls Tryz.prog 79 #[.int .i64 e, .slice A n c] w fun r w' => ∃ u, r = .returned u ∧ Row w' w.heap.size u (recLogP e l) ∧ Below w.heap.size w w' := by
 have hok := h.okAll
 have hln := h.len
 have h1 := entsB_le hok
 have h2 := numB_le n (by omega)
 have h3 := numB_le _ (zig_lt _ he)
 have h4 := numB_le 3 (by omega)
 have hN := fun v w' hw => num_any w.heap.size w.heap.size v [] 3 w' hw (by unfold U64; omega) (by simp)
 simp only [List.nil_append] at hN
 rw [show (3 : Int).toNat = 3 from rfl] at hN
 go_enter Tryz.func79, Tryz.ntmps79
 go_wp2_with (first | (go_at_call 66; (with_reducible refine (new_any _).mono ?_); rintro r w1 ⟨rfl, hw1, hb1⟩) | (go_at_call 67; (with_reducible refine (hN _ _ hw1).mono ?_); rintro r w2 ⟨rfl, v2, hw2, hc2⟩; have hb2 := hb1.trans (hc2.below hw1)) | (go_at_call 75; (with_reducible refine (int_any _ _ _ _ e _ hw2 he (by omega)).mono ?_); rintro r w3 ⟨rfl, v3, hw3, hc3⟩; have hb3 := hb2.trans (hc3.below hw2)) | (go_at_call 76; (with_reducible refine (putLog_any _ _ _ _ A n c l _ hw3 (h.wr hb3 hw3 (Nat.le_refl _)) hn (by simp only [List.length_append]; omega)).mono ?_); rintro r w4 ⟨rfl, v4, hw4, hc4⟩; have hb4 := hb3.trans (hc4.below hw3)) | (go_at_call 69; (with_reducible refine (bytes_any _ _ _ _ _ hw4 (by simp only [List.length_append, logB]; rw [hln]; omega)).mono ?_); rintro r w5 ⟨u, rfl, hu, hb5⟩; have hs4 := hb4.size))
 refine bodyPost_ret (v := u) (by simp [results, Tryz.results79, go_sem] <;> rfl) rfl ⟨u, rfl, ?_, hb4.trans (hb5.mono hs4)⟩
 have := hu.base hs4
 simpa [recLogP, List.append_assoc] using this
set_option maxRecDepth 100000 in
set_option maxHeartbeats 4000000 in
theorem recEntry_any {T : Nat → Prop} (at_ : Nat) (x : Ent) (v : Value) (w : World) (h : Bsl w T v x.t) (hx : x.ok) (hat : at_ ≤ 4096) :
  Calls Tryz.prog 37 #[.int .i64 (at_ : Int), .agg #[.int .i64 x.e, v]] w fun r w' => ∃ u, r = .returned u ∧ Row w' w.heap.size u (recEntryP at_ x) ∧ Below w.heap.size w w' := by
 obtain ⟨vA, vn, vc, rfl⟩ := h.sl
 have h1 := entB_le hx
 have ha : I64 (at_ : Int) := by unfold I64; omega
 have h3 := numB_le _ (zig_lt _ ha)
 have h4 := numB_le 2 (by omega)
 have h5 := numB_le 1 (by omega)
 have h6 : (logB [x]).length ≤ 262171 := by
  have := entsB_le (l := [x]) (fun y hy => by simp only [List.mem_singleton] at hy; rw [hy]; exact hx)
  have e : [x].length = 1 := rfl
  simp only [logB, List.length_append, e] at *
  omega
 have hP := Blk.new w 65 #[.int .i64 x.e, (.slice vA vn vc)]
 have hb0 : Below w.heap.size w (w.alloc (.cells #[.int .i64 x.e, (.slice vA vn vc)] 65)) := Below.alloc (Below.refl _ _) (Nat.le_refl _) _
 have hN := fun g u w' hw => num_any g g u [] 2 w' hw (by unfold U64; omega) (by simp)
 simp only [List.nil_append] at hN
 rw [show (2 : Int).toNat = 2 from rfl] at hN
 go_enter Tryz.func37, Tryz.ntmps37
 go_wp2_with (first | (go_at_call 66; (with_reducible refine (new_any _).mono ?_); rintro r w1 ⟨rfl, hw1, hb1⟩; (simp only [World.size_alloc] at hw1); have hb01 := hb0.trans (hb1.mono (by simp)); have hP1 := hP.below hb1 (by simp)) | (go_at_call 67; (with_reducible refine (hN _ _ _ hw1).mono ?_); rintro r w2 ⟨rfl, v2, hw2, hc2⟩; have hb2 := hc2.below hw1; have hb02 := hb01.trans (hb2.mono (by omega)); have hP2 := hP1.below hb2 (by omega)) | (go_at_call 75; (with_reducible refine (int_any _ _ _ _ _ _ hw2 ha (by omega)).mono ?_); rintro r w3 ⟨rfl, v3, hw3, hc3⟩; have hb3 := hc3.below hw2; have hb03 := hb02.trans (hb3.mono (by omega)); have hP3 := hP2.below hb3 (by omega); have cP3 := hP3.cell; have lP3 := hP3.lt; have hw3' := hw3.below (Below.alloc (Below.refl _ _) (Nat.le_refl _) (.cells #[.int .i64 x.e, (.slice vA vn vc)] 65)); have hB3 := (h.later hb03); have hs3 := hb03.size) | (go_at_call 76; (with_reducible refine (putLog_any _ _ _ _ _ 1 1 [x] _ hw3' (Ents.oneW h hx hb03 hw3 (by omega)) (by omega) (by simp only [List.length_append]; omega)).mono ?_); rintro r w4 ⟨rfl, v4, hw4, hc4⟩; have hb4 := ((Below.alloc hb03 hs3 (.cells #[.int .i64 x.e, (.slice vA vn vc)] 65))).trans ((hc4.below hw3').mono (by omega))) | (go_at_call 69; (with_reducible refine (bytes_any _ _ _ _ _ hw4 (by simp only [List.length_append]; omega)).mono ?_); rintro r w5 ⟨u, rfl, hu, hb5⟩; have hs4 := hb4.size))
 refine bodyPost_ret (v := u) (by simp [results, Tryz.results37, go_sem] <;> rfl) rfl ⟨u, rfl, ?_, hb4.trans (hb5.mono hs4)⟩
 have := hu.base hs4
 simpa [recEntryP, List.append_assoc] using this
set_option maxRecDepth 100000 in
set_option maxHeartbeats 4000000 in
theorem recPromise_any (A : Option Addr) (c : Nat) (v : Vi) (w : World) (hr : Reads w w.heap.size 1 A v.l.length (ints v.l)) (hv : v.right = true) :
  Calls Tryz.prog 28 #[.agg #[.int .i64 v.e, .int .i64 v.p, .slice A v.l.length c]] w fun r w' => ∃ u, r = .returned u ∧ Row w' w.heap.size u (recPromiseP v) ∧ Below w.heap.size w w' := by
 have hbd := right_bd hv
 have hm := rising_mem hbd.2.2.1
 have hl8 := rising_len hbd.2.2.1
 have he : I64 v.e := by unfold I64; omega
 have hp : I64 v.p := by have := hm _ hbd.2.2.2; unfold I64; omega
 have hl64 : ∀ x ∈ v.l, I64 x := fun x hx => by have := hm x hx; unfold I64; omega
 have h1 := numB_le _ (zig_lt _ he)
 have h2 := numB_le _ (zig_lt _ hp)
 have h3 := numB_le v.l.length (by omega)
 have h4 := numB_le 1 (by omega)
 have h5 := tailB_le hl64
 have hP := Blk.new w 44 #[.int .i64 v.e, .int .i64 v.p, .slice A v.l.length c]
 have hb0 : Below w.heap.size w (w.alloc (.cells #[.int .i64 v.e, .int .i64 v.p, .slice A v.l.length c] 44)) := Below.alloc (Below.refl _ _) (Nat.le_refl _) _
 have hN := fun g u w' hw => num_any g g u [] 1 w' hw (by unfold U64; omega) (by simp)
 simp only [List.nil_append] at hN
 rw [show (1 : Int).toNat = 1 from rfl] at hN
 have hA0 : 0 < v.l.length → ∀ b, A = some b → b.block < w.heap.size := fun h0 b hb => by
  obtain ⟨a, e', h, _⟩ := hr.2 h0
  rw [hb] at e'; cases e'; exact h
 go_enter Tryz.func28, Tryz.ntmps28
 go_wp2_with (first | (go_at_call 66; (with_reducible refine (new_any _).mono ?_); rintro r w1 ⟨rfl, hw1, hb1⟩; (simp only [World.size_alloc] at hw1); have hb01 := hb0.trans (hb1.mono (by simp)); have hP1 := hP.below hb1 (by simp)) | (go_at_call 67; (with_reducible refine (hN _ _ _ hw1).mono ?_); rintro r w2 ⟨rfl, v2, hw2, hc2⟩; have hb2 := hc2.below hw1; have hb02 := hb01.trans (hb2.mono (by omega)); have hP2 := hP1.below hb2 (by omega); have cP2 := hP2.cell; have lP2 := hP2.lt) | (go_at_call 68; (with_reducible refine (vput_any _ _ _ _ v.e v.p A _ c v.l _ hw2 ((hr.below hb02).more hb02.size) (fun h0 a ha hk => hk.elim (fun e => (by have := hA0 h0 a ha; omega)) (fun e => (by have := (hw2.row.ge e).1; have := hA0 h0 a ha; omega))) he hp hl64 (by omega) (by omega)).mono ?_); rintro r w4 ⟨rfl, v4, hw4, hc4⟩; have hb4 := hb02.trans ((hc4.below hw2).mono (by omega))) | (go_at_call 69; (with_reducible refine (bytes_any _ _ _ _ _ hw4 (by simp only [List.length_append, viewB]; omega)).mono ?_); rintro r w5 ⟨u, rfl, hu, hb5⟩; have hs4 := hb4.size))
 refine bodyPost_ret (v := u) (by simp [results, Tryz.results28, go_sem] <;> rfl) rfl ⟨u, rfl, ?_, hb4.trans (hb5.mono hs4)⟩
 have := hu.base hs4
 simpa [recPromiseP, List.append_assoc] using this
end Go.Proofs.YtjhcgnmibnjocaaGreat

namespace Go.Proofs.YtjhcgnmibnjocaaGreat
open Go.RowKit Go.Maps
def neB (d x : Int) : Bool := !(x == d)
theorem okeep_any (q g : Nat) (d x : Int) (w : World) (hq : w.cell? ⟨q, 0, none⟩ = some (.pointer (some ⟨g, 0, none⟩))) (hr : w.cell? ⟨g, 0, none⟩ = some (.int .i64 d)) (hm : g < w.heap.size) :
  Calls Tryz.prog 73 #[.int .i64 x, .pointer (some ⟨q, 0, none⟩)] w fun e w' => e = .returned (.bool (!neB d x)) ∧ w' = w := by
 have hb : (!neB d x) = (x == d) := by simp [neB]
 rw [hb]
 go_enter Tryz.func73, Tryz.ntmps73
 go_wp2
 go_ret
 exact ⟨rfl, rfl⟩
set_option maxHeartbeats 1000000 in
theorem oindexf_any (q b n c : Nat) (l : List Int) (cs : Array Value) (g : Nat) (d : Int) (w : World) (hb : Blk w b 3 cs) (hcs : ∀ (t : Nat) (y : Int), l[t]? = some y → cs[t]? = some (Value.int .i64 y)) (hl : l.length = n) (hn : n ≤ 9223372036854775807)
  (hq : w.cell? ⟨q, 0, none⟩ = some (.pointer (some ⟨g, 0, none⟩))) (hr : w.cell? ⟨g, 0, none⟩ = some (.int .i64 d)) (hm : g < w.heap.size) :
  Calls Tryz.prog 95 #[.slice (some ⟨b, 0, none⟩) n c, .func (.func 73) #[] #[.pointer (some ⟨q, 0, none⟩)]] w fun e w' => ((∃ k : Nat, k < n ∧ e = .returned (.int .i64 (k : Int)) ∧ (∀ y, l[k]? = some y → neB d y = false) ∧ ∀ i y, i < k → l[i]? = some y → neB d y = true) ∨ (e = .returned (.int .i64 (-1)) ∧ ∀ (i : Nat) y, l[i]? = some y → neB d y = true)) ∧ w' = w := by
 have hK : ∀ x, _ := fun x => okeep_any q g d x w hq hr hm
 clear hq hr
 have c1 := hb.cell
 have l1 := hb.lt
 go_enter Tryz.func95, Tryz.ntmps95
 go_wp2
 go_loopw [8] (fun s wr => ∃ j : Nat, j ≤ n ∧ s = .int .i64 (j : Int) ∧ (∀ (i : Nat) (y : Int), i < j → l[i]? = some y → neB d y = true) ∧ wr = w) (fun s _ => ((n : Int) - intOf s).toNat)
 case atStart => exact ⟨0, by omega, rfl, fun i y hi => by omega, rfl⟩
 case round =>
  obtain ⟨j, hj, rfl, hno, rfl⟩ := hrel
  obtain ⟨wo, rfl⟩ : ∃ wo : World, wo = wr := ⟨_, rfl⟩
  by_cases hlt : j < n
  ·have hg : l[j]? = some l[j] := List.getElem?_eq_getElem (by omega)
   have m1 : wo.cell? ⟨b, j, none⟩ = some (.int .i64 l[j]) := (c1 j).trans (hcs j _ hg)
   have hlj : (j : Int) < n := by omega
   generalize l[j] = x at *
   cases hx : neB d x with
   | false =>
    have H := hide (⟨hg, hno, hx⟩ : _ ∧ _ ∧ _)
    have hK := hK x
    rw [hx] at hK
    clear hno hg hcs hx c1
    go_wp2_with (go_at_call 73; (with_reducible refine hK.mono ?_); rintro e w1 ⟨rfl, rfl⟩)
    go_ret
    obtain ⟨hg, hno, hx⟩ := H.out
    exact ⟨.inl ⟨j, hlt, rfl, fun y hy => by rw [hg] at hy; cases hy; exact hx, hno⟩, rfl⟩
   | true =>
    have hK := hK x
    rw [hx] at hK
    have HN := hide (fun (i : Nat) (y : Int) (hi : i < j + 1) (h : l[i]? = some y) => show neB d y = true from by
     rcases Nat.lt_or_ge i j with h' | h'
     ·exact hno i y h' h
     ·obtain rfl : i = j := by omega
      rw [hg] at h; cases h; exact hx)
    clear hno hg hcs hx c1
    go_wp2_with (go_at_call 73; (with_reducible refine hK.mono ?_); rintro e w1 ⟨rfl, rfl⟩)
    go_roundw
    case rel => exact ⟨j + 1, by omega, by go_num, HN.out, by trivial⟩
    case measure => simp [intOf]; omega
  ·obtain rfl : j = n := by omega
   have HN := hide hno
   clear hno
   go_wp2
   go_ret
   refine ⟨.inr ⟨rfl, fun i y h => HN.out i y ?_ h⟩, rfl⟩
   have := (List.getElem?_eq_some_iff.1 h).1
   omega
def okL (d : Int) (l : List Int) (j : Nat) : List Int := (l.take j).filter (neB d)
theorem okL_le (d : Int) (l : List Int) (j : Nat) : (okL d l j).length ≤ j := Nat.le_trans (List.length_filter_le _ _) (by rw [List.length_take]; omega)
theorem okL_yes {d : Int} {l : List Int} {j : Nat} {x : Int} (h : l[j]? = some x) (hx : neB d x = true) : okL d l (j + 1) = okL d l j ++ [x] := by
 unfold okL
 rw [List.take_add_one, h, List.filter_append]
 simp [hx]
theorem okL_no {d : Int} {l : List Int} {j : Nat} {x : Int} (h : l[j]? = some x) (hx : neB d x = false) : okL d l (j + 1) = okL d l j := by
 unfold okL
 rw [List.take_add_one, h, List.filter_append]
 simp [hx]
theorem okL_all {d : Int} {l : List Int} : ∀ {j : Nat}, j ≤ l.length → (∀ i y, i < j → l[i]? = some y → neB d y = true) → okL d l j = l.take j
 | 0, _, _ => by simp [okL]
 | j + 1, hj, h => by
  have hg : l[j]? = some l[j] := List.getElem?_eq_getElem (by omega)
  rw [okL_yes hg (h j _ (by omega) hg), okL_all (by omega) (fun i y hi => h i y (by omega)), List.take_add_one, hg]
  rfl
theorem okL_mono {d : Int} {l : List Int} : ∀ {i j : Nat}, i ≤ j → (okL d l j).length ≤ (okL d l i).length + (j - i)
 | i, 0, h => by
  obtain rfl : i = 0 := by omega
  omega
 | i, j + 1, h => by
  rcases Nat.lt_or_ge j i with h' | h'
  ·obtain rfl : i = j + 1 := by omega
   omega
  ·have := okL_mono (d := d) (l := l) h'
   have h2 : (okL d l (j + 1)).length ≤ (okL d l j).length + 1 := by
    unfold okL
    rw [List.take_add_one, List.filter_append, List.length_append]
    have : (List.filter (neB d) l[j]?.toList).length ≤ 1 := by
     refine Nat.le_trans (List.length_filter_le _ _) ?_
     cases l[j]? <;> simp
    omega
   omega
set_option maxRecDepth 100000 in
set_option maxHeartbeats 4000000 in
theorem odelete_any (q b c n : Nat) (l : List Int) (g : Nat) (d : Int) (w : World) (hb : RowAt w b l c) (hnl : l.length = n) (hn : n * 8 ≤ 140737488355328)
  (hq : w.cell? ⟨q, 0, none⟩ = some (.pointer (some ⟨g, 0, none⟩))) (hqb : q ≠ b) (hql : q < w.heap.size) (hr : w.cell? ⟨g, 0, none⟩ = some (.int .i64 d)) (hAb : g ≠ b) (hm : g < w.heap.size) :
  Calls Tryz.prog 72 #[.slice (some ⟨b, 0, none⟩) n c, .func (.func 73) #[] #[.pointer (some ⟨q, 0, none⟩)]] w fun e w' => e = .returned (.slice (some ⟨b, 0, none⟩) (okL d l n).length c) ∧ RowAt w' b (okL d l n) c ∧ Only w w' b := by
 have hB := hb
 obtain ⟨cs, h1, h2, h3, h4, h5⟩ := hb
 have hcs : ∀ (t : Nat) (y : Int), l[t]? = some y → cs[t]? = some (Value.int .i64 y) := fun t y h => by
  have ht := (List.getElem?_eq_some_iff.1 h).1
  have := congrArg (fun z => z[t]?) h5
  simp only [ints_get h, List.getElem?_take, ht, if_true] at this
  simpa using this
 have hI := oindexf_any q b n c l cs g d w h1 hcs hnl (by omega) hq hr hm
 have hK : ∀ w', Only w w' b → ∀ x, _ := fun w' ho x => okeep_any q g d x w' ((ho.cell (p := ⟨q, 0, none⟩) hql hqb).trans hq) ((ho.cell (p := ⟨g, 0, none⟩) hm hAb).trans hr) (Nat.lt_of_lt_of_le hm ho.size)
 clear hq hr
 by_cases hall : ∀ (i : Nat) (y : Int), l[i]? = some y → neB d y = true
 ·have hI' : Calls Tryz.prog 95 #[.slice (some ⟨b, 0, none⟩) n c, .func (.func 73) #[] #[.pointer (some ⟨q, 0, none⟩)]] w fun e w' => e = .returned (.int .i64 (-1)) ∧ w' = w := hI.mono fun e w' h => by
   obtain ⟨h | h, rfl⟩ := h
   ·obtain ⟨k, hk, _, hno, _⟩ := h
    have := hno _ (List.getElem?_eq_getElem (by omega))
    rw [hall k _ (List.getElem?_eq_getElem (by omega))] at this
    cases this
   ·exact ⟨h.1, rfl⟩
  have hkl : okL d l n = l := by rw [okL_all (by omega) (fun i y _ => hall i y), ← hnl, List.take_length]
  rw [hkl, hnl]
  clear hI hcs h5 h1 hkl
  have hB := hide hB
  go_enter Tryz.func72, Tryz.ntmps72
  go_wp2_with (go_at_call 95; (with_reducible refine hI'.mono ?_); rintro e w1 ⟨rfl, rfl⟩)
  go_ret
  exact ⟨rfl, hB.out, Only.refl _ _⟩
 ·have hI' : Calls Tryz.prog 95 #[.slice (some ⟨b, 0, none⟩) n c, .func (.func 73) #[] #[.pointer (some ⟨q, 0, none⟩)]] w fun e w' => (∃ k : Nat, k < n ∧ e = .returned (.int .i64 (k : Int)) ∧ (∀ y, l[k]? = some y → neB d y = false) ∧ ∀ i y, i < k → l[i]? = some y → neB d y = true) ∧ w' = w := hI.mono fun e w' h => by
   obtain ⟨h | h, rfl⟩ := h
   ·exact ⟨h, rfl⟩
   ·exact absurd h.2 hall
  clear hI hall
  go_enter Tryz.func72, Tryz.ntmps72
  go_wp2_with (go_at_call 95; (with_reducible refine hI'.mono ?_); rintro e w1 ⟨⟨k, hk, rfl, hno, hyes⟩, rfl⟩; have hk1 : ((k : Int) == -1) = false := (by simp))
  have hlt : (okL d l n).length < n := by
   have h1 : (okL d l n).length ≤ (okL d l (k + 1)).length + (n - (k + 1)) := okL_mono (by omega)
   have h2 := okL_no (l := l) (j := k) (List.getElem?_eq_getElem (by omega)) (hno _ (List.getElem?_eq_getElem (by omega)))
   have h3 := okL_le d l k
   rw [h2] at h1
   omega
  have hF : okL d l (k + 1) = l.take k := by
   rw [okL_no (List.getElem?_eq_getElem (by omega)) (hno _ (List.getElem?_eq_getElem (by omega)))]
   exact okL_all (by omega) hyes
  go_loopw [5, 6] (fun vi vj wr => ∃ (j : Nat) (cs : Array Value), j ≤ n ∧ vj = .int .i64 (j : Int) ∧ vi = .int .i64 ((okL d l j).length : Int) ∧ (okL d l j).length < j ∧ Blk wr b 3 cs ∧ cs.size = c ∧ (∀ (t : Nat) (y : Int), (okL d l j)[t]? = some y → cs[t]? = some (Value.int .i64 y)) ∧ (∀ (t : Nat) (y : Int), j ≤ t → l[t]? = some y → cs[t]? = some (Value.int .i64 y)) ∧ Only w1 wr b) (fun _ vj _ => ((n : Int) - intOf vj).toNat)
  case atStart =>
   refine ⟨k + 1, cs, by omega, by go_num, by rw [hF, List.length_take]; congr 2; omega, by rw [hF, List.length_take]; omega, h1, h2, fun t y h => ?_, fun t y _ h => hcs t y h, Only.refl _ _⟩
   rw [hF, List.getElem?_take] at h
   split at h
   ·exact hcs t y h
   ·cases h
  case round =>
   obtain ⟨j, cr, hj, rfl, rfl, hij, hBr, hsz, hlo, hhi, ho⟩ := hrel
   obtain ⟨wo, rfl⟩ : ∃ wo : World, wo = wr := ⟨_, rfl⟩
   have cB := Blk.cell hBr
   have fB := Blk.frozen hBr
   have lB := Blk.lt hBr
   have hcn : c ≤ 9223372036854775807 := by unfold maxLen at h4; exact h4
   by_cases hjn : j < n
   ·have hg : l[j]? = some l[j] := List.getElem?_eq_getElem (by omega)
    have m1 : wo.cell? ⟨b, j, none⟩ = some (.int .i64 l[j]) := (cB j).trans (hhi j _ (Nat.le_refl _) hg)
    have hlj : (j : Int) < n := by omega
    generalize l[j] = x at *
    cases hx : neB d x with
    | false =>
     have hKx := hK wo ho x
     rw [hx] at hKx
     have hN := okL_no hg hx
     have H := hide (⟨hN, hlo, fun (t : Nat) (y : Int) (ht : j + 1 ≤ t) => hhi t y (by omega)⟩ : _ ∧ _ ∧ _)
     clear hlo hhi hN hF hno hyes hcs hI' hK cB
     go_wp2_with (go_at_call 73; (with_reducible refine hKx.mono ?_); rintro e w1 ⟨rfl, rfl⟩)
     go_roundw
     case rel =>
      obtain ⟨hN, hlo, hhi⟩ := H.out
      exact ⟨j + 1, cr, by omega, by go_num, by rw [hN], by rw [hN]; omega, hBr, hsz, by rw [hN]; exact hlo, hhi, ho⟩
     case measure => simp [intOf]; omega
    | true =>
     have hKx := hK wo ho x
     rw [hx] at hKx
     have hN := okL_yes hg hx
     generalize hi : (okL d l j).length = i at *
     have hil : (i : Int) < n := by omega
     have hib : i < cr.size := by omega
     have H := hide (⟨hN, hlo, hhi⟩ : _ ∧ _ ∧ _)
     have m0 : wo.cell? ⟨b, i, none⟩ = some cr[i] := (cB i).trans (Array.getElem?_eq_getElem hib)
     generalize cr[i] = u0 at *
     clear hlo hhi hN hF hno hyes hcs hI' hK cB
     go_wp2_with (go_at_call 73; (with_reducible refine hKx.mono ?_); rintro e w1 ⟨rfl, rfl⟩)
     go_roundw
     case rel =>
      obtain ⟨hN, hlo, hhi⟩ := H.out
      have hjl : (okL d l (j + 1)).length = i + 1 := by rw [hN, List.length_append, hi]; rfl
      refine ⟨j + 1, cr.setIfInBounds i (.int .i64 x), by omega, by go_num, by rw [hjl]; go_num, by rw [hjl]; omega, Blk.set_ hBr i _, by simpa using hsz, fun t y h => ?_, fun t y ht h => ?_, ho.trans (Only.setCell _ b i _)⟩
      ·rw [hN, List.getElem?_append] at h
       split at h
       ·rw [Array.getElem?_setIfInBounds_ne (by omega)]
        exact hlo t y h
       ·have ht : t - (okL d l j).length < 1 := (List.getElem?_eq_some_iff.1 h).1
        obtain rfl : t = i := by omega
        rw [hi, Nat.sub_self] at h
        cases h
        rw [Array.getElem?_setIfInBounds_self, if_pos hib]
      ·rw [Array.getElem?_setIfInBounds_ne (by omega)]
       exact hhi t y (by omega) h
     case measure => simp [intOf]; omega
   ·obtain rfl : j = n := by omega
    generalize hi : (okL d l j).length = i at *
    have hil : (i : Int) ≤ j := by omega
    have hic : (i : Int) ≤ c := by omega
    have hjc : (j : Int) ≤ c := by omega
    have hcl : ∀ ty, (Builtin.clear_ #[28] ty #[.slice (some ⟨b, i, none⟩) (j - i) (c - i)]).run Tryz.prog wo = .ok (.tuple #[]) (wo.setCells b i (List.replicate (j - i) (.int .i64 0))) := fun ty =>
     Lib.run_clear_slice wo _ _ ty (.int .i64 0) Tryz.underlying28 (fun w => by rfl) rfl rfl b i (j - i) (c - i) (by omega) (fun t ht => by rw [cB, Array.getElem?_eq_getElem (by omega)]; rfl) (fun t ht => fB _)
    have H := hide hlo
    clear hlo hhi hF hno hyes hcs hI' hK cB
    go_wp2
    refine bodyPost_ret (v := .slice (some ⟨b, 0, none⟩) i c) (by simp [results, Tryz.results72, go_sem] <;> rfl) rfl ?_
    obtain ⟨cs', k1, k2, k3⟩ := blk_setCells (List.replicate (j - i) (.int .i64 0)) i wo cr hBr
    refine ⟨by rw [hi], ⟨cs', k1, by omega, by omega, h4, ?_⟩, ho.trans (only_setCells _ i wo)⟩
    rw [hi]
    refine List.ext_getElem? fun t => ?_
    rw [List.getElem?_take]
    by_cases ht : t < i
    ·have hg : (okL d l j)[t]? = some ((okL d l j)[t]'(by omega)) := List.getElem?_eq_getElem (by omega)
     rw [if_pos ht, ints_get hg, Array.getElem?_toList, k3 t ht]
     exact H.out t _ hg
    ·rw [if_neg ht, List.getElem?_eq_none (by rw [ints_length]; omega)]
end Go.Proofs.YtjhcgnmibnjocaaGreat

namespace Go.Proofs.YtjhcgnmibnjocaaGreat
open Go.RowKit Go.Maps
theorem okL_others (r : Rl) : okL r.id r.v.l r.v.l.length = othersP r := by
 unfold okL othersP
 rw [List.take_length]
 rfl
theorem leads_pos {r : Rl} (h : r.ok) (hl : r.leads = true) : 0 < r.v.l.length ∧ r.v.right = true ∧ 1 ≤ r.v.e ∧ r.v.p = r.id ∧ r.v.p ∈ r.v.l := by
 unfold Rl.leads at hl
 simp only [Bool.and_eq_true, decide_eq_true_eq] at hl
 rcases h.v with e | e
 ·rw [e] at hl; exact absurd hl.1 (by decide)
 ·have hb := right_bd e
  exact ⟨List.length_pos_of_mem hb.2.2.2, e, hb.1, hl.2, hb.2.2.2⟩
set_option maxHeartbeats 1000000 in
theorem others_any {S T : Nat → Prop} {g : Nat} {r : Rl} {Am : Option Addr} {cm : Nat} {vl : Value} {mb : Nat} (w : World) (h : RelX w S T g r Am cm vl mb) (hok : r.ok) (hl : r.leads = true) :
  Calls Tryz.prog 35 #[.pointer (some ⟨g, 0, none⟩)] w fun e w' => (∃ b c, e = .returned (.slice (some ⟨b, 0, none⟩) (othersP r).length c) ∧ RowAt w' b (othersP r) c ∧ w.heap.size ≤ b) ∧ Below w.heap.size w w' := by
 have hp := leads_pos hok hl
 have hm := hok.mem
 have hlg := h.blk.lt
 have h1 := h.below (Below.alloc (Below.refl _ _) (Nat.le_refl _) (.cells #[.pointer (some ⟨g, 0, none⟩)] 23))
 have hP := Blk.new w 23 #[.pointer (some ⟨g, 0, none⟩)]
 have c1 := h1.blk.cell
 have l1 := h1.blk.lt
 have hcl := clone_any Am r.v.l.length cm r.v.l _ h1.rd (by omega)
 have ho0 := hide (okL_others r)
 go_enter Tryz.func35, Tryz.ntmps35
 go_wp2_with (first | (go_at_call 65; (with_reducible refine hcl.mono ?_); rintro e w1 ⟨⟨u, rfl, ho⟩, hb1⟩; obtain ⟨b, c, rfl, hbb, hR⟩ := RowAt.of_own' ho hp.1 rfl; have hP1 := hP.below hb1 (by simp); have h2 := h1.below hb1; have hs1 := hb1.size; (simp only [World.size_alloc] at hs1 hbb)) | (go_at_call 72; (with_reducible refine (odelete_any w.heap.size b c r.v.l.length r.v.l g r.id w1 hR rfl (by omega) ((hP1.cell 0).trans rfl) (by omega) hP1.lt ((h2.blk.cell 0).trans rfl) (by omega) h2.blk.lt).mono ?_); rintro e w2 ⟨rfl, hR2, ho2⟩))
 go_ret
 rw [← ho0.out]
 exact ⟨⟨b, c, rfl, hR2, by omega⟩, (Below.alloc (Below.refl _ _) (Nat.le_refl _) _).trans ((hb1.mono (by simp)).trans (ho2.below (by omega) (by omega)))⟩
theorem rnew_no (id : Int) (w : World) (h : ¬(0 ≤ id ∧ id < 8)) : Calls Tryz.prog 4 #[.int .i64 id] w fun e w' => e = .returned (.tuple #[.pointer none, .int .i64 1]) ∧ w' = w := by
 by_cases h0 : id < 0
 ·have d0 : decide (id < 0) = true := by simpa using h0
  go_enter Tryz.func4, Tryz.ntmps4
  go_wp2
  refine bodyPost_ret (v := .tuple #[.pointer none, .int .i64 1]) (by simp [results, Tryz.results4, go_sem] <;> rfl) rfl ?_
  exact ⟨rfl, rfl⟩
 ·have d0 : decide (id < 0) = false := by simpa using h0
  have d1 : decide (8 ≤ id) = true := by simp; omega
  go_enter Tryz.func4, Tryz.ntmps4
  go_wp2
  refine bodyPost_ret (v := .tuple #[.pointer none, .int .i64 1]) (by simp [results, Tryz.results4, go_sem] <;> rfl) rfl ?_
  exact ⟨rfl, rfl⟩
theorem newP_ok {id : Int} (h : 0 ≤ id ∧ id < 8) : (newP id).ok := ⟨h, .inl rfl, by simp [newP], (fun x hx => by cases hx), ⟨by simp [newP], by simp [newP]⟩, by simp [newP], (fun x hx => by cases hx), List.nodup_nil⟩
theorem rnew_yes (id : Int) (w : World) (h : 0 ≤ id ∧ id < 8) : Calls Tryz.prog 4 #[.int .i64 id] w fun e w' => e = .returned (.tuple #[.pointer (some ⟨w.heap.size + 1, 0, none⟩), .int .i64 0]) ∧
  RelX w' (fun k => k = w.heap.size ∨ k = w.heap.size + 1) (fun k => k = w.heap.size ∨ k = w.heap.size + 1) (w.heap.size + 1) (newP id) none 0 (.slice none 0 0) w.heap.size ∧ Below w.heap.size w w' := by
 have hmm := @run_makeMap Tryz.prog
 have d0 : decide (id < 0) = false := by simp; omega
 have d1 : decide (8 ≤ id) = false := by simp; omega
 go_enter Tryz.func4, Tryz.ntmps4
 go_wp2
 refine bodyPost_ret (v := .tuple #[.pointer (some ⟨w.heap.size + 1, 0, none⟩), .int .i64 0]) (by simp [results, Tryz.results4, go_sem] <;> rfl) rfl ⟨rfl, ?_, by (repeat' (first | with_reducible (first | exact Below.refl _ _ | refine Below.ext ?_ ?_ _ | refine Below.alloc ?_ ?_ _ | refine Below.setCell ?_ ?_ _ | refine Below.drew ?_ | assumption) | (simp [World.size_ext]; done) | (simp [World.size_ext]; omega)))⟩
 have hB := Blk.made w (.map #[] 0) 77 #[.int .i64 (newP id).id, .int .i64 (newP id).v.e, .int .i64 (newP id).v.p, .slice (none : Option Addr) (newP id).v.l.length 0, (.slice none 0 0), .int .i64 (newP id).joined, .int .i64 ((newP id).sure : Int), .map (some w.heap.size), .bool (newP id).act]
 refine ⟨hB, Reads.none_, fun h0 => absurd h0 (by simp [newP, Vi.none]), OwnE.nil _ _ _, fun k hk => by simp [Value.ownBlock] at hk, ?_, .inl rfl, by omega, by simp [Value.ownBlock], by simp [Value.ownBlock], .inr rfl, fun k h => h, fun k h => by simp; omega⟩
 exact (Mp.made w).kp (Kp.of_below (S := fun _ => False) (Below.alloc (Below.refl _ _) (by simp) _)) (fun h => h)
structure Recs (w : World) (T : Nat → Prop) (A : Option Addr) (n : Nat) (l : List (List Nat)) : Prop where
 ex : ∃ ms : List (List Nat × Value), ms.map Prod.fst = l ∧ Reads w w.heap.size 1 A n (ms.map Prod.snd) ∧ ∀ m ∈ ms, Bsl w T m.2 m.1
 len : l.length = n
 nt : 0 < n → ∀ a, A = some a → ¬T a.block
theorem Recs.nil (w : World) (T : Nat → Prop) : Recs w T none 0 [] := ⟨⟨[], rfl, Reads.none_, fun _ h => by cases h⟩, rfl, fun h => absurd h (by omega)⟩
theorem Recs.kp {w w' : World} {T : Nat → Prop} {A : Option Addr} {n : Nat} {l : List (List Nat)} (h : Recs w T A n l) (hk : Kp T w w') : Recs w' T A n l := by
 obtain ⟨⟨ms, e, hr, hm⟩, hl, hn⟩ := h
 exact ⟨⟨ms, e, Reads.kp hr hk hn, fun m hmm => (hm m hmm).kp hk⟩, hl, hn⟩
theorem Recs.sub {w : World} {T T' : Nat → Prop} {A : Option Addr} {n : Nat} {l : List (List Nat)} (h : Recs w T A n l) (hs : ∀ k, k < w.heap.size → T' k → T k) : Recs w T' A n l := by
 obtain ⟨⟨ms, e, hr, hm⟩, hl, hn⟩ := h
 refine ⟨⟨ms, e, hr, fun m hmm => (hm m hmm).sub hs⟩, hl, fun h0 a ha ht => hn h0 a ha (hs _ ?_ ht)⟩
 obtain ⟨a', e', hl', _⟩ := hr.2 h0
 rw [ha] at e'; cases e'; exact hl'
theorem Recs.one {w : World} {T : Nat → Prop} {v : Value} {t : List Nat} (h : Bsl w T v t) (hT : ¬T w.heap.size) : Recs (w.alloc (.cells #[v] 36)) T (some ⟨w.heap.size, 0, none⟩) 1 [t] := by
 have hb : Below w.heap.size w (w.alloc (.cells #[v] 36)) := Below.alloc (Below.refl _ _) (Nat.le_refl _) _
 refine ⟨⟨[(t, v)], rfl, ⟨rfl, fun _ => ⟨_, rfl, by simp, fun j u hu => ?_⟩⟩, fun m hm => ?_⟩, rfl, fun _ a ha => by cases ha; exact hT⟩
 ·rw [add_plain, (Blk.new w 36 #[v]).cell, Nat.zero_add]
  simpa using hu
 ·simp only [List.mem_singleton] at hm
  subst hm
  exact h.kp ⟨hb.os, hb.tape, hb.output, hb.size, fun k hk _ => hb.block k hk⟩
theorem RelX.widen {w : World} {S T T' : Nat → Prop} {g : Nat} {r : Rl} {Am : Option Addr} {cm : Nat} {vl : Value} {mb : Nat} (h : RelX w S T g r Am cm vl mb) (h1 : ∀ k, T' k → T k) (h2 : ∀ k, S k → T' k) : RelX w S T' g r Am cm vl mb :=
 ⟨h.blk, h.rd, fun h0 a ha ht => h.mt h0 a ha (h1 _ ht), h.own.sub (fun k _ ht => h1 k ht), h.vs, h.mp, h.ms, h.mg, h.vg, h.vm, h.g, h2, fun k ht => h.lt k (h1 k ht)⟩
def Aft (w w' : World) (S T : Nat → Prop) (g : Nat) (r' : Rl) (K : (Nat → Prop) → Prop) : Prop :=
 ∃ S' : Nat → Prop, RelW w' S' (fun k => T k ∨ S' k) g r' ∧ Kp S w w' ∧ (∀ k, S' k → S k ∨ w.heap.size ≤ k) ∧ K (fun k => T k ∨ S' k)
theorem Aft.same {w w' : World} {S T : Nat → Prop} {g : Nat} {r : Rl} {K : (Nat → Prop) → Prop} (h : RelW w S T g r) (hb : Below w.heap.size w w') (hK : K (fun k => T k ∨ S k)) : Aft w w' S T g r K := by
 obtain ⟨hok, Am, cm, vl, mb, hX⟩ := h
 exact ⟨S, ⟨hok, Am, cm, vl, mb, (hX.below hb).widen (fun k hk => hk.elim id (hX.sub k)) (fun k hk => .inr hk)⟩, Kp.of_below hb, fun k hk => .inl hk, hK⟩
theorem recPromise_by {v : Vi} (hv : v.right = true) : ∀ x ∈ recPromiseP v, x < 256 := by
 have hbd := right_bd hv
 have hm := rising_mem hbd.2.2.1
 have hl8 := rising_len hbd.2.2.1
 have he : I64 v.e := by unfold I64; omega
 have hp : I64 v.p := by have := hm _ hbd.2.2.2; unfold I64; omega
 intro x hx
 simp only [recPromiseP, viewB, List.mem_append, tailB, List.mem_flatMap] at hx
 rcases hx with hx | hx | hx | hx | ⟨y, hy, hx⟩
 ·exact numB_lt _ (by omega) x hx
 ·exact numB_lt _ (zig_lt _ he) x hx
 ·exact numB_lt _ (zig_lt _ hp) x hx
 ·exact numB_lt _ (by omega) x hx
 ·exact numB_lt _ (zig_lt _ (show I64 y by have := hm y hy; unfold I64; omega)) x hx
set_option maxRecDepth 100000 in
set_option maxHeartbeats 4000000 in
theorem lead_any {S T : Nat → Prop} {g : Nat} {r : Rl} (A : Option Addr) (c : Nat) (v : Vi) (w : World) (h : RelW w S T g r) (hr : Reads w w.heap.size 1 A v.l.length (ints v.l)) (hA : 0 < v.l.length → ∀ a, A = some a → ¬S a.block) (hl : v.l.length ≤ 1000000) :
  Calls Tryz.prog 7 #[.pointer (some ⟨g, 0, none⟩), .agg #[.int .i64 v.e, .int .i64 v.p, .slice A v.l.length c]] w fun e w' => Aft w w' S T g (leadP r v).r fun T' =>
   ∃ A1 n1 c1, e = .returned (.tuple #[.slice A1 n1 c1, .int .i64 (leadP r v).e]) ∧ Recs w' T' A1 n1 (leadP r v).recs := by
 have hW := h
 obtain ⟨hok, Am, cm, vl, mb, hX⟩ := h
 have hb0 : Below w.heap.size w (w.alloc (.cells #[.int .i64 v.e, .int .i64 v.p, .slice A v.l.length c] 44)) := Below.alloc (Below.refl _ _) (Nat.le_refl _) _
 have hX0 := hX.below hb0
 have hP := Blk.new w 44 #[.int .i64 v.e, .int .i64 v.p, .slice A v.l.length c]
 have hr0 := (hr.alloc (Nat.le_refl _) (.cells #[.int .i64 v.e, .int .i64 v.p, .slice A v.l.length c] 44)).more (B' := (w.alloc (.cells #[.int .i64 v.e, .int .i64 v.p, .slice A v.l.length c] 44)).heap.size) (by simp)
 have hR := vright_any v.e v.p A v.l.length c v.l _ hr0 (by omega)
 cases hv : v.right with
 | false =>
  have hL : leadP r v = ⟨[], 1, r⟩ := by unfold leadP; rw [hv]; rfl
  rw [hL]
  unfold Vi.right at hv
  rw [hv] at hR
  go_enter Tryz.func7, Tryz.ntmps7
  go_wp2_with (go_at_call 26; (with_reducible refine hR.mono ?_); rintro e w1 ⟨rfl, hb1⟩)
  refine bodyPost_ret (v := .tuple #[.slice none 0 0, .int .i64 1]) (by simp [results, Tryz.results7, go_sem] <;> rfl) rfl ?_
  exact Aft.same hW (hb0.trans (hb1.mono (by simp))) ⟨none, 0, 0, rfl, Recs.nil _ _⟩
 | true =>
  have hv2 := hv
  unfold Vi.right at hv2
  rw [hv2] at hR
  by_cases hle : v.e ≤ r.v.e
  ·have hL : leadP r v = ⟨[], 0, r⟩ := by unfold leadP; rw [hv, if_pos rfl, if_pos hle]
   rw [hL]
   have hd : decide (v.e ≤ r.v.e) = true := by simpa using hle
   go_enter Tryz.func7, Tryz.ntmps7
   go_wp2_with (go_at_call 26; (with_reducible refine hR.mono ?_); rintro e w1 ⟨rfl, hb1⟩; have hX1 := hX0.below hb1; have hP1 := hP.below hb1 (by simp); have c1 := hX1.blk.cell; have l1 := hX1.blk.lt; have cP := hP1.cell; have lP := hP1.lt)
   refine wp_region_ext_lit (by kernel_rfl) (by kernel_rfl) ?_
   (repeat (first | ((with_reducible refine wpQuiet_step (fun K hK => ?_)); go_simp; first | ((with_reducible refine hK _ ?_); clear hK K) | (apply Exists.intro; (with_reducible refine ⟨fun _ => ?_, hK _ ?_⟩); skip; clear hK K)) | ((with_reducible refine quiet_skipN ?_ (fun K hK => ?_)); (rfl); go_simp; (with_reducible refine hK _ ?_); clear hK K)))
   (with_reducible refine wpQuiet_nil ?_); intro _ hw'; obtain ⟨Y, hw''⟩ := hw'; subst hw''
   go_wp2
   refine bodyPost_ret (v := .tuple #[.slice none 0 0, .int .i64 0]) (by simp [results, Tryz.results7, go_sem] <;> rfl) rfl ?_
   exact Aft.same hW (Below.ext (hb0.trans (hb1.mono (by simp))) (by have := hb1.size; simp at this; omega) Y) ⟨none, 0, 0, rfl, Recs.nil _ _⟩
  ·have hL : leadP r v = ⟨[recPromiseP v], 0, promiseP r v⟩ := by unfold leadP; rw [hv, if_pos rfl, if_neg hle]
   rw [hL]
   have hd : decide (v.e ≤ r.v.e) = false := by simpa using hle
   go_enter Tryz.func7, Tryz.ntmps7
   go_wp2_with (go_at_call 26; (with_reducible refine hR.mono ?_); rintro e w1 ⟨rfl, hb1⟩; have hX1 := hX0.below hb1; have hP1 := hP.below hb1 (by simp); have c1 := hX1.blk.cell; have l1 := hX1.blk.lt; have cP := hP1.cell; have lP := hP1.lt)
   refine wp_region_ext_lit (by kernel_rfl) (by kernel_rfl) ?_
   (repeat (first | ((with_reducible refine wpQuiet_step (fun K hK => ?_)); go_simp; first | ((with_reducible refine hK _ ?_); clear hK K) | (apply Exists.intro; (with_reducible refine ⟨fun _ => ?_, hK _ ?_⟩); skip; clear hK K)) | ((with_reducible refine quiet_skipN ?_ (fun K hK => ?_)); (rfl); go_simp; (with_reducible refine hK _ ?_); clear hK K)))
   (with_reducible refine wpQuiet_nil ?_); intro _ hw'; obtain ⟨Y, hw''⟩ := hw'; subst hw''
   have hX2 := hX1.below (World.below_ext w1 Y)
   have hs1 := hb1.size
   simp only [World.size_alloc] at hs1
   have hP2 := hP1.ext Y
   have cP2 := hP2.cell
   have lP2 := hP2.lt
   have hb2 : Below w.heap.size w (w1.ext Y) := Below.ext (hb0.trans (hb1.mono (by simp))) (by omega) Y
   have hr2 := (hr.below hb2).more hb2.size
   have hne : w.heap.size ≠ g := by have := hX.blk.lt; omega
   have hAg : 0 < v.l.length → ∀ a, A = some a → a.block ≠ g := fun h0 a ha e => hA h0 a ha (by rw [e]; exact hX.g)
   clear cP c1 lP l1 hX1 hX0 hP1 hP
   go_wp2_with (first | (go_at_call 27; (with_reducible refine (promise_any A c v _ hX2 hok hv hr2).mono ?_); rintro e w3 ⟨rfl, ⟨A1, c1, m1, hX3, hm1⟩, ho3⟩; have hP3 := Blk.only hP2 ho3 hne; have cP3 := hP3.cell; have lP3 := hP3.lt) | (go_at_call 28; (with_reducible refine (recPromise_any A c v w3 (Reads.only hr2 ho3 hAg) hv).mono ?_); rintro e w4 ⟨u, rfl, hu, hb4⟩; obtain ⟨Au, nu, cu, rfl⟩ := hu.shape))
   refine bodyPost_ret (v := .tuple #[.slice (some ⟨w4.heap.size, 0, none⟩) 1 1, .int .i64 0]) (by simp [results, Tryz.results7, go_sem] <;> rfl) rfl ?_
   have hs2 := hb2.size
   have hs3 := ho3.size
   have hs4 := hb4.size
   have hba : Below w4.heap.size w4 (w4.alloc (.cells #[.slice Au nu cu] 36)) := Below.alloc (Below.refl _ _) (Nat.le_refl _) _
   have hX5 := ((hX3.below hb4).below hba).widen (T' := fun k => T k ∨ (S k ∨ k = m1)) (fun k hk => hk.elim .inl (fun hk => hk.elim (fun hk => .inl (hX.sub k hk)) .inr)) (fun k hk => .inr hk)
   refine ⟨fun k => S k ∨ k = m1, ⟨promise_ok hok hv, A1, c1, _, m1, hX5⟩, ?_, fun k hk => hk.elim .inl (fun e => .inr (by omega)), _, 1, 1, rfl, ?_⟩
   ·exact (((Kp.of_below hb2).trans (Kp.of_only ho3 hX2.g)).trans (Kp.of_below hb4)).trans (Kp.of_below hba)
   ·have hbs : Bsl w4 (fun k => k < w3.heap.size) (.slice Au nu cu) (recPromiseP v) := Bsl.row hu (fun k hk => hk) (recPromise_by hv)
    refine Recs.one (hbs.sub fun k hk ht => ?_) fun ht => ?_
    ·show k < w3.heap.size
     rcases ht with ht | ht | ht
     ·have := hX.lt k ht; omega
     ·have := hX.lt k (hX.sub k ht); omega
     ·have := hX3.lt k (.inr ht); omega
    ·rcases ht with ht | ht | ht
     ·have := hX.lt _ ht; omega
     ·have := hX.lt _ (hX.sub _ ht); omega
     ·have := hX3.lt _ (.inr ht); omega
end Go.Proofs.YtjhcgnmibnjocaaGreat
