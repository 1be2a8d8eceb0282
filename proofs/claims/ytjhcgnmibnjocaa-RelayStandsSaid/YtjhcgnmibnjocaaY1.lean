import Derived.Test.YtjhcgnmibnjocaaGC
import Derived.Test.YtjhcgnmibnjocaaGA
/-! A relay in plain words. -/
namespace Go.Proofs.Ytjhcgnmibnjocaa
open Go.RowKit
set_option linter.unusedVariables false
set_option linter.unusedSimpArgs false
/-- An entry: an epoch, a text. -/
structure Ent where
  e : Int
  t : List Nat
deriving DecidableEq
structure Vi where
  e : Int
  p : Int
  l : List Int
deriving DecidableEq
def Vi.none : Vi := ⟨0, 0, []⟩
def Vi.right (v : Vi) : Bool := rightV v.e v.p v.l
structure Rl where
  id : Int
  v : Vi
  log : List Ent
  joined : Int
  sure : Nat
  acks : List (Int × Nat)
  act : Bool
deriving DecidableEq
def Rl.leads (r : Rl) : Bool := decide (0 < r.v.e) && decide (r.v.p = r.id)
def leastP (acks : List (Int × Nat)) : List Int → Nat → Option Nat
  | [], m => some m
  | n :: l, m => match acks.lookup n with | .none => .none | some k => leastP acks l (min m k)
def ackedL (n : Int) (k : Nat) (l : List (Int × Nat)) : List (Int × Nat) := (n, k) :: l.filter fun x => !(x.1 == n)
def settleP (r : Rl) : Rl := if r.leads then (match leastP r.acks r.v.l r.log.length with | .none => r | some m => { r with act := true, sure := max r.sure m }) else r
def promiseP (r : Rl) (v : Vi) : Rl :=
  settleP (if ({ r with v := v, act := false, acks := [] } : Rl).leads then { r with v := v, act := false, joined := v.e, acks := ackedL r.id r.log.length [] } else { r with v := v, act := false, acks := [] })
def newP (id : Int) : Rl := ⟨id, Vi.none, [], 0, 0, [], false⟩
/-- Bytes of entries; records. -/
def entB (x : Ent) : List Nat := numB (zig x.e) ++ (numB x.t.length ++ x.t)
def entsB (l : List Ent) : List Nat := l.flatMap entB
def logB (l : List Ent) : List Nat := numB l.length ++ entsB l
def recPromiseP (v : Vi) : List Nat := numB 1 ++ viewB v.e v.p v.l
def recEntryP (at_ : Nat) (x : Ent) : List Nat := numB 2 ++ (numB (zig at_) ++ logB [x])
def recLogP (e : Int) (l : List Ent) : List Nat := numB 3 ++ (numB (zig e) ++ logB l)
/-- Messages. -/
structure Mg where
  k : Int
  e : Int
  v : Vi
  i : Int
  s : Int
  log : List Ent
deriving DecidableEq
structure Ot where
  to : Int
  m : Mg
deriving DecidableEq
structure Lead where
  recs : List (List Nat)
  e : Int
  r : Rl
def leadP (r : Rl) (v : Vi) : Lead := if v.right then (if v.e ≤ r.v.e then ⟨[], 0, r⟩ else ⟨[recPromiseP v], 0, promiseP r v⟩) else ⟨[], 1, r⟩
def othersP (r : Rl) : List Int := r.v.l.filter fun n => !(n == r.id)
structure Prop_ where
  at_ : Nat
  recs : List (List Nat)
  outs : List Ot
  e : Int
  r : Rl
def proposed (r : Rl) (c : List Nat) : Rl := settleP { r with log := r.log ++ [⟨r.v.e, c⟩], acks := ackedL r.id (r.log.length + 1) r.acks }
def proposeP (r : Rl) (c : List Nat) : Prop_ :=
  if 262144 < c.length then ⟨0, [], [], 8, r⟩ else if !(r.leads && r.act) then ⟨0, [], [], 3, r⟩ else if 4096 ≤ r.log.length then ⟨0, [], [], 4, r⟩ else
    ⟨r.log.length + 1, [recEntryP (r.log.length + 1) ⟨r.v.e, c⟩], (othersP r).map fun n => ⟨n, ⟨2, r.v.e, Vi.none, (r.log.length + 1 : Nat), (proposed r c).sure, [⟨r.v.e, c⟩]⟩⟩, 0, proposed r c⟩
def shipsP (r : Rl) (n : Int) (k : Nat) : Nat → List Ot
  | 0 => []
  | j + 1 => shipsP r n k j ++ (match r.log[k + j]? with | some x => [⟨n, ⟨2, r.v.e, Vi.none, (k + j + 1 : Nat), r.sure, [x]⟩⟩] | .none => [])
def tickOne (r : Rl) (n : Int) : List Ot :=
  match r.acks.lookup n with
  | .none => [⟨n, ⟨1, r.v.e, r.v, 0, r.sure, r.log⟩⟩]
  | some k => (if k = r.log.length then [⟨n, ⟨2, r.v.e, Vi.none, k, r.sure, []⟩⟩] else []) ++ shipsP r n k 16
def tickP (r : Rl) : List Ot := if r.leads then (othersP r).flatMap (tickOne r) else []
def hearP (r : Rl) (s : Int) : Rl := { r with sure := max r.sure (min s r.log.length).toNat }
def hearO (r : Rl) (f : Int) : List Ot := [⟨f, ⟨3, r.v.e, Vi.none, r.log.length, 0, []⟩⟩]
structure Took where
  recs : List (List Nat)
  outs : List Ot
  r : Rl
def offerOk (r : Rl) (f : Int) (m : Mg) : Bool := m.v.right && decide (m.v.e = m.e) && decide (m.v.p = f) && !(f == r.id) && hasB m.v.l r.id && decide (m.log.length ≤ 4096) && !(decide (m.e < r.v.e)) && !(decide (m.e = r.v.e) && !(r.v.p == f))
def offer1 (r : Rl) (m : Mg) : Rl := if r.v.e < m.e then promiseP r m.v else r
def offerR (r : Rl) (m : Mg) : List (List Nat) := if r.v.e < m.e then [recPromiseP m.v] else []
def takes (r : Rl) (m : Mg) : Bool := !(r.joined == r.v.e) || decide (r.log.length ≤ m.log.length)
def offer2 (r : Rl) (m : Mg) : Rl := if takes r m then { r with joined := r.v.e, log := m.log } else r
def offer2R (r : Rl) (m : Mg) : List (List Nat) := if takes r m then [recLogP r.v.e m.log] else []
def offerP (r : Rl) (f : Int) (m : Mg) : Took :=
  if offerOk r f m then ⟨offerR r m ++ offer2R (offer1 r m) m, hearO (offer2 (offer1 r m) m) f, hearP (offer2 (offer1 r m) m) m.s⟩ else ⟨[], [], r⟩
def shipOk (r : Rl) (f : Int) (m : Mg) : Bool := decide (m.e = r.v.e) && decide (r.joined = m.e) && decide (r.v.p = f) && !(f == r.id)
def shipIn (r : Rl) (m : Mg) : Option Ent := match m.log with | [x] => if m.i = r.log.length + 1 ∧ m.i ≤ 4096 then some x else .none | _ => .none
def ship1 (r : Rl) (m : Mg) : Rl := match shipIn r m with | some x => { r with log := r.log ++ [x] } | .none => r
def ship1R (r : Rl) (m : Mg) : List (List Nat) := match shipIn r m with | some x => [recEntryP (r.log.length + 1) x] | .none => []
def shipP (r : Rl) (f : Int) (m : Mg) : Took := if shipOk r f m then ⟨ship1R r m, hearO (ship1 r m) f, hearP (ship1 r m) m.s⟩ else ⟨[], [], r⟩
def ackOk (r : Rl) (f : Int) (m : Mg) : Bool := r.leads && decide (m.e = r.v.e) && !(f == r.id) && hasB r.v.l f && decide (0 ≤ m.i) && decide (m.i ≤ r.log.length)
def ackP (r : Rl) (f : Int) (m : Mg) : Rl := if ackOk r f m then settleP { r with acks := ackedL f (max ((r.acks.lookup f).getD 0) m.i.toNat) r.acks } else r
def takeP_ (r : Rl) (f : Int) (m : Mg) : Took := if m.k = 1 then offerP r f m else if m.k = 2 then shipP r f m else if m.k = 3 then ⟨[], [], ackP r f m⟩ else ⟨[], [], r⟩
def saveP (r : Rl) : List (List Nat) := (if 0 < r.v.e then [recPromiseP r.v] else []) ++ (if 0 < r.log.length ∨ 0 < r.joined then [recLogP r.joined r.log] else [])
/-- What holds of a relay. -/
structure Ent.ok (x : Ent) : Prop where
  e : I64 x.e
  n : x.t.length ≤ 262144
  by_ : ∀ y ∈ x.t, y < 256
structure Vi.ok (v : Vi) : Prop where
  e : I64 v.e
  p : I64 v.p
  l : ∀ x ∈ v.l, I64 x
structure Rl.ok (r : Rl) : Prop where
  id : 0 ≤ r.id ∧ r.id < 8
  v : r.v = Vi.none ∨ r.v.right = true
  n : r.log.length ≤ 4096
  log : ∀ x ∈ r.log, x.ok
  j : 0 ≤ r.joined ∧ r.joined ≤ 4611686018427387904
  s : r.sure ≤ 4096
  ak : ∀ x ∈ r.acks, x.2 ≤ 4096 ∧ 0 ≤ x.1 ∧ x.1 < 8
  an : (r.acks.map (·.1)).Nodup
theorem right_bd {v : Vi} (h : v.right = true) : 1 ≤ v.e ∧ v.e ≤ 4611686018427387904 ∧ risingB v.l = true ∧ v.p ∈ v.l := by
  unfold Vi.right rightV at h
  simp only [Bool.and_eq_true, decide_eq_true_eq] at h
  exact ⟨h.1.1.1, h.1.1.2, h.1.2, hasB_mem.1 h.2⟩
end Go.Proofs.Ytjhcgnmibnjocaa
