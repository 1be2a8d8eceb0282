import Derived.Test.YtmfbidhnafpkdaaDoorRr
/-! Whether rules hold of labels. -/
namespace Go.Proofs.YtmfbidhnafpkdaaDoor
open Go.RowKit
set_option linter.unusedVariables false
set_option linter.unusedSimpArgs false
theorem eqB (a b : ByteArray) : (a.toList == b.toList) = decide (a = b) := by
  rw [ByteArray.toList_eq, ByteArray.toList_eq, Bool.eq_iff_iff]
  simp only [beq_iff_eq, decide_eq_true_eq]
  constructor
  · intro h
    cases a; cases b
    simp only at h
    congr 1
    exact Array.toList_inj.1 h
  · rintro rfl; rfl
theorem neB (a b : ByteArray) : (a.toList != b.toList) = !decide (a = b) := by
  rw [bne, eqB]
/-- Whether a text stands at a place. -/
def stB (l : List UInt8) (n : Nat) (p : List UInt8) : Bool := decide (n + p.length ≤ l.length) && p.isPrefixOf (l.drop n)
theorem stB_take {l p : List UInt8} {n : Nat} (h : n + p.length ≤ l.length) : ((l.drop n).take p.length == p) = p.isPrefixOf (l.drop n) := (Lib.occAt_iff_take l p n h).symm
theorem stB_occ (l p : List UInt8) (n : Nat) (hn : n ≤ l.length) : stB l n p = Lib.occAt l p n := by
  unfold stB
  cases ho : Lib.occAt l p n with
  | false =>
    have : p.isPrefixOf (l.drop n) = false := ho
    rw [this, Bool.and_false]
  | true =>
    have : p.isPrefixOf (l.drop n) = true := ho
    rw [this, Bool.and_true, decide_eq_true_eq]
    rcases Lib.occAt_room ho with h | h
    · exact h
    · subst h; simpa using hn
/-- Whether one rule holds. -/
def oneL (S : List Par) (x : Rul) : Bool :=
  if x.op = 1 then decide (getL S x.a = x.b)
  else if x.op = 2 then !decide (getL S x.a = x.b)
  else if x.op = 3 then x.b.data.toList.isPrefixOf (getL S x.a).data.toList
  else if x.op = 4 then Lib.contains (getL S x.a).data.toList x.b.data.toList
  else false
def allL (L : List Rul) (S : List Par) : Bool := L.all (oneL S)
theorem getL_mem : ∀ (S : List Par) (nm : ByteArray), getL S nm = ⟨#[]⟩ ∨ ∃ x ∈ S, getL S nm = x.b
  | [], _ => .inl rfl
  | x :: S, nm => by
    unfold getL
    split
    · exact .inr ⟨x, by simp, rfl⟩
    · rcases getL_mem S nm with h | ⟨y, hy, h⟩
      · exact .inl h
      · exact .inr ⟨y, by simp [hy], h⟩
theorem getL_size {S : List Par} {n : Nat} (h : ∀ x ∈ S, x.b.size < n + 1) (nm : ByteArray) : (getL S nm).size < n + 1 := by
  rcases getL_mem S nm with e | ⟨x, hx, e⟩
  · rw [e]; exact Nat.succ_pos _
  · rw [e]; exact h x hx
set_option maxRecDepth 100000 in
set_option maxHeartbeats 4000000 in
theorem stands_any (s p : ByteArray) (n : Nat) (hn : n ≤ maxLen) (hs : s.size ≤ maxLen) (hp : p.size ≤ maxLen) (w : World) :
    Calls Tryd.prog 32 #[.string s, .int .i64 (n : Int), .string p] w fun e w' => e = .returned (.bool (stB s.data.toList n p.data.toList)) ∧ w' = w := by
  unfold maxLen at *
  have e1 := Lib.size_eq s
  have e2 := Lib.size_eq p
  by_cases hle : n + p.size ≤ s.size
  · have i1 : (n : Int) ≤ (s.size : Int) - p.size := by omega
    have i2 : (n : Int) + p.size ≤ s.size := by omega
    have hw : IntKind.i64.wrap ((n : Int) + p.size) = (n : Int) + p.size := by rw [IntKind.wrap_i64]; omega
    have hx : (s.extract n (n + p.size)).data.toList = (s.data.toList.drop n).take p.data.toList.length := by rw [Lib.extract_data, e2]; congr 1; omega
    have hq : ((s.extract n (n + p.size)).toList == p.toList) = stB s.data.toList n p.data.toList := by
      rw [ByteArray.toList_eq, ByteArray.toList_eq, hx, stB_take (by omega)]
      unfold stB
      rw [decide_eq_true (by omega), Bool.true_and]
    generalize stB s.data.toList n p.data.toList = R at *
    clear e1 e2 hx
    go_enter Tryd.func32, Tryd.ntmps32
    go_wp2
    go_ret
    exact ⟨rfl, rfl⟩
  · have i1 : ¬ (n : Int) ≤ (s.size : Int) - p.size := by omega
    have hF := hide (show stB s.data.toList n p.data.toList = false from by unfold stB; rw [decide_eq_false (by omega)]; rfl)
    clear e1 e2
    go_enter Tryd.func32, Tryd.ntmps32
    go_wp2
    go_ret
    exact ⟨by rw [hF.out]; rfl, rfl⟩
set_option maxRecDepth 100000 in
set_option maxHeartbeats 8000000 in
theorem mone_any (x : Rul) (sv : Value) (S : List Par) (w : World) (h1 : Pz w sv S) (hg : Sg w) (hz : ∀ y ∈ S, y.b.size < 4294967281) :
    Calls Tryd.prog 27 #[.agg #[.string x.a, .int .i64 x.op, .string x.b], sv] w fun e w' => e = .returned (.bool (oneL S x)) ∧ Below w.heap.size w w' := by
  obtain ⟨nm, op, v⟩ := x
  have hG := fun w1 h => pget_any sv S nm w1 h
  have hvs := getL_size hz nm
  unfold oneL
  dsimp only
  generalize getL S nm = g at *
  have e1 := eqB g v
  have e2 := neB g v
  obtain ⟨mm, hmm⟩ := hg.mx
  have h1b := hg.big
  by_cases o1 : op = 1
  · subst o1
    go_enter Tryd.func27, Tryd.ntmps27
    go_wp2_with (go_at_call 15; with_reducible refine (hG _ (h1.alloc _)).mono ?_; rintro e w1 ⟨rfl, hb1⟩; obtain ⟨X, rfl⟩ := World.ext_of_below hb1; clear hb1)
    (try simp only [e1])
    go_ret
    exact ⟨rfl, by (repeat' (first | with_reducible exact Below.refl _ _ | with_reducible refine Below.ext ?_ ?_ _ | with_reducible refine Below.alloc ?_ ?_ _ | with_reducible refine Below.setCell ?_ ?_ _ | with_reducible refine Below.drew ?_ | with_reducible assumption | (simp [World.size_ext]; done) | (simp [World.size_ext]; omega)))⟩
  have o1' : (op == 1) = false := by simp [o1]
  by_cases o2 : op = 2
  · subst o2
    go_enter Tryd.func27, Tryd.ntmps27
    go_wp2_with (go_at_call 15; with_reducible refine (hG _ (h1.alloc _)).mono ?_; rintro e w1 ⟨rfl, hb1⟩; obtain ⟨X, rfl⟩ := World.ext_of_below hb1; clear hb1)
    (try simp only [e2])
    go_ret
    exact ⟨rfl, by (repeat' (first | with_reducible exact Below.refl _ _ | with_reducible refine Below.ext ?_ ?_ _ | with_reducible refine Below.alloc ?_ ?_ _ | with_reducible refine Below.setCell ?_ ?_ _ | with_reducible refine Below.drew ?_ | with_reducible assumption | (simp [World.size_ext]; done) | (simp [World.size_ext]; omega)))⟩
  have o2' : (op == 2) = false := by simp [o2]
  by_cases o3 : op = 3
  · subst o3
    have hP := fun w => Tryd.strings_HasPrefix g v w
    simp only [Lib.hasPrefix] at hP
    go_enter Tryd.func27, Tryd.ntmps27
    go_wp2_with (first | (go_at_call 15; with_reducible refine (hG _ (h1.alloc _)).mono ?_; rintro e w1 ⟨rfl, hb1⟩; obtain ⟨X, rfl⟩ := World.ext_of_below hb1; clear hb1) | (go_at_call 31; (with_reducible refine (hP _).mono ?_); rintro e w2 ⟨rfl, rfl⟩))
    go_ret
    exact ⟨rfl, by (repeat' (first | with_reducible exact Below.refl _ _ | with_reducible refine Below.ext ?_ ?_ _ | with_reducible refine Below.alloc ?_ ?_ _ | with_reducible refine Below.setCell ?_ ?_ _ | with_reducible refine Below.drew ?_ | with_reducible assumption | (simp [World.size_ext]; done) | (simp [World.size_ext]; omega)))⟩
  have o3' : (op == 3) = false := by simp [o3]
  by_cases o4 : op = 4
  · subst o4
    have hC := fun w hm => Tryd.strings_Contains g v mm w (by omega) hm
    go_enter Tryd.func27, Tryd.ntmps27
    go_wp2_with (first | (go_at_call 15; with_reducible refine (hG _ (h1.alloc _)).mono ?_; rintro e w1 ⟨rfl, hb1⟩; obtain ⟨X, rfl⟩ := World.ext_of_below hb1; clear hb1) | (go_at_call 41; (with_reducible refine (hC _ ((World.cell?_ext (by simp; omega)).trans ((World.cell?_alloc_lt _ _ _ h1b).trans hmm))).mono ?_); rintro e w2 ⟨rfl, rfl⟩))
    go_ret
    exact ⟨rfl, by (repeat' (first | with_reducible exact Below.refl _ _ | with_reducible refine Below.ext ?_ ?_ _ | with_reducible refine Below.alloc ?_ ?_ _ | with_reducible refine Below.setCell ?_ ?_ _ | with_reducible refine Below.drew ?_ | with_reducible assumption | (simp [World.size_ext]; done) | (simp [World.size_ext]; omega)))⟩
  have o4' : (op == 4) = false := by simp [o4]
  rw [if_neg o1, if_neg o2, if_neg o3, if_neg o4]
  go_enter Tryd.func27, Tryd.ntmps27
  go_wp2_with (go_at_call 15; with_reducible refine (hG _ (h1.alloc _)).mono ?_; rintro e w1 ⟨rfl, hb1⟩; obtain ⟨X, rfl⟩ := World.ext_of_below hb1; clear hb1)
  go_ret
  exact ⟨rfl, by (repeat' (first | with_reducible exact Below.refl _ _ | with_reducible refine Below.ext ?_ ?_ _ | with_reducible refine Below.alloc ?_ ?_ _ | with_reducible refine Below.setCell ?_ ?_ _ | with_reducible refine Below.drew ?_ | with_reducible assumption | (simp [World.size_ext]; done) | (simp [World.size_ext]; omega)))⟩
theorem contains_at {s p : List UInt8} {i : Nat} (hi : i ≤ s.length) (h : Lib.occAt s p i = true) : Lib.contains s p = true := by
  unfold Lib.contains
  rw [decide_eq_true_eq]
  rcases Lib.index_spec s p with ⟨_, h2⟩ | ⟨j, h1, _⟩
  · rw [h2 i hi] at h; cases h
  · rw [h1]; omega
theorem contains_none {s p : List UInt8} (h : ∀ j, j ≤ s.length → Lib.occAt s p j = false) : Lib.contains s p = false := by
  unfold Lib.contains
  rw [Lib.index_none h]
  rfl
set_option maxRecDepth 100000 in
set_option maxHeartbeats 8000000 in
theorem rone_any (x : Rul) (sv : Value) (S : List Par) (w : World) (h1 : Pz w sv S) (hz : ∀ y ∈ S, y.b.size < 4294967281) (hxb : x.b.size ≤ maxLen) :
    Calls Tryd.prog 28 #[.agg #[.string x.a, .int .i64 x.op, .string x.b], sv] w fun e w' => e = .returned (.bool (oneL S x)) ∧ Below w.heap.size w w' := by
  obtain ⟨nm, op, v⟩ := x
  dsimp only at hxb
  have hG := fun w1 h => rget_any sv S nm w1 h
  have hvs := getL_size hz nm
  unfold oneL
  dsimp only
  generalize getL S nm = g at *
  have e1 := eqB g v
  have e2 := neB g v
  have hgm : g.size ≤ maxLen := by unfold maxLen; omega
  by_cases o1 : op = 1
  · subst o1
    go_enter Tryd.func28, Tryd.ntmps28
    go_wp2_with (go_at_call 42; with_reducible refine (hG _ (h1.alloc _)).mono ?_; rintro e w1 ⟨rfl, hb1⟩; obtain ⟨X, rfl⟩ := World.ext_of_below hb1; clear hb1)
    (try simp only [e1])
    go_ret
    exact ⟨rfl, by (repeat' (first | with_reducible exact Below.refl _ _ | with_reducible refine Below.ext ?_ ?_ _ | with_reducible refine Below.alloc ?_ ?_ _ | with_reducible refine Below.setCell ?_ ?_ _ | with_reducible refine Below.drew ?_ | with_reducible assumption | (simp [World.size_ext]; done) | (simp [World.size_ext]; omega)))⟩
  have o1' : (op == 1) = false := by simp [o1]
  by_cases o2 : op = 2
  · subst o2
    go_enter Tryd.func28, Tryd.ntmps28
    go_wp2_with (go_at_call 42; with_reducible refine (hG _ (h1.alloc _)).mono ?_; rintro e w1 ⟨rfl, hb1⟩; obtain ⟨X, rfl⟩ := World.ext_of_below hb1; clear hb1)
    (try simp only [e2])
    go_ret
    exact ⟨rfl, by (repeat' (first | with_reducible exact Below.refl _ _ | with_reducible refine Below.ext ?_ ?_ _ | with_reducible refine Below.alloc ?_ ?_ _ | with_reducible refine Below.setCell ?_ ?_ _ | with_reducible refine Below.drew ?_ | with_reducible assumption | (simp [World.size_ext]; done) | (simp [World.size_ext]; omega)))⟩
  have o2' : (op == 2) = false := by simp [o2]
  by_cases o3 : op = 3
  · subst o3
    have hP := fun w => stands_any g v 0 (Nat.zero_le _) hgm hxb w
    have hst : stB g.data.toList 0 v.data.toList = v.data.toList.isPrefixOf g.data.toList := by
      rw [stB_occ _ _ _ (Nat.zero_le _)]
      rfl
    rw [hst] at hP
    have hP : ∀ w, Calls Tryd.prog 32 #[.string g, .int .i64 0, .string v] w fun e w' => e = .returned (.bool (v.data.toList.isPrefixOf g.data.toList)) ∧ w' = w := hP
    rw [if_neg (by decide), if_neg (by decide), if_pos rfl]
    generalize v.data.toList.isPrefixOf g.data.toList = R at *
    clear hst hxb hgm
    go_enter Tryd.func28, Tryd.ntmps28
    go_wp2_with (first | (go_at_call 42; with_reducible refine (hG _ (h1.alloc _)).mono ?_; rintro e w1 ⟨rfl, hb1⟩; obtain ⟨X, rfl⟩ := World.ext_of_below hb1; clear hb1) | (go_at_call 32; (with_reducible refine (hP _).mono ?_); rintro e w2 ⟨rfl, rfl⟩))
    go_ret
    exact ⟨rfl, by (repeat' (first | with_reducible exact Below.refl _ _ | with_reducible refine Below.ext ?_ ?_ _ | with_reducible refine Below.alloc ?_ ?_ _ | with_reducible refine Below.setCell ?_ ?_ _ | with_reducible refine Below.drew ?_ | with_reducible assumption | (simp [World.size_ext]; done) | (simp [World.size_ext]; omega)))⟩
  have o3' : (op == 3) = false := by simp [o3]
  by_cases o4 : op = 4
  · subst o4
    rw [if_neg (by decide), if_neg (by decide), if_neg (by decide), if_pos rfl]
    have hl := Lib.size_eq g
    have hP := fun n hn w => stands_any g v n hn hgm hxb w
    unfold maxLen at hxb hgm hP
    go_enter Tryd.func28, Tryd.ntmps28
    go_wp2_with (go_at_call 42; with_reducible refine (hG _ (h1.alloc _)).mono ?_; rintro e w1 ⟨rfl, hb1⟩; obtain ⟨X, rfl⟩ := World.ext_of_below hb1; clear hb1)
    go_loopw [6] (fun s6 wr => ∃ i : Nat, i ≤ g.size + 1 ∧ s6 = .int .i64 (i : Int) ∧ (∀ j, j < i → Lib.occAt g.data.toList v.data.toList j = false) ∧ wr = (w.alloc (.cells #[.string nm, .int .i64 4, .string v] 51)).ext X) (fun s6 _ => ((g.size : Int) + 1 - intOf s6).toNat)
    case atStart => exact ⟨0, by omega, rfl, fun j hj => by omega, rfl⟩
    case round =>
      obtain ⟨i, hi, rfl, hno, rfl⟩ := hrel
      by_cases hlt : i ≤ g.size
      · have hii : (i : Int) ≤ g.size := by omega
        have hQ := fun w => hP i (by omega) w
        rw [stB_occ _ _ _ (by omega)] at hQ
        cases ho : Lib.occAt g.data.toList v.data.toList i with
        | true =>
          have hF := hide (contains_at (by omega) ho)
          rw [ho] at hQ
          clear hno ho hP hxb hgm hl
          go_wp2_with (go_at_call 32; (with_reducible refine (hQ _).mono ?_); rintro e w2 ⟨rfl, rfl⟩)
          go_ret
          exact ⟨by rw [hF.out]; rfl, by (repeat' (first | with_reducible exact Below.refl _ _ | with_reducible refine Below.ext ?_ ?_ _ | with_reducible refine Below.alloc ?_ ?_ _ | with_reducible refine Below.setCell ?_ ?_ _ | with_reducible refine Below.drew ?_ | with_reducible assumption | (simp [World.size_ext]; done) | (simp [World.size_ext]; omega)))⟩
        | false =>
          have HN := hide (show ∀ j, j < i + 1 → Lib.occAt g.data.toList v.data.toList j = false from fun j hj => by
            rcases Nat.lt_or_ge j i with h | h
            · exact hno j h
            · obtain rfl : j = i := by omega
              exact ho)
          rw [ho] at hQ
          clear hno ho hP hxb hgm hl
          go_wp2_with (go_at_call 32; (with_reducible refine (hQ _).mono ?_); rintro e w2 ⟨rfl, rfl⟩)
          go_roundw
          case rel => exact ⟨i + 1, by omega, by go_num, HN.out, by trivial⟩
          case measure => first | (simp [intOf]; done) | (simp [intOf]; omega)
      · obtain rfl : i = g.size + 1 := by omega
        have hF := hide (contains_none (s := g.data.toList) (p := v.data.toList) (fun j hj => hno j (by omega)))
        have i1 : ¬ (g.size : Int) + 1 ≤ g.size := by omega
        clear hno hP hxb hgm hl
        go_wp2
        go_ret
        exact ⟨by rw [hF.out]; rfl, by (repeat' (first | with_reducible exact Below.refl _ _ | with_reducible refine Below.ext ?_ ?_ _ | with_reducible refine Below.alloc ?_ ?_ _ | with_reducible refine Below.setCell ?_ ?_ _ | with_reducible refine Below.drew ?_ | with_reducible assumption | (simp [World.size_ext]; done) | (simp [World.size_ext]; omega)))⟩
  have o4' : (op != 4) = true := by simp [o4]
  rw [if_neg o1, if_neg o2, if_neg o3, if_neg o4]
  go_enter Tryd.func28, Tryd.ntmps28
  go_wp2_with (go_at_call 42; with_reducible refine (hG _ (h1.alloc _)).mono ?_; rintro e w1 ⟨rfl, hb1⟩; obtain ⟨X, rfl⟩ := World.ext_of_below hb1; clear hb1)
  go_ret
  exact ⟨rfl, by (repeat' (first | with_reducible exact Below.refl _ _ | with_reducible refine Below.ext ?_ ?_ _ | with_reducible refine Below.alloc ?_ ?_ _ | with_reducible refine Below.setCell ?_ ?_ _ | with_reducible refine Below.drew ?_ | with_reducible assumption | (simp [World.size_ext]; done) | (simp [World.size_ext]; omega)))⟩
end Go.Proofs.YtmfbidhnafpkdaaDoor
