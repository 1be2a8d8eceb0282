import Derived.Test.YtjhcgnmibnjocaaGreatY52
import Derived.Test.YtjhcgnmibnjocaaGreatY50
/-! Several texts in one. -/
set_option linter.unusedVariables false
set_option linter.unusedSimpArgs false
namespace Go.Proofs.YtjhcgnmibnjocaaGreat
open Go.RowKit Go.Maps
attribute [local irreducible] First.wpF
def acC (x : Int × Nat) : List Value := [.int .i64 x.1, .int .i64 (x.2 : Int)]
def acV (l : List (Int × Nat)) : List Value := rowsV acC l
theorem acC_len (x : Int × Nat) : (acC x).length = 2 := rfl
theorem acV_get {l : List (Int × Nat)} {i : Nat} {x : Int × Nat} (h : l[i]? = some x) : (acV l)[i * 2]? = some (.int .i64 x.1) ∧ (acV l)[i * 2 + 1]? = some (.int .i64 (x.2 : Int)) :=
 ⟨rowsV_get (k := 2) acC_len l i x h 0 _ rfl, rowsV_get (k := 2) acC_len l i x h 1 _ rfl⟩
structure DrW (w : World) (T : Nat → Prop) (vm vl va : Value) (r : Rl) : Prop where
 mem : ∃ A c, vm = .slice A r.v.l.length c ∧ Reads w w.heap.size 1 A r.v.l.length (ints r.v.l) ∧ (0 < r.v.l.length → ∀ a, A = some a → ¬T a.block)
 log : ∃ A c, (vl = .slice A r.log.length c ∧ r.log.length ≤ c) ∧ Ents w T A r.log.length r.log
 ack : ∃ A c, va = .slice A r.acks.length c ∧ Reads w w.heap.size 2 A r.acks.length (acV r.acks) ∧ (0 < r.acks.length → ∀ a, A = some a → ¬T a.block)
theorem DrW.kp {w w' : World} {T : Nat → Prop} {vm vl va : Value} {r : Rl} (h : DrW w T vm vl va r) (hk : Kp T w w') : DrW w' T vm vl va r := by
 obtain ⟨⟨A, c, e, hr, hn⟩, ⟨B, d, e', hE⟩, C, f, e'', ha, hn'⟩ := h
 exact ⟨⟨A, c, e, Reads.kp hr hk hn, hn⟩, ⟨B, d, e', hE.kp hk⟩, C, f, e'', Reads.kp ha hk hn', hn'⟩
theorem DrW.sub {w : World} {T T' : Nat → Prop} {vm vl va : Value} {r : Rl} (h : DrW w T vm vl va r) (hs : ∀ k, k < w.heap.size → T' k → T k) : DrW w T' vm vl va r := by
 obtain ⟨⟨A, c, e, hr, hn⟩, ⟨B, d, e', hE⟩, C, f, e'', ha, hn'⟩ := h
 refine ⟨⟨A, c, e, hr, fun h0 a ha ht => ?_⟩, ⟨B, d, e', hE.sub hs⟩, C, f, e'', ha, fun h0 a hA ht => ?_⟩
 ·obtain ⟨a', e3, hl, _⟩ := hr.2 h0
  rw [ha] at e3; cases e3
  exact hn h0 a ha (hs _ hl ht)
 ·obtain ⟨a', e3, hl, _⟩ := ha.2 h0
  rw [hA] at e3; cases e3
  exact hn' h0 a hA (hs _ hl ht)
theorem DrW.sl {w : World} {T : Nat → Prop} {vm vl va : Value} {r : Rl} (h : DrW w T vm vl va r) : ∃ A c B d C f, vm = .slice A r.v.l.length c ∧ vl = .slice B r.log.length d ∧ va = .slice C r.acks.length f := by
 obtain ⟨⟨A, c, e, _⟩, ⟨B, d, e', _⟩, C, f, e'', _⟩ := h
 exact ⟨A, c, B, d, C, f, e, e'.1, e''⟩
theorem DrW.cap {w : World} {T : Nat → Prop} {vm va : Value} {r : Rl} {A : Option Addr} {n c : Nat} (h : DrW w T vm (.slice A n c) va r) : n = r.log.length ∧ n ≤ c := by
 obtain ⟨_, ⟨B, d, ⟨e, hc⟩, _⟩, _⟩ := h
 simp only [Value.slice.injEq] at e
 obtain ⟨rfl, rfl, rfl⟩ := e
 exact ⟨rfl, hc⟩
set_option maxRecDepth 100000 in
set_option maxHeartbeats 4000000 in
theorem dleads_any {T : Nat → Prop} (r : Rl) (vm vl va : Value) (w : World) (h : DrW w T vm vl va r) :
  Calls Tryz.prog 38 #[.agg #[.int .i64 r.id, .int .i64 r.v.e, .int .i64 r.v.p, vm, vl, .int .i64 r.joined, .int .i64 (r.sure : Int), va, .bool r.act]] w fun e w' => e = .returned (.bool r.leads) ∧ Below w.heap.size w w' := by
 obtain ⟨A, c, B, d, C, f, rfl, rfl, rfl⟩ := h.sl
 have hB := Blk.new w 34 #[.int .i64 r.id, .int .i64 r.v.e, .int .i64 r.v.p, (.slice A r.v.l.length c), (.slice B r.log.length d), .int .i64 r.joined, .int .i64 (r.sure : Int), (.slice C r.acks.length f), .bool r.act]
 unfold Rl.leads
 by_cases h0 : 0 < r.v.e
 ·have d0 : decide ((0 : Int) < r.v.e) = true := by simpa using h0
  have hd : (decide (0 < r.v.e) && decide (r.v.p = r.id)) = (r.v.p == r.id) := by rw [d0, Bool.true_and]; rfl
  rw [hd]
  clear h0 hd
  go_enter Tryz.func38, Tryz.ntmps38
  go_wp2
  go_ret
  exact ⟨by first | rfl | simp, by (repeat' (first | with_reducible (first | exact Below.refl _ _ | refine Below.ext ?_ ?_ _ | refine Below.alloc ?_ ?_ _ | refine Below.setCell ?_ ?_ _ | refine Below.drew ?_ | assumption) | (simp [World.size_ext]; done) | (simp [World.size_ext]; omega)))⟩
 ·have d0 : decide ((0 : Int) < r.v.e) = false := by simpa using h0
  have hd : (decide (0 < r.v.e) && decide (r.v.p = r.id)) = false := by rw [d0, Bool.false_and]
  rw [hd]
  clear h0 hd
  go_enter Tryz.func38, Tryz.ntmps38
  go_wp2
  go_ret
  exact ⟨by first | rfl | simp, by (repeat' (first | with_reducible (first | exact Below.refl _ _ | refine Below.ext ?_ ?_ _ | refine Below.alloc ?_ ?_ _ | refine Below.setCell ?_ ?_ _ | refine Below.drew ?_ | assumption) | (simp [World.size_ext]; done) | (simp [World.size_ext]; omega)))⟩
end Go.Proofs.YtjhcgnmibnjocaaGreat

namespace Go.Proofs.YtjhcgnmibnjocaaGreat
open Go.RowKit Go.Maps
attribute [local irreducible] First.wpF
theorem lookup_take {l : List (Int × Nat)} {n : Int} {j : Nat} (h : ∀ x ∈ l.take j, x.1 ≠ n) : l.lookup n = (l.drop j).lookup n := by
 induction j generalizing l with
 | zero => rfl
 | succ j ih =>
  cases l with
  | nil => rfl
  | cons y l =>
   have h1 : y.1 ≠ n := h y (by simp)
   have h2 := ih (l := l) (fun x hx => h x (by simp [hx]))
   rw [List.drop_succ_cons, ← h2, List.lookup_cons]
   have : (n == y.1) = false := by simpa using fun e => h1 e.symm
   rw [this]
set_option maxRecDepth 100000 in
set_option maxHeartbeats 4000000 in
theorem dack_any {T : Nat → Prop} (r : Rl) (n : Int) (vm vl va : Value) (w : World) (h : DrW w T vm vl va r) (hn : r.acks.length ≤ 1000000) :
  Calls Tryz.prog 46 #[.agg #[.int .i64 r.id, .int .i64 r.v.e, .int .i64 r.v.p, vm, vl, .int .i64 r.joined, .int .i64 (r.sure : Int), va, .bool r.act], .int .i64 n] w fun e w' => e = .returned (.tuple #[.int .i64 (((r.acks.lookup n).getD 0 : Nat) : Int), .bool (r.acks.lookup n).isSome]) ∧ Below w.heap.size w w' := by
 obtain ⟨A, c, B, d, C, f, rfl, rfl, rfl⟩ := h.sl
 obtain ⟨_, _, C', f', e', hra, _⟩ := h
 simp only [Value.slice.injEq] at e'
 obtain ⟨rfl, -, rfl⟩ := e'
 have hB := Blk.new w 34 #[.int .i64 r.id, .int .i64 r.v.e, .int .i64 r.v.p, (.slice A r.v.l.length c), (.slice B r.log.length d), .int .i64 r.joined, .int .i64 (r.sure : Int), (.slice C r.acks.length f), .bool r.act]
 have hb0 : Below w.heap.size w (w.alloc (.cells #[.int .i64 r.id, .int .i64 r.v.e, .int .i64 r.v.p, (.slice A r.v.l.length c), (.slice B r.log.length d), .int .i64 r.joined, .int .i64 (r.sure : Int), (.slice C r.acks.length f), .bool r.act] 34)) := Below.alloc (Below.refl _ _) (Nat.le_refl _) _
 have cB := hB.cell
 have lB := hB.lt
 obtain ⟨LK, hLK⟩ : ∃ LK, LK = r.acks.lookup n := ⟨_, rfl⟩
 rw [← hLK]
 go_enter Tryz.func46, Tryz.ntmps46
 go_upto_region 2 with fail
 go_loopw [6] (fun vi wr => ∃ j : Nat, j ≤ r.acks.length ∧ vi = .int .i64 (j : Int) ∧ (∀ x ∈ r.acks.take j, x.1 ≠ n) ∧ wr = w.alloc (.cells #[.int .i64 r.id, .int .i64 r.v.e, .int .i64 r.v.p, (.slice A r.v.l.length c), (.slice B r.log.length d), .int .i64 r.joined, .int .i64 (r.sure : Int), (.slice C r.acks.length f), .bool r.act] 34)) (fun vi _ => ((r.acks.length : Int) - intOf vi).toNat)
 case atStart => exact ⟨0, by omega, rfl, (fun x hx => by simp at hx), rfl⟩
 case round =>
  obtain ⟨j, hj, rfl, hall, rfl⟩ := hrel
  have hH := hide hall
  clear hall
  by_cases hlt : j < r.acks.length
  ·have d0 : decide ((j : Int) < r.acks.length) = true := decide_eq_true (by omega)
   have hlj : (j : Int) < r.acks.length := by omega
   obtain ⟨b, o, rfl, hbl, hcc⟩ := hra.plain (by omega) (by omega)
   have hg : r.acks[j]? = some (r.acks[j]'hlt) := List.getElem?_eq_getElem hlt
   have m1 := hcc _ _ (acV_get hg).1
   have m2 := hcc _ _ (acV_get hg).2
   rw [← Nat.add_assoc] at m2
   have hdr : r.acks.drop j = (r.acks[j]'hlt) :: r.acks.drop (j + 1) := List.drop_eq_getElem_cons hlt
   have htk : r.acks.take (j + 1) = r.acks.take j ++ [r.acks[j]'hlt] := by rw [List.take_add_one, hg]; rfl
   generalize r.acks[j]'hlt = y at *
   have hbw : b < w.heap.size := hbl
   clear hcc hg
   by_cases hy : y.1 = n
   ·have d1 : (y.1 == n) = true := by simpa using hy
    have hL : LK = some y.2 := by
     rw [hLK, lookup_take hH.out, hdr, List.lookup_cons]
     have : (n == y.1) = true := by simpa using hy.symm
     rw [this]
    have hL' := hide hL
    clear hy hLK hdr htk hL
    go_wp2
    refine bodyPost_ret (v := .tuple #[.int .i64 (y.2 : Int), .bool true]) (by simp [results, Tryz.results46, go_sem] <;> rfl) rfl ?_
    rw [hL'.out]
    exact ⟨rfl, hb0⟩
   ·have d1 : (y.1 == n) = false := by simpa using hy
    have hY := hide hy
    have hK := hide (And.intro htk hdr)
    clear hy htk hdr
    go_wp2
    go_roundw
    case rel => exact ⟨j + 1, by omega, by go_num, by rw [hK.out.1]; exact fun x hx => (List.mem_append.1 hx).elim (hH.out x) (fun e => by rw [List.mem_singleton.1 e]; exact hY.out), by trivial⟩
    case measure => simp [intOf]; omega
  ·obtain rfl : j = r.acks.length := by omega
   have d0 : decide ((r.acks.length : Int) < r.acks.length) = false := by simp
   have hL : LK = none := by rw [hLK, lookup_take hH.out, List.drop_length]; rfl
   have hL' := hide hL
   clear hLK hL
   go_wp2
   refine bodyPost_ret (v := .tuple #[.int .i64 0, .bool false]) (by simp [results, Tryz.results46, go_sem] <;> rfl) rfl ?_
   rw [hL'.out]
   exact ⟨rfl, hb0⟩
end Go.Proofs.YtjhcgnmibnjocaaGreat

namespace Go.Proofs.YtjhcgnmibnjocaaGreat
open Go.RowKit Go.Maps
attribute [local irreducible] First.wpF
theorem Blk.nine {w : World} {g : Nat} {t : TypeId} {a b c d e f h i k a' b' c' d' e' f' h' i' k' : Value} (H : Blk w g t #[a, b, c, d, e, f, h, i, k]) :
  Blk (((((((((w.setCell ⟨g, 0, none⟩ a').setCell ⟨g, 1, none⟩ b').setCell ⟨g, 2, none⟩ c').setCell ⟨g, 3, none⟩ d').setCell ⟨g, 4, none⟩ e').setCell ⟨g, 5, none⟩ f').setCell ⟨g, 6, none⟩ h').setCell ⟨g, 7, none⟩ i').setCell ⟨g, 8, none⟩ k') g t #[a', b', c', d', e', f', h', i', k'] := by
 have H0 : Blk (w.setCell ⟨g, 0, none⟩ a') g t #[a', b, c, d, e, f, h, i, k] := H.set_ 0 a'
 have H1 : Blk ((w.setCell ⟨g, 0, none⟩ a').setCell ⟨g, 1, none⟩ b') g t #[a', b', c, d, e, f, h, i, k] := H0.set_ 1 b'
 have H2 : Blk (((w.setCell ⟨g, 0, none⟩ a').setCell ⟨g, 1, none⟩ b').setCell ⟨g, 2, none⟩ c') g t #[a', b', c', d, e, f, h, i, k] := H1.set_ 2 c'
 have H3 : Blk ((((w.setCell ⟨g, 0, none⟩ a').setCell ⟨g, 1, none⟩ b').setCell ⟨g, 2, none⟩ c').setCell ⟨g, 3, none⟩ d') g t #[a', b', c', d', e, f, h, i, k] := H2.set_ 3 d'
 have H4 : Blk (((((w.setCell ⟨g, 0, none⟩ a').setCell ⟨g, 1, none⟩ b').setCell ⟨g, 2, none⟩ c').setCell ⟨g, 3, none⟩ d').setCell ⟨g, 4, none⟩ e') g t #[a', b', c', d', e', f, h, i, k] := H3.set_ 4 e'
 have H5 : Blk ((((((w.setCell ⟨g, 0, none⟩ a').setCell ⟨g, 1, none⟩ b').setCell ⟨g, 2, none⟩ c').setCell ⟨g, 3, none⟩ d').setCell ⟨g, 4, none⟩ e').setCell ⟨g, 5, none⟩ f') g t #[a', b', c', d', e', f', h, i, k] := H4.set_ 5 f'
 have H6 : Blk (((((((w.setCell ⟨g, 0, none⟩ a').setCell ⟨g, 1, none⟩ b').setCell ⟨g, 2, none⟩ c').setCell ⟨g, 3, none⟩ d').setCell ⟨g, 4, none⟩ e').setCell ⟨g, 5, none⟩ f').setCell ⟨g, 6, none⟩ h') g t #[a', b', c', d', e', f', h', i, k] := H5.set_ 6 h'
 have H7 : Blk ((((((((w.setCell ⟨g, 0, none⟩ a').setCell ⟨g, 1, none⟩ b').setCell ⟨g, 2, none⟩ c').setCell ⟨g, 3, none⟩ d').setCell ⟨g, 4, none⟩ e').setCell ⟨g, 5, none⟩ f').setCell ⟨g, 6, none⟩ h').setCell ⟨g, 7, none⟩ i') g t #[a', b', c', d', e', f', h', i', k] := H6.set_ 7 i'
 have H8 : Blk (((((((((w.setCell ⟨g, 0, none⟩ a').setCell ⟨g, 1, none⟩ b').setCell ⟨g, 2, none⟩ c').setCell ⟨g, 3, none⟩ d').setCell ⟨g, 4, none⟩ e').setCell ⟨g, 5, none⟩ f').setCell ⟨g, 6, none⟩ h').setCell ⟨g, 7, none⟩ i').setCell ⟨g, 8, none⟩ k') g t #[a', b', c', d', e', f', h', i', k'] := H7.set_ 8 k'
 exact H8
theorem Kp.nine (w : World) (g : Nat) (a' b' c' d' e' f' h' i' k' : Value) : Kp (fun k => k = g) w (((((((((w.setCell ⟨g, 0, none⟩ a').setCell ⟨g, 1, none⟩ b').setCell ⟨g, 2, none⟩ c').setCell ⟨g, 3, none⟩ d').setCell ⟨g, 4, none⟩ e').setCell ⟨g, 5, none⟩ f').setCell ⟨g, 6, none⟩ h').setCell ⟨g, 7, none⟩ i').setCell ⟨g, 8, none⟩ k') :=
 (((((((((Kp.put w g 0 _).trans (Kp.put _ g 1 _)).trans (Kp.put _ g 2 _)).trans (Kp.put _ g 3 _)).trans (Kp.put _ g 4 _)).trans (Kp.put _ g 5 _)).trans (Kp.put _ g 6 _)).trans (Kp.put _ g 7 _)).trans (Kp.put _ g 8 _))
theorem acV_append (l m : List (Int × Nat)) : acV (l ++ m) = acV l ++ acV m := by simp [acV, rowsV]
theorem infoAck : (Tryz.prog.info? 133).map (fun i => (i.zero, i.size, i.bytes)) = some (some (.agg #[.int .i64 0, .int .i64 0]), 2, 16) := by kernel_rfl
def OwnA (w : World) (base : Nat) (v : Value) (l : List (Int × Nat)) : Prop := w.ownsRow base 133 2 v l.length (acV l)
theorem app_ack {W : World} {ops : Array Oper} {rest : List Oper} {o : Oper} {a : Act} {Q : Exit → Act → World → Prop} (hgd : o.guard = none) (s x : Operand)
  (ho : o.op = .call { callee := .builtin .append, args := #[s, x], argTypes := #[32, 32] }) (base : Nat) (v : Value) (l : List (Int × Nat)) (u : Int × Nat) (cs : Array Value) (hcs : cs = (acC u).toArray) (hs : a.eval s = v) (hown : OwnA W base v l)
  (B : Nat) (hB : B = W.heap.size) (hx : a.eval x = .slice (some ⟨B, 0, none⟩) 1 1) (hl : l.length ≤ 1000000) (hbase : base ≤ W.heap.size)
  (h : ∀ v' w', OwnA w' base v' (l ++ [u]) → Chg W w' v v' → wpList Tryz.prog ops Q rest (a.put o.dst v') w') :
  wpList Tryz.prog ops Q (o :: rest) a (W.alloc (.cells cs 133)) := by
 subst hcs hB
 obtain ⟨i0, hi, hz0, hz1, hz2⟩ := info_parts infoAck
 refine wpList_append_own_at (W.alloc (.cells (acC u).toArray 133)) hgd s x 32 ho base 133 i0 _ 2 16 Tryz.underlying32 hi hz0 hz1 hz2 rfl (by decide) v l.length (acV l) hs (own_alloc hown _) ⟨W.heap.size, 0, none⟩ 1 1 (acC u) hx rfl (cells_new _ _ _) ?_ (by unfold maxLen; omega) (by omega) (by simp; omega) fun v' w' h1 h2 h3 h4 => h v' w' ?_ ?_
 ·intro y hy
  simp only [acC, List.mem_cons, List.not_mem_nil, or_false] at hy
  rcases hy with rfl | rfl <;> rfl
 ·unfold OwnA
  rw [List.length_append, acV_append]
  simpa [acV, rowsV] using h1
 ·refine ⟨h2.os, h2.tape, h2.output, ?_, fun k hk hv => ?_, ?_⟩
  ·have := h2.size
   simp at this
   omega
  ·exact (h2.block k (by simp; omega) (Ne.symm hv)).trans (Below.heap_alloc W _ k hk)
  ·rcases h4 with e | e
   ·exact .inl e
   ·exact .inr ⟨_, e, by simp⟩
theorem OwnA.sl {w : World} {base : Nat} {v : Value} {l : List (Int × Nat)} (h : OwnA w base v l) : ∃ A c, v = .slice A l.length c := by
 obtain ⟨A, c, e, _⟩ := own_sl h
 exact ⟨A, c, e⟩
theorem ownA_ge {w : World} {base : Nat} {v : Value} {l : List (Int × Nat)} (h : OwnA w base v l) : ∀ k, v.ownBlock = some k → base ≤ k ∧ k < w.heap.size := fun k hk => by
 obtain ⟨A, c, rfl, _⟩ := own_sl h
 cases A with
 | none => cases hk
 | some ad => cases hk; exact own_addr h _ rfl
set_option maxRecDepth 100000 in
set_option maxHeartbeats 4000000 in
theorem dacked_any {T : Nat → Prop} (r : Rl) (n : Int) (k : Nat) (vm vl va : Value) (w : World) (h : DrW w T vm vl va r) (hTl : ∀ k, T k → k < w.heap.size) (hn : r.acks.length ≤ 1000) :
  Calls Tryz.prog 40 #[.agg #[.int .i64 r.id, .int .i64 r.v.e, .int .i64 r.v.p, vm, vl, .int .i64 r.joined, .int .i64 (r.sure : Int), va, .bool r.act], .int .i64 n, .int .i64 (k : Int)] w fun e w' => ∃ va', e = .returned (.agg #[.int .i64 r.id, .int .i64 r.v.e, .int .i64 r.v.p, vm, vl, .int .i64 r.joined, .int .i64 (r.sure : Int), va', .bool r.act]) ∧ DrW w' T vm vl va' { r with acks := ackedL n k r.acks } ∧ Below w.heap.size w w' := by
 have hD := h
 obtain ⟨A, c, B, d, C, f, rfl, rfl, rfl⟩ := h.sl
 obtain ⟨_, _, C', f', e', hra, _⟩ := h
 simp only [Value.slice.injEq] at e'
 obtain ⟨rfl, -, rfl⟩ := e'
 have hB := (Blk.new w 34 #[.int .i64 r.id, .int .i64 r.v.e, .int .i64 r.v.p, (.slice A r.v.l.length c), (.slice B r.log.length d), .int .i64 r.joined, .int .i64 (r.sure : Int), (.slice C r.acks.length f), .bool r.act]).alloc (.cells #[.int .i64 0, .int .i64 0, .int .i64 0, .slice none 0 0, .slice none 0 0, .int .i64 0, .int .i64 0, .slice none 0 0, .bool false] 34)
 have hZ := Blk.made w (.cells #[.int .i64 r.id, .int .i64 r.v.e, .int .i64 r.v.p, (.slice A r.v.l.length c), (.slice B r.log.length d), .int .i64 r.joined, .int .i64 (r.sure : Int), (.slice C r.acks.length f), .bool r.act] 34) 34 #[.int .i64 0, .int .i64 0, .int .i64 0, .slice none 0 0, .slice none 0 0, .int .i64 0, .int .i64 0, .slice none 0 0, .bool false]
 have hb0 : Below w.heap.size w ((w.alloc (.cells #[.int .i64 r.id, .int .i64 r.v.e, .int .i64 r.v.p, (.slice A r.v.l.length c), (.slice B r.log.length d), .int .i64 r.joined, .int .i64 (r.sure : Int), (.slice C r.acks.length f), .bool r.act] 34)).alloc (.cells #[.int .i64 0, .int .i64 0, .int .i64 0, .slice none 0 0, .slice none 0 0, .int .i64 0, .int .i64 0, .slice none 0 0, .bool false] 34)) := (Below.alloc (Below.refl _ _) (Nat.le_refl _) _).alloc (by simp) _
 have hO0 : OwnA (((w.alloc (.cells #[.int .i64 r.id, .int .i64 r.v.e, .int .i64 r.v.p, (.slice A r.v.l.length c), (.slice B r.log.length d), .int .i64 r.joined, .int .i64 (r.sure : Int), (.slice C r.acks.length f), .bool r.act] 34)).alloc (.cells #[.int .i64 0, .int .i64 0, .int .i64 0, .slice none 0 0, .slice none 0 0, .int .i64 0, .int .i64 0, .slice none 0 0, .bool false] 34)).alloc (.cells #[.int .i64 n, .int .i64 (k : Int)] 133)) (w.heap.size + 2) (.slice (some ⟨w.heap.size + 1 + 1, 0, none⟩) 1 1) [(n, k)] := by
  have hq := Blk.new ((w.alloc (.cells #[.int .i64 r.id, .int .i64 r.v.e, .int .i64 r.v.p, (.slice A r.v.l.length c), (.slice B r.log.length d), .int .i64 r.joined, .int .i64 (r.sure : Int), (.slice C r.acks.length f), .bool r.act] 34)).alloc (.cells #[.int .i64 0, .int .i64 0, .int .i64 0, .slice none 0 0, .slice none 0 0, .int .i64 0, .int .i64 0, .slice none 0 0, .bool false] 34)) 133 #[.int .i64 n, .int .i64 (k : Int)]
  simp only [World.size_alloc] at hq
  exact Blk.own hq (by omega) (Nat.le_refl _) (by unfold maxLen; omega) rfl rfl rfl
 go_enter Tryz.func40, Tryz.ntmps40
 go_upto_region 3 with fail
 refine abstr (fun W => OwnA W (w.heap.size + 2) (.slice (some ⟨w.heap.size + 1 + 1, 0, none⟩) 1 1) [(n, k)] ∧ Blk W w.heap.size 34 #[.int .i64 r.id, .int .i64 r.v.e, .int .i64 r.v.p, (.slice A r.v.l.length c), (.slice B r.log.length d), .int .i64 r.joined, .int .i64 (r.sure : Int), (.slice C r.acks.length f), .bool r.act] ∧ Blk W (w.heap.size + 1) 34 #[.int .i64 0, .int .i64 0, .int .i64 0, .slice none 0 0, .slice none 0 0, .int .i64 0, .int .i64 0, .slice none 0 0, .bool false] ∧ Below w.heap.size w W) ⟨hO0, hB.alloc _, hZ.alloc _, hb0.alloc (by simp; omega) _⟩ (fun W hW => ?_)
 clear hO0 hB hZ hb0
 obtain ⟨hO0, hB, hZ, hbW⟩ := hW
 generalize Value.slice (some ⟨w.heap.size + 1 + 1, 0, none⟩) 1 1 = v0 at *
 go_loopw [7, 8] (fun vo vi wr => ∃ j : Nat, j ≤ r.acks.length ∧ vi = .int .i64 (j : Int) ∧ OwnA wr (w.heap.size + 2) vo ((n, k) :: (r.acks.take j).filter fun x => !(x.1 == n)) ∧ Blk wr w.heap.size 34 #[.int .i64 r.id, .int .i64 r.v.e, .int .i64 r.v.p, (.slice A r.v.l.length c), (.slice B r.log.length d), .int .i64 r.joined, .int .i64 (r.sure : Int), (.slice C r.acks.length f), .bool r.act] ∧ Blk wr (w.heap.size + 1) 34 #[.int .i64 0, .int .i64 0, .int .i64 0, .slice none 0 0, .slice none 0 0, .int .i64 0, .int .i64 0, .slice none 0 0, .bool false] ∧ Below w.heap.size w wr) (fun _ vi _ => ((r.acks.length : Int) - intOf vi).toNat)
 case atStart => exact ⟨0, by omega, rfl, by simpa using hO0, hB, hZ, hbW⟩
 case round =>
  clear hO0 hB hZ hbW
  obtain ⟨j, hj, rfl, hO, hB, hZ, hb⟩ := hrel
  obtain ⟨wo, rfl⟩ : ∃ wo : World, wo = wr := ⟨_, rfl⟩
  have hso := hb.size
  have cB := hB.cell
  have lB := hB.lt
  have lZ := hZ.lt
  obtain ⟨vA, vc, hv⟩ := hO.sl
  by_cases hlt : j < r.acks.length
  ·have d0 : decide ((j : Int) < r.acks.length) = true := decide_eq_true (by omega)
   have hlj : (j : Int) < r.acks.length := by omega
   obtain ⟨b, o, rfl, hbl, hcc⟩ := hra.plain (by omega) (by omega)
   have hg : r.acks[j]? = some (r.acks[j]'hlt) := List.getElem?_eq_getElem hlt
   have m1 : wo.cell? ⟨b, o + j * 2, none⟩ = some (.int .i64 (r.acks[j]'hlt).1) := by rw [hb.cell (p := ⟨b, o + j * 2, none⟩) hbl]; exact hcc _ _ (acV_get hg).1
   have m2 : wo.cell? ⟨b, o + j * 2 + 1, none⟩ = some (.int .i64 ((r.acks[j]'hlt).2 : Int)) := by rw [hb.cell (p := ⟨b, o + j * 2 + 1, none⟩) hbl, Nat.add_assoc]; exact hcc _ _ (acV_get hg).2
   have htk : r.acks.take (j + 1) = r.acks.take j ++ [r.acks[j]'hlt] := by rw [List.take_add_one, hg]; rfl
   generalize r.acks[j]'hlt = y at *
   have hbw : b < wo.heap.size := by omega
   have hfl : ((r.acks.take j).filter fun x => !(x.1 == n)).length ≤ 1000 := by
    have := List.length_filter_le (fun x : Int × Nat => !(x.1 == n)) (r.acks.take j)
    rw [List.length_take] at this
    omega
   clear hcc hg
   by_cases hy : y.1 = n
   ·have d1 : (y.1 != n) = false := by simpa using hy
    have hF : (r.acks.take (j + 1)).filter (fun x => !(x.1 == n)) = (r.acks.take j).filter fun x => !(x.1 == n) := by
     rw [htk, List.filter_append, List.filter_cons]
     have : (!(y.1 == n)) = false := by simpa using hy
     rw [this]
     simp
    have hF' := hide hF
    clear hy htk hF
    go_wp2
    go_roundw
    case rel => exact ⟨j + 1, by omega, by go_num, by rw [hF'.out]; exact hO, hB, hZ, hb⟩
    case measure => simp [intOf]; omega
   ·have d1 : (y.1 != n) = true := by simpa using hy
    have hF : (r.acks.take (j + 1)).filter (fun x => !(x.1 == n)) = ((r.acks.take j).filter fun x => !(x.1 == n)) ++ [y] := by
     rw [htk, List.filter_append, List.filter_cons]
     have : (!(y.1 == n)) = true := by simpa using hy
     rw [this]
     simp
    have hF' := hide hF
    clear hy htk hF
    subst hv
    have hge := ownA_ge hO
    go_wp2_with (at_builtin; refine app_ack rfl (.tmp 28) (.tmp 34) rfl (w.heap.size + 2) _ _ y _ rfl rfl hO _ rfl rfl (by simp only [List.length_cons]; omega) (by omega) (fun v' w4 ho4 hc4 => ?_))
    go_roundw
    case rel => exact ⟨j + 1, by omega, by go_num, by rw [hF'.out]; exact ho4, (hc4.block _ lB (fun e => by have := (hge _ e).1; omega)).trans hB, (hc4.block _ lZ (fun e => by have := (hge _ e).1; omega)).trans hZ, hb.trans (hc4.low (fun k hk => by have := (hge k hk).1; omega) hso)⟩
    case measure => simp [intOf]; omega
  ·obtain rfl : j = r.acks.length := by omega
   have d0 : decide ((r.acks.length : Int) < r.acks.length) = false := by simp
   rw [List.take_length] at hO
   have hO' : OwnA wo (w.heap.size + 2) _ (ackedL n k r.acks) := hO
   clear hO hv vA vc
   obtain ⟨vA, vc, hv⟩ := hO'.sl
   generalize hal : ackedL n k r.acks = AL at *
   subst hv
   have fB := hB.frozen
   have fZ := hZ.frozen
   have hge := ownA_ge hO'
   have hB7 := hB.set_ 7 (.slice vA AL.length vc)
   have hZ7 := hZ.far (p := ⟨w.heap.size, 7, none⟩) (by show w.heap.size + 1 ≠ w.heap.size; omega) (.slice vA AL.length vc)
   have hO7 : OwnA (wo.setCell ⟨w.heap.size, 7, none⟩ (.slice vA AL.length vc)) (w.heap.size + 2) (.slice vA AL.length vc) AL := own_set hO' (by show w.heap.size < w.heap.size + 2; omega) _
   have cZ := hZ.cell
   go_wp2
   refine bodyPost_cell Tryz.results40 rfl (Blk.nine hZ7) Tryz.underlying34 rfl (by kernel_rfl) rfl ⟨_, rfl, ?_, ?_⟩
   ·subst hal
    have hKn := Kp.nine (wo.setCell ⟨w.heap.size, 7, none⟩ (.slice vA (ackedL n k r.acks).length vc)) (w.heap.size + 1) (.int .i64 r.id) (.int .i64 r.v.e) (.int .i64 r.v.p) (.slice A r.v.l.length c) (.slice B r.log.length d) (.int .i64 r.joined) (.int .i64 (r.sure : Int)) (.slice vA (ackedL n k r.acks).length vc) (.bool r.act)
    have hK : Below w.heap.size w _ := (hb.setCell (p := ⟨w.heap.size, 7, none⟩) (by show w.heap.size ≤ w.heap.size; omega) (.slice vA (ackedL n k r.acks).length vc)).trans (Kp.below hKn (by simp; omega) (fun k hk => by omega))
    obtain ⟨hm1, hm2, _⟩ := hD.kp (Kp.of_below hK)
    have hO9 := own_keep hO7 (fun k hb0 hl => hKn.block k hl (fun e => by omega))
    exact ⟨hm1, hm2, vA, vc, rfl, Reads.of_own hO9, fun h0 a ha ht => by have := (own_addr hO9 a ha).1; have := hTl _ ht; omega⟩
   ·exact (hb.setCell (by show w.heap.size ≤ w.heap.size; omega) _).trans (Kp.below (Kp.nine _ (w.heap.size + 1) _ _ _ _ _ _ _ _ _) (by simp; omega) (fun k hk => by omega))
end Go.Proofs.YtjhcgnmibnjocaaGreat

namespace Go.Proofs.YtjhcgnmibnjocaaGreat
open Go.RowKit Go.Maps
attribute [local irreducible] First.wpF
theorem DrW.same {w : World} {T : Nat → Prop} {vm vl va : Value} {r r' : Rl} (h : DrW w T vm vl va r) (e1 : r'.v = r.v) (e2 : r'.log = r.log) (e3 : r'.acks = r.acks) : DrW w T vm vl va r' := by
 obtain ⟨h1, h2, h3⟩ := h
 exact ⟨by rw [e1]; exact h1, by rw [e2]; exact h2, by rw [e3]; exact h3⟩
set_option maxRecDepth 100000 in
set_option maxHeartbeats 4000000 in
theorem dsettle_any {T : Nat → Prop} (r : Rl) (vm vl va : Value) (w : World) (h : DrW w T vm vl va r) (hn : r.log.length ≤ 4096) (ha : r.acks.length ≤ 1000) (hv : r.v.l.length ≤ 1000000) (hak : ∀ x ∈ r.acks, x.2 ≤ 4096) :
  Calls Tryz.prog 41 #[.agg #[.int .i64 r.id, .int .i64 r.v.e, .int .i64 r.v.p, vm, vl, .int .i64 r.joined, .int .i64 (r.sure : Int), va, .bool r.act]] w fun e w' => e = .returned (.agg #[.int .i64 (settleP r).id, .int .i64 (settleP r).v.e, .int .i64 (settleP r).v.p, vm, vl, .int .i64 (settleP r).joined, .int .i64 ((settleP r).sure : Int), va, .bool (settleP r).act]) ∧ DrW w' T vm vl va (settleP r) ∧ Below w.heap.size w w' := by
 have hD := h
 obtain ⟨A, c, B, d, C, f, rfl, rfl, rfl⟩ := h.sl
 obtain ⟨⟨A', c', e', hrm, _⟩, _, _⟩ := h
 simp only [Value.slice.injEq] at e'
 obtain ⟨rfl, -, rfl⟩ := e'
 have hsv := settle_v r
 obtain ⟨SP, hSP⟩ : ∃ SP, SP = settleP r := ⟨_, rfl⟩
 rw [← hSP] at hsv
 rw [← hSP]
 have hDS : DrW w T (.slice A r.v.l.length c) (.slice B r.log.length d) (.slice C r.acks.length f) SP := hD.same hsv.1 hsv.2.2.1 hsv.2.2.2.1
 have hB := (Blk.new w 34 #[.int .i64 r.id, .int .i64 r.v.e, .int .i64 r.v.p, (.slice A r.v.l.length c), (.slice B r.log.length d), .int .i64 r.joined, .int .i64 (r.sure : Int), (.slice C r.acks.length f), .bool r.act]).alloc (.cells #[.int .i64 0, .int .i64 0, .int .i64 0, .slice none 0 0, .slice none 0 0, .int .i64 0, .int .i64 0, .slice none 0 0, .bool false] 34)
 have hZ := Blk.made w (.cells #[.int .i64 r.id, .int .i64 r.v.e, .int .i64 r.v.p, (.slice A r.v.l.length c), (.slice B r.log.length d), .int .i64 r.joined, .int .i64 (r.sure : Int), (.slice C r.acks.length f), .bool r.act] 34) 34 #[.int .i64 0, .int .i64 0, .int .i64 0, .slice none 0 0, .slice none 0 0, .int .i64 0, .int .i64 0, .slice none 0 0, .bool false]
 have hb0 : Below w.heap.size w ((w.alloc (.cells #[.int .i64 r.id, .int .i64 r.v.e, .int .i64 r.v.p, (.slice A r.v.l.length c), (.slice B r.log.length d), .int .i64 r.joined, .int .i64 (r.sure : Int), (.slice C r.acks.length f), .bool r.act] 34)).alloc (.cells #[.int .i64 0, .int .i64 0, .int .i64 0, .slice none 0 0, .slice none 0 0, .int .i64 0, .int .i64 0, .slice none 0 0, .bool false] 34)) := (Below.alloc (Below.refl _ _) (Nat.le_refl _) _).alloc (by simp) _
 have hL := dleads_any r _ _ _ _ (hD.kp (Kp.of_below hb0))
 have cB := hB.cell
 have lB := hB.lt
 unfold settleP at hSP
 rcases hl : r.leads with _ | _
 ·rw [hl] at hL
  rw [hl, if_neg (by simp)] at hSP
  subst hSP
  clear hl hDS
  go_enter Tryz.func41, Tryz.ntmps41
  go_wp2_with (go_at_call 38; (with_reducible refine hL.mono ?_); rintro e w1 ⟨rfl, hb1⟩; have hB1 := hB.below hb1 lB; have c1 := hB1.cell; have l1 := hB1.lt; have hZ1 := hZ.below hb1 hZ.lt; have c2 := hZ1.cell; have f2 := hZ1.frozen; have l2 := hZ1.lt)
  have hK : Below w.heap.size w _ := (hb0.trans (hb1.mono (by simp; omega))).trans (Kp.below (Kp.nine w1 (w.heap.size + 1) (.int .i64 SP.id) (.int .i64 SP.v.e) (.int .i64 SP.v.p) (.slice A SP.v.l.length c) (.slice B SP.log.length d) (.int .i64 SP.joined) (.int .i64 (SP.sure : Int)) (.slice C SP.acks.length f) (.bool SP.act)) (by have := hb1.size; simp at this; omega) (fun k hk => by omega))
  refine bodyPost_cell Tryz.results41 rfl (Blk.nine hZ1) Tryz.underlying34 rfl (by kernel_rfl) rfl ⟨rfl, hD.kp (Kp.of_below hK), hK⟩
 ·rw [hl] at hL
  rw [hl, if_pos rfl] at hSP
  clear hl
  go_enter Tryz.func41, Tryz.ntmps41
  go_upto_region 4 with (go_at_call 38; (with_reducible refine hL.mono ?_); rintro e w1 ⟨rfl, hb1⟩; have hB1 := hB.below hb1 lB; have c1 := hB1.cell; have l1 := hB1.lt)
  have hZ1 := hZ.below hb1 hZ.lt
  have hb01 := hb0.trans (hb1.mono (by simp; omega))
  clear hL hB hZ cB lB hb0 hb1
  obtain ⟨R, hR⟩ : ∃ R, R = leastP r.acks r.v.l r.log.length := ⟨_, rfl⟩
  rw [← hR] at hSP
  go_wp2
  go_loopw [3, 4] (fun vm vi wr => ∃ j m : Nat, j ≤ r.v.l.length ∧ vi = .int .i64 (j : Int) ∧ vm = .int .i64 (m : Int) ∧ m ≤ 4096 ∧ Hid (leastP r.acks (r.v.l.drop j) m = R) ∧ Blk wr w.heap.size 34 #[.int .i64 r.id, .int .i64 r.v.e, .int .i64 r.v.p, (.slice A r.v.l.length c), (.slice B r.log.length d), .int .i64 r.joined, .int .i64 (r.sure : Int), (.slice C r.acks.length f), .bool r.act] ∧ Blk wr (w.heap.size + 1) 34 #[.int .i64 0, .int .i64 0, .int .i64 0, .slice none 0 0, .slice none 0 0, .int .i64 0, .int .i64 0, .slice none 0 0, .bool false] ∧ Below w.heap.size w wr) (fun _ vi _ => ((r.v.l.length : Int) - intOf vi).toNat)
  case atStart => exact ⟨0, _, by omega, rfl, rfl, hn, hide (by rw [List.drop_zero]; exact hR.symm), hB1, hZ1, hb01⟩
  case round =>
   clear hB1 hZ1 hb01 c1 l1 hR
   obtain ⟨j, m, hj, rfl, rfl, hm4, hls, hB, hZ, hb⟩ := hrel
   obtain ⟨wo, rfl⟩ : ∃ wo : World, wo = wr := ⟨_, rfl⟩
   have hso := hb.size
   have cB := hB.cell
   have lB := hB.lt
   have cZ := hZ.cell
   have fZ := hZ.frozen
   have lZ := hZ.lt
   by_cases hlt : j < r.v.l.length
   ·have hlj : (j : Int) < r.v.l.length := by omega
    have d0 : decide ((j : Int) < r.v.l.length) = true := decide_eq_true hlj
    obtain ⟨b, o, rfl, hbb, hcc⟩ := hrm.plain (by omega) (by omega)
    have hg : r.v.l[j]? = some (r.v.l[j]'hlt) := List.getElem?_eq_getElem hlt
    have m1 : wo.cell? ⟨b, o + j, none⟩ = some (.int .i64 (r.v.l[j]'hlt)) := by rw [hb.cell (p := ⟨b, o + j, none⟩) hbb]; exact hcc _ _ (ints_get hg)
    have hst := leastP_step (acks := r.acks) (m := m) hg
    generalize r.v.l[j]'hlt = x at *
    have hbw : b < wo.heap.size := by omega
    have hAk := fun X : Ext => dack_any r x _ _ _ (wo.ext X) ((hD.kp (Kp.of_below hb)).kp (Kp.of_below (World.below_ext wo X))) (by omega)
    clear hcc hg
    rcases hkk : r.acks.lookup x with _ | kk
    ·rw [hkk] at hst hAk
     simp only [Option.isSome_none, Option.getD_none] at hAk
     have hRn : R = none := hls.out.symm.trans hst
     rw [hRn] at hSP
     simp only at hSP
     clear hst hls hkk hRn
     go_upto_region 7 with fail
     refine First.wp_region_first_ext [0, 3, 6] [1, 2, 4, 5, 8, 9, 10] [(true, true, 0), (true, false, 1), (true, false, 2), (true, true, 3), (true, false, 4), (true, false, 5), (true, true, 6), (false, true, 7), (true, false, 8), (true, false, 9), (true, false, 10), (false, false, 11), (false, false, 12)] (by kernel_rfl) (by kernel_rfl) (fun X => ?_); simp only [List.map_cons, List.map_nil, List.getD_cons_zero, List.getD_cons_succ]
     (repeat (first | (refine wfp fun K hK => ?_; go_simp; refine hK _ _ ?_; clear hK K) | (refine wff fun K hK => ?_; go_simp; refine hK _ _ ?_; clear hK K)))
     refine First.wpF_must (fun K hK => ?_)
     go_wp2_with (go_at_call 46; (with_reducible refine (hAk _).mono ?_); rintro e w5 ⟨rfl, hb5⟩)
     have hgr5 : First.Grown _ w5 := World.ext_of_below hb5
     (refine hK _ _ (fun hnd => by first | exact Bool.noConfusion hnd | assumption | with_reducible (first | exact grown_alloc _ _ | exact First.Grown.refl _ | exact First.Grown.cat _ _ _ | exact First.Grown.ext _ _)) ?_; clear hK K)
     (repeat (first | (refine wfp fun K hK => ?_; go_simp; refine hK _ _ ?_; clear hK K) | (refine wff fun K hK => ?_; go_simp; refine hK _ _ ?_; clear hK K)))
     refine First.wpF_must (fun K hK => ?_)
     go_wp2
     (refine hK _ _ (fun hnd => by first | exact Bool.noConfusion hnd | assumption | with_reducible (first | exact grown_alloc _ _ | exact First.Grown.refl _ | exact First.Grown.cat _ _ _ | exact First.Grown.ext _ _)) ?_; clear hK K)
     (repeat (first | (refine wfp fun K hK => ?_; go_simp; refine hK _ _ ?_; clear hK K) | (refine wff fun K hK => ?_; go_simp; refine hK _ _ ?_; clear hK K)))
     refine First.wpF_must (fun K hK => ?_)
     go_wp2
     (refine hK _ _ (fun hnd => by first | exact Bool.noConfusion hnd | assumption | with_reducible (first | exact grown_alloc _ _ | exact First.Grown.refl _ | exact First.Grown.cat _ _ _ | exact First.Grown.ext _ _)) ?_; clear hK K)
     refine First.wpF_nil ?_
     have hbX : Below wo.heap.size wo (wo.ext X) := World.below_ext wo X
     have hbo5 : Below wo.heap.size wo w5 := hbX.trans (hb5.mono (by simp [World.size_ext]))
     have hB5 := hB.below hbo5 lB
     have hZ5 := hZ.below hbo5 lZ
     have hb05 : Below w.heap.size w w5 := hb.trans (hbo5.mono hso)
     have hs5 := hb05.size
     have cZ5 := hZ5.cell
     have fZ5 := hZ5.frozen
     have lZ5 := hZ5.lt
     have cB5 := hB5.cell
     have lB5 := hB5.lt
     clear hAk hgr5 hb5 hbX
     go_wp2
     refine bodyPost_cell Tryz.results41 rfl (Blk.nine hZ5) Tryz.underlying34 rfl (by kernel_rfl) rfl ?_
     subst hSP
     have hK : Below w.heap.size w _ := hb05.trans (Kp.below (Kp.nine w5 (w.heap.size + 1) (.int .i64 SP.id) (.int .i64 SP.v.e) (.int .i64 SP.v.p) (.slice (some ⟨b, o, none⟩) SP.v.l.length c) (.slice B SP.log.length d) (.int .i64 SP.joined) (.int .i64 (SP.sure : Int)) (.slice C SP.acks.length f) (.bool SP.act)) hs5 (fun k hk => by omega))
     exact ⟨rfl, hD.kp (Kp.of_below hK), hK⟩
    ·rw [hkk] at hst hAk
     simp only [Option.isSome_some, Option.getD_some] at hAk
     have HS := hide (hst.symm.trans hls.out)
     have hk4 := hak _ (lookup_mem hkk)
     simp only at hk4
     clear hst hls hkk
     go_upto_region 7 with fail
     refine First.wp_region_first_ext [0, 3, 6] [1, 2, 4, 5, 8, 9, 10] [(true, true, 0), (true, false, 1), (true, false, 2), (true, true, 3), (true, false, 4), (true, false, 5), (true, true, 6), (false, true, 7), (true, false, 8), (true, false, 9), (true, false, 10), (false, false, 11), (false, false, 12)] (by kernel_rfl) (by kernel_rfl) (fun X => ?_); simp only [List.map_cons, List.map_nil, List.getD_cons_zero, List.getD_cons_succ]
     (repeat (first | (refine wfp fun K hK => ?_; go_simp; refine hK _ _ ?_; clear hK K) | (refine wff fun K hK => ?_; go_simp; refine hK _ _ ?_; clear hK K)))
     refine First.wpF_must (fun K hK => ?_)
     go_wp2_with (go_at_call 46; (with_reducible refine (hAk _).mono ?_); rintro e w5 ⟨rfl, hb5⟩)
     have hgr5 : First.Grown _ w5 := World.ext_of_below hb5
     (refine hK _ _ (fun hnd => by first | exact Bool.noConfusion hnd | assumption | with_reducible (first | exact grown_alloc _ _ | exact First.Grown.refl _ | exact First.Grown.cat _ _ _ | exact First.Grown.ext _ _)) ?_; clear hK K)
     (repeat (first | (refine wfp fun K hK => ?_; go_simp; refine hK _ _ ?_; clear hK K) | (refine wff fun K hK => ?_; go_simp; refine hK _ _ ?_; clear hK K)))
     refine First.wpF_must (fun K hK => ?_)
     go_wp2
     (refine hK _ _ (fun hnd => by first | exact Bool.noConfusion hnd | assumption | with_reducible (first | exact grown_alloc _ _ | exact First.Grown.refl _ | exact First.Grown.cat _ _ _ | exact First.Grown.ext _ _)) ?_; clear hK K)
     (repeat (first | (refine wfp fun K hK => ?_; go_simp; refine hK _ _ ?_; clear hK K) | (refine wff fun K hK => ?_; go_simp; refine hK _ _ ?_; clear hK K)))
     refine First.wpF_must (fun K hK => ?_)
     go_wp2
     (refine hK _ _ (fun hnd => by first | exact Bool.noConfusion hnd | assumption | with_reducible (first | exact grown_alloc _ _ | exact First.Grown.refl _ | exact First.Grown.cat _ _ _ | exact First.Grown.ext _ _)) ?_; clear hK K)
     refine First.wpF_nil ?_
     have hbX : Below wo.heap.size wo (wo.ext X) := World.below_ext wo X
     have hbo5 : Below wo.heap.size wo w5 := hbX.trans (hb5.mono (by simp [World.size_ext]))
     have hB5 := hB.below hbo5 lB
     have hZ5 := hZ.below hbo5 lZ
     have hb05 : Below w.heap.size w w5 := hb.trans (hbo5.mono hso)
     have hs5 := hb05.size
     have cZ5 := hZ5.cell
     have fZ5 := hZ5.frozen
     have lZ5 := hZ5.lt
     have cB5 := hB5.cell
     have lB5 := hB5.lt
     clear hAk hgr5 hb5 hbX
     by_cases hkm : kk < m
     ·have d1 : decide ((kk : Int) < m) = true := decide_eq_true (by omega)
      have d1' : decide (kk < m) = true := decide_eq_true hkm
      go_wp2
      go_roundw
      case rel => exact ⟨j + 1, kk, by omega, by go_num, rfl, by omega, by rw [show min m kk = kk by omega] at HS; exact HS, hB5, hZ5, hb05⟩
      case measure => simp [intOf]; omega
     ·have d1 : decide ((kk : Int) < m) = false := decide_eq_false (by omega)
      have d1' : decide (kk < m) = false := decide_eq_false hkm
      go_wp2
      go_roundw
      case rel => exact ⟨j + 1, m, by omega, by go_num, rfl, by omega, by rw [show min m kk = m by omega] at HS; exact HS, hB5, hZ5, hb05⟩
      case measure => simp [intOf]; omega
   ·obtain rfl : j = r.v.l.length := by omega
    have d0 : decide ((r.v.l.length : Int) < r.v.l.length) = false := by simp
    have hRm : R = some m := by rw [← hls.out, List.drop_of_length_le (Nat.le_refl _)]; rfl
    rw [hRm] at hSP
    simp only at hSP
    clear hls hRm
    have fB := hB.frozen
    have hB8 := hB.set_ 8 (.bool true)
    have hZ8 := hZ.far (p := ⟨w.heap.size, 8, none⟩) (by show w.heap.size + 1 ≠ w.heap.size; omega) (.bool true)
    have hb8 : Below w.heap.size w (wo.setCell ⟨w.heap.size, 8, none⟩ (.bool true)) := hb.setCell (by show w.heap.size ≤ w.heap.size; omega) _
    by_cases hsm : r.sure < m
    ·have d1 : decide ((r.sure : Int) < m) = true := decide_eq_true (by omega)
     have d1' : decide (r.sure < m) = true := decide_eq_true hsm
     rw [show max r.sure m = m by omega] at hSP
     clear hsm
     have hZ6 := hZ8.far (p := ⟨w.heap.size, 6, none⟩) (by show w.heap.size + 1 ≠ w.heap.size; omega) (.int .i64 (m : Int))
     have hb6 : Below w.heap.size w ((wo.setCell ⟨w.heap.size, 8, none⟩ (.bool true)).setCell ⟨w.heap.size, 6, none⟩ (.int .i64 (m : Int))) := hb8.setCell (by show w.heap.size ≤ w.heap.size; omega) _
     go_wp2
     refine bodyPost_cell Tryz.results41 rfl (Blk.nine hZ6) Tryz.underlying34 rfl (by kernel_rfl) rfl ?_
     have hK : Below w.heap.size w _ := hb6.trans (Kp.below (Kp.nine _ (w.heap.size + 1) (.int .i64 r.id) (.int .i64 r.v.e) (.int .i64 r.v.p) (.slice A r.v.l.length c) (.slice B r.log.length d) (.int .i64 r.joined) (.int .i64 (m : Int)) (.slice C r.acks.length f) (.bool true)) (by simp; omega) (fun k hk => by omega))
     have hDK := hDS.kp (Kp.of_below hK)
     subst hSP
     exact ⟨rfl, hDK, hK⟩
    ·have d1 : decide ((r.sure : Int) < m) = false := decide_eq_false (by omega)
     have d1' : decide (r.sure < m) = false := decide_eq_false hsm
     rw [show max r.sure m = r.sure by omega] at hSP
     clear hsm
     go_wp2
     refine bodyPost_cell Tryz.results41 rfl (Blk.nine hZ8) Tryz.underlying34 rfl (by kernel_rfl) rfl ?_
     have hK : Below w.heap.size w _ := hb8.trans (Kp.below (Kp.nine _ (w.heap.size + 1) (.int .i64 r.id) (.int .i64 r.v.e) (.int .i64 r.v.p) (.slice A r.v.l.length c) (.slice B r.log.length d) (.int .i64 r.joined) (.int .i64 (r.sure : Int)) (.slice C r.acks.length f) (.bool true)) (by simp; omega) (fun k hk => by omega))
     have hDK := hDS.kp (Kp.of_below hK)
     subst hSP
     exact ⟨rfl, hDK, hK⟩
end Go.Proofs.YtjhcgnmibnjocaaGreat

namespace Go.Proofs.YtjhcgnmibnjocaaGreat
open Go.RowKit Go.Maps
attribute [local irreducible] First.wpF
theorem drW_nil {w : World} {T : Nat → Prop} {vm vl va : Value} {r : Rl} (h : DrW w T vm vl va r) {v : Vi} {A : Option Addr} {c : Nat} (hr : Reads w w.heap.size 1 A v.l.length (ints v.l)) (hn : 0 < v.l.length → ∀ a, A = some a → ¬T a.block) : DrW w T (.slice A v.l.length c) vl (.slice none 0 0) { r with v := v, act := false, acks := [] } :=
 ⟨⟨A, c, rfl, hr, hn⟩, h.log, none, 0, rfl, Reads.none_, fun h0 => absurd h0 (by simp)⟩
set_option maxRecDepth 100000 in
set_option maxHeartbeats 4000000 in
theorem dpromise_any {T : Nat → Prop} (r : Rl) (v : Vi) (vm vl va : Value) (Av : Option Addr) (cv : Nat) (w : World) (h : DrW w T vm vl va r) (hTl : ∀ k, T k → k < w.heap.size) (hr : Reads w w.heap.size 1 Av v.l.length (ints v.l)) (hnv : 0 < v.l.length → ∀ a, Av = some a → ¬T a.block)
  (hn : r.log.length ≤ 4096) (hv : v.l.length ≤ 1000000) :
  Calls Tryz.prog 31 #[.agg #[.int .i64 r.id, .int .i64 r.v.e, .int .i64 r.v.p, vm, vl, .int .i64 r.joined, .int .i64 (r.sure : Int), va, .bool r.act], .agg #[.int .i64 v.e, .int .i64 v.p, .slice Av v.l.length cv]] w fun e w' => ∃ va', e = .returned (.agg #[.int .i64 (promiseP r v).id, .int .i64 (promiseP r v).v.e, .int .i64 (promiseP r v).v.p, (.slice Av v.l.length cv), vl, .int .i64 (promiseP r v).joined, .int .i64 ((promiseP r v).sure : Int), va', .bool (promiseP r v).act]) ∧ DrW w' T (.slice Av v.l.length cv) vl va' (promiseP r v) ∧ Below w.heap.size w w' := by
 have hD := h
 obtain ⟨A, c, B, d, C, f, rfl, rfl, rfl⟩ := h.sl
 have hD1 : DrW w T (.slice Av v.l.length cv) (.slice B r.log.length d) (.slice none 0 0) { r with v := v, act := false, acks := [] } := drW_nil hD hr hnv
 replace hD1 := hD1.sub (T' := fun k => T k ∨ (w.heap.size ≤ k ∧ k ≤ w.heap.size + 2)) (fun k hk ht => ht.elim id (fun h => by omega))
 have HP : promiseP r v = settleP (if ({ r with v := v, act := false, acks := [] } : Rl).leads then { r with v := v, act := false, joined := v.e, acks := ackedL r.id r.log.length [] } else { r with v := v, act := false, acks := [] }) := rfl
 obtain ⟨PP, hPP⟩ : ∃ PP, PP = promiseP r v := ⟨_, rfl⟩
 rw [← hPP]
 rw [← hPP] at HP
 have hB0 := ((Blk.new w 34 #[.int .i64 r.id, .int .i64 v.e, .int .i64 v.p, .slice Av v.l.length cv, .slice B r.log.length d, .int .i64 r.joined, .int .i64 (r.sure : Int), .slice none 0 0, .bool false]).alloc (.cells #[.int .i64 v.e, .int .i64 v.p, .slice Av v.l.length cv] 30)).alloc (.cells #[.int .i64 0, .int .i64 0, .int .i64 0, .slice none 0 0, .slice none 0 0, .int .i64 0, .int .i64 0, .slice none 0 0, .bool false] 34)
 have hV0 := (Blk.made w (.cells #[.int .i64 r.id, .int .i64 v.e, .int .i64 v.p, .slice Av v.l.length cv, .slice B r.log.length d, .int .i64 r.joined, .int .i64 (r.sure : Int), .slice none 0 0, .bool false] 34) 30 #[.int .i64 v.e, .int .i64 v.p, .slice Av v.l.length cv]).alloc (.cells #[.int .i64 0, .int .i64 0, .int .i64 0, .slice none 0 0, .slice none 0 0, .int .i64 0, .int .i64 0, .slice none 0 0, .bool false] 34)
 have hZ0 : Blk (((w.alloc (.cells #[.int .i64 r.id, .int .i64 v.e, .int .i64 v.p, .slice Av v.l.length cv, .slice B r.log.length d, .int .i64 r.joined, .int .i64 (r.sure : Int), .slice none 0 0, .bool false] 34)).alloc (.cells #[.int .i64 v.e, .int .i64 v.p, .slice Av v.l.length cv] 30)).alloc (.cells #[.int .i64 0, .int .i64 0, .int .i64 0, .slice none 0 0, .slice none 0 0, .int .i64 0, .int .i64 0, .slice none 0 0, .bool false] 34)) (w.heap.size + 1 + 1) 34 #[.int .i64 0, .int .i64 0, .int .i64 0, .slice none 0 0, .slice none 0 0, .int .i64 0, .int .i64 0, .slice none 0 0, .bool false] := by
  have := Blk.new ((w.alloc (.cells #[.int .i64 r.id, .int .i64 v.e, .int .i64 v.p, .slice Av v.l.length cv, .slice B r.log.length d, .int .i64 r.joined, .int .i64 (r.sure : Int), .slice none 0 0, .bool false] 34)).alloc (.cells #[.int .i64 v.e, .int .i64 v.p, .slice Av v.l.length cv] 30)) 34 #[.int .i64 0, .int .i64 0, .int .i64 0, .slice none 0 0, .slice none 0 0, .int .i64 0, .int .i64 0, .slice none 0 0, .bool false]
  simpa using this
 have hb0 : Below w.heap.size w (((w.alloc (.cells #[.int .i64 r.id, .int .i64 v.e, .int .i64 v.p, .slice Av v.l.length cv, .slice B r.log.length d, .int .i64 r.joined, .int .i64 (r.sure : Int), .slice none 0 0, .bool false] 34)).alloc (.cells #[.int .i64 v.e, .int .i64 v.p, .slice Av v.l.length cv] 30)).alloc (.cells #[.int .i64 0, .int .i64 0, .int .i64 0, .slice none 0 0, .slice none 0 0, .int .i64 0, .int .i64 0, .slice none 0 0, .bool false] 34)) := ((Below.alloc (Below.refl _ _) (Nat.le_refl _) _).alloc (by simp) _).alloc (by simp; omega) _
 clear hr hnv hD h hPP
 go_enter Tryz.func31, Tryz.ntmps31
 go_upto_region 4 with fail
 refine abstr (fun W => Blk W w.heap.size 34 #[.int .i64 r.id, .int .i64 v.e, .int .i64 v.p, .slice Av v.l.length cv, .slice B r.log.length d, .int .i64 r.joined, .int .i64 (r.sure : Int), .slice none 0 0, .bool false] ∧ Blk W (w.heap.size + 1) 30 #[.int .i64 v.e, .int .i64 v.p, .slice Av v.l.length cv] ∧ Blk W (w.heap.size + 1 + 1) 34 #[.int .i64 0, .int .i64 0, .int .i64 0, .slice none 0 0, .slice none 0 0, .int .i64 0, .int .i64 0, .slice none 0 0, .bool false] ∧ Below w.heap.size w W) ⟨hB0, hV0, hZ0, hb0⟩ (fun W hW => ?_)
 clear hB0 hV0 hZ0 hb0
 obtain ⟨hB, hV, hZ, hb⟩ := hW
 have hsW := hb.size
 have cB := hB.cell
 have lB := hB.lt
 have lV := hV.lt
 have lZ := hZ.lt
 have hL : Calls Tryz.prog 38 #[.agg #[.int .i64 r.id, .int .i64 v.e, .int .i64 v.p, .slice Av v.l.length cv, .slice B r.log.length d, .int .i64 r.joined, .int .i64 (r.sure : Int), .slice none 0 0, .bool false]] W fun e w' => e = .returned (.bool ({ r with v := v, act := false, acks := [] } : Rl).leads) ∧ Below W.heap.size W w' := dleads_any { r with v := v, act := false, acks := [] } _ _ _ W (hD1.kp (Kp.of_below hb))
 rcases hl : ({ r with v := v, act := false, acks := [] } : Rl).leads with _ | _
 ·rw [hl] at hL HP
  simp only [Bool.false_eq_true, if_false] at HP
  have hS := fun W1 (hb1 : Below W.heap.size W W1) => show Calls Tryz.prog 41 #[.agg #[.int .i64 r.id, .int .i64 v.e, .int .i64 v.p, .slice Av v.l.length cv, .slice B r.log.length d, .int .i64 r.joined, .int .i64 (r.sure : Int), .slice none 0 0, .bool false]] W1 _ from dsettle_any { r with v := v, act := false, acks := [] } _ _ _ W1 ((hD1.kp (Kp.of_below hb)).kp (Kp.of_below hb1)) hn (by simp) hv (fun x hx => by cases hx)
  clear hl
  go_wp2_with (first | (go_at_call 38; (with_reducible refine hL.mono ?_); rintro e w1 ⟨rfl, hb1⟩; have hB1 := hB.below hb1 lB; have c1 := hB1.cell; have l1 := hB1.lt) | (go_at_call 41; (with_reducible refine (hS _ hb1).mono ?_); rintro e w2 ⟨rfl, hD2, hb2⟩; have hZ2 := (hZ.below hb1 lZ).below hb2 (by have := hb1.size; omega); have c2 := hZ2.cell; have f2 := hZ2.frozen; have l2 := hZ2.lt))
  have hs1 := hb1.size
  have hs2 := hb2.size
  have hb2' : Below w.heap.size w w2 := (hb.trans (hb1.mono hsW)).trans (hb2.mono (by omega))
  refine bodyPost_cell Tryz.results31 rfl (Blk.nine hZ2) Tryz.underlying34 rfl (by kernel_rfl) rfl ?_
  refine ⟨_, by rw [HP], ?_, hb2'.trans (Kp.below (Kp.nine w2 (w.heap.size + 1 + 1) _ _ _ _ _ _ _ _ _) (by omega) (fun k hk => by omega))⟩
  rw [HP]
  exact ((hD2.sub (T' := fun k => T k ∨ (w.heap.size ≤ k ∧ k ≤ w.heap.size + 2)) (fun k _ hk => hk)).kp ((Kp.nine w2 (w.heap.size + 1 + 1) _ _ _ _ _ _ _ _ _).weaken (fun k hk => .inr (by omega)))).sub fun k _ hk => .inl hk
 ·rw [hl] at hL HP
  simp only [if_true] at HP
  have hAk := fun W1 (hb1 : Below W.heap.size W W1) => show Calls Tryz.prog 40 #[.agg #[.int .i64 r.id, .int .i64 v.e, .int .i64 v.p, .slice Av v.l.length cv, .slice B r.log.length d, .int .i64 v.e, .int .i64 (r.sure : Int), .slice none 0 0, .bool false], .int .i64 r.id, .int .i64 (r.log.length : Int)] (W1.setCell ⟨w.heap.size, 5, none⟩ (.int .i64 v.e)) _ from
   dacked_any { r with v := v, act := false, joined := v.e, acks := [] } r.id r.log.length _ _ _ (W1.setCell ⟨w.heap.size, 5, none⟩ (.int .i64 v.e)) ((((hD1.kp (Kp.of_below hb)).kp (Kp.of_below hb1)).kp ((Kp.put W1 w.heap.size 5 _).weaken (fun k hk => .inr (by omega)))).same rfl rfl rfl) (fun k hk => by have := hb1.size; simp only [World.size_setCell]; exact hk.elim (fun h => by have := hTl k h; omega) (fun h => by omega)) (by simp)
  clear hl
  have cV := hV.cell
  have fB := hB.frozen
  go_upto_region 7 with (first | (go_at_call 38; (with_reducible refine hL.mono ?_); rintro e w1 ⟨rfl, hb1⟩; have hB1 := hB.below hb1 lB; have c1 := hB1.cell; have f1 := hB1.frozen; have l1 := hB1.lt; have hV1 := hV.below hb1 lV; have cV1 := hV1.cell; have lV1 := hV1.lt; have hZ1 := hZ.below hb1 lZ) | (go_at_call 40; (with_reducible refine (hAk _ hb1).mono ?_); rintro e w2 ⟨va2, rfl, hD2, hb2⟩; obtain ⟨_, _, _, _, Ca, fa, _, _, rfl⟩ := hD2.sl; have hB2 := (hB1.set_ 5 (.int .i64 v.e)).below hb2 (by simp; omega); have c2 := hB2.cell; have f2 := hB2.frozen; have l2 := hB2.lt; have hZ2 := (hZ1.far (p := ⟨w.heap.size, 5, none⟩) (by show w.heap.size + 1 + 1 ≠ w.heap.size; omega) (.int .i64 v.e)).below hb2 (by have := hb1.size; simp; omega)))
  have hs1 := hb1.size
  have hs2 := hb2.size
  simp only [World.size_setCell] at hs2
  have hb2' : Below w.heap.size w w2 := ((hb.trans (hb1.mono hsW)).setCell (p := ⟨w.heap.size, 5, none⟩) (by show w.heap.size ≤ w.heap.size; omega) (.int .i64 v.e)).trans (hb2.mono (by simp; omega))
  generalize hal : ackedL r.id r.log.length [] = AL at *
  have hKn := Kp.nine w2 w.heap.size (.int .i64 r.id) (.int .i64 v.e) (.int .i64 v.p) (.slice Av v.l.length cv) (.slice B r.log.length d) (.int .i64 v.e) (.int .i64 (r.sure : Int)) (.slice Ca AL.length fa) (.bool false)
  refine abstr (fun W3 => Blk W3 w.heap.size 34 #[.int .i64 r.id, .int .i64 v.e, .int .i64 v.p, .slice Av v.l.length cv, .slice B r.log.length d, .int .i64 v.e, .int .i64 (r.sure : Int), .slice Ca AL.length fa, .bool false] ∧ Blk W3 (w.heap.size + 1 + 1) 34 #[.int .i64 0, .int .i64 0, .int .i64 0, .slice none 0 0, .slice none 0 0, .int .i64 0, .int .i64 0, .slice none 0 0, .bool false] ∧ Below w.heap.size w W3 ∧ DrW W3 (fun k => T k ∨ (w.heap.size ≤ k ∧ k ≤ w.heap.size + 2)) (.slice Av v.l.length cv) (.slice B r.log.length d) (.slice Ca AL.length fa) { r with v := v, act := false, joined := v.e, acks := AL }) ⟨Blk.nine hB2, Blk.kp hZ2 hKn (by omega), hb2'.trans (Kp.below hKn (by omega) (fun k hk => by omega)), hD2.kp (hKn.weaken (fun k hk => .inr (by omega)))⟩ (fun W3 hW3 => ?_)
  clear hD2 hb2 hB2 hZ2 hb2' hKn hs1 hs2 c2 f2 l2 hb1 hB1 hV1 hZ1 c1 f1 l1 cV1 lV1 hAk hL hB hV hZ hb cB lB lV lZ cV fB hsW
  obtain ⟨hB3, hZ3, hb3, hD3⟩ := hW3
  have hs3 := hb3.size
  have c3 := hB3.cell
  have l3 := hB3.lt
  have l3z := hZ3.lt
  have hal1 : AL.length ≤ 1000 ∧ ∀ x ∈ AL, x.2 ≤ 4096 := by
   rw [← hal]
   refine ⟨by simp [ackedL], fun x hx => ?_⟩
   simp only [ackedL, List.filter_nil, List.mem_cons, List.not_mem_nil, or_false] at hx
   rw [hx]
   exact hn
  have hS := show Calls Tryz.prog 41 #[.agg #[.int .i64 r.id, .int .i64 v.e, .int .i64 v.p, .slice Av v.l.length cv, .slice B r.log.length d, .int .i64 v.e, .int .i64 (r.sure : Int), .slice Ca AL.length fa, .bool false]] W3 _ from dsettle_any { r with v := v, act := false, joined := v.e, acks := AL } _ _ _ W3 hD3 hn hal1.1 hv hal1.2
  go_wp2_with (go_at_call 41; (with_reducible refine hS.mono ?_); rintro e w4 ⟨rfl, hD4, hb4⟩; have hZ4 := hZ3.below hb4 l3z; have c4 := hZ4.cell; have f4 := hZ4.frozen; have l4 := hZ4.lt)
  have hs4 := hb4.size
  have hb4' : Below w.heap.size w w4 := hb3.trans (hb4.mono hs3)
  refine bodyPost_cell Tryz.results31 rfl (Blk.nine hZ4) Tryz.underlying34 rfl (by kernel_rfl) rfl ?_
  refine ⟨_, by rw [HP], ?_, hb4'.trans (Kp.below (Kp.nine w4 (w.heap.size + 1 + 1) _ _ _ _ _ _ _ _ _) (by omega) (fun k hk => by omega))⟩
  rw [HP]
  exact (hD4.kp ((Kp.nine w4 (w.heap.size + 1 + 1) _ _ _ _ _ _ _ _ _).weaken (fun k hk => .inr (by omega)))).sub fun k _ hk => .inl hk
end Go.Proofs.YtjhcgnmibnjocaaGreat

namespace Go.Proofs.YtjhcgnmibnjocaaGreat
open Go.RowKit Go.Maps
attribute [local irreducible] First.wpF
theorem OwnD.cap {w : World} {T : Nat → Prop} {base n c : Nat} {A : Option Addr} {l : List Ent} (h : OwnD w T base (.slice A n c) l) : n ≤ c := by
 obtain ⟨ms, _, ho, _⟩ := h
 obtain ⟨A', c', e, hle⟩ := own_sl ho
 simp only [Value.slice.injEq] at e
 omega
set_option maxRecDepth 100000 in
set_option maxHeartbeats 4000000 in
theorem dwith_any {T : Nat → Prop} (A : Option Addr) (n c : Nat) (l : List Ent) (x : Ent) (u : Value) (w : World) (h : Ents w T A n l) (hu : Bsl w T u x.t) (hx : x.ok) (hTl : ∀ k, T k → k < w.heap.size) (hn : n ≤ 4096) :
  Calls Tryz.prog 39 #[.slice A n c, .agg #[.int .i64 x.e, u]] w fun e w' => ∃ A1 c1, (e = .returned (.slice A1 (n + 1) c1) ∧ n + 1 ≤ c1) ∧ Ents w' T A1 (n + 1) (l ++ [x]) ∧ Below w.heap.size w w' := by
 have hln := h.len
 obtain ⟨uA, un, uc, rfl⟩ := hu.sl
 have hP := Blk.new w 79 #[.int .i64 x.e, .slice uA un uc]
 have hb0 : Below w.heap.size w (w.alloc (.cells #[.int .i64 x.e, .slice uA un uc] 79)) := Below.alloc (Below.refl _ _) (Nat.le_refl _) _
 go_enter Tryz.func39, Tryz.ntmps39
 go_wp2
 go_loopw [5, 6] (fun vo vi wr => ∃ j : Nat, j ≤ n ∧ vi = .int .i64 (j : Int) ∧ OwnD wr (fun k => T k ∨ vo.ownBlock = some k) (w.heap.size + 1) vo (l.take j) ∧ Blk wr w.heap.size 79 #[.int .i64 x.e, .slice uA un uc] ∧ Below w.heap.size w wr) (fun _ vi _ => ((n : Int) - intOf vi).toNat)
 case atStart => exact ⟨0, by omega, rfl, OwnD.nil _ _ _, hP, hb0⟩
 case round =>
  clear hP hb0
  obtain ⟨j, hj, rfl, hO, hP, hb⟩ := hrel
  obtain ⟨wo, rfl⟩ : ∃ wo : World, wo = wr := ⟨_, rfl⟩
  have hso := hb.size
  have cP := hP.cell
  have lP := hP.lt
  obtain ⟨vA, vc, hv⟩ := hO.sl
  rw [show (l.take j).length = j by rw [List.length_take]; omega] at hv
  subst hv
  have hge := ownD_ge hO
  by_cases hlt : j < n
  ·have hlj : (j : Int) < n := by omega
   have d0 : decide ((j : Int) < n) = true := decide_eq_true hlj
   have d0' : decide (j < n) = true := decide_eq_true hlt
   have hE : Ents wo (fun k => T k ∨ w.heap.size ≤ k) A n l := (h.sub (T' := fun k => T k ∨ w.heap.size ≤ k) (fun k hk ht => ht.elim id (fun h => by omega))).kp (Kp.of_below hb)
   obtain ⟨b, o, A2, c2, y, rfl, hbl, hg, hyo, m1, m2, hB⟩ := hE.at_ hlt
   have htk : l.take (j + 1) = l.take j ++ [y] := by rw [List.take_add_one, hg]; rfl
   have hBT := hB.sub (T' := fun k => T k ∨ (Value.slice vA j vc).ownBlock = some k) (fun k _ hk => hk.imp id (fun e => by have := (hge k e).1; omega))
   have HO := hide htk
   clear htk hg hE
   go_wp2_with (at_builtin; refine app_entD rfl (.tmp 13) (.tmp 18) rfl (fun k => T k ∨ (Value.slice vA j vc).ownBlock = some k) (w.heap.size + 1) (.slice vA j vc) (l.take j) ⟨y, .slice A2 y.t.length c2⟩ _ rfl rfl hO ⟨hBT, hyo⟩ (fun k hk => .inr hk) _ rfl rfl (by rw [List.length_take]; omega) (by omega) (fun v' w4 ho4 hc4 hs4 => ?_))
   go_roundw
   case rel =>
    refine ⟨j + 1, by omega, by go_num, ?_, (hc4.block _ lP (fun e => by have := (hge _ e).1; omega)).trans hP, hb.trans (hc4.low (fun k hk => by have := (hge k hk).1; omega) hso)⟩
    rw [HO.out]
    exact ho4.sub fun k _ hk => hk.elim (fun h => .inl (.inl h)) .inr
   case measure => simp [intOf]; omega
  ·obtain rfl : j = n := by omega
   have d0 : decide ((j : Int) < j) = false := by simp
   rw [List.take_of_length_le (by omega)] at hO
   have hBT : Bsl wo (fun k => T k ∨ (Value.slice vA j vc).ownBlock = some k) (.slice uA un uc) x.t := ((hu.sub (T' := fun k => T k ∨ w.heap.size ≤ k) (fun k hk ht => ht.elim id (fun h => by omega))).kp (Kp.of_below hb)).sub (fun k _ hk => hk.imp id (fun e => by have := (hge k e).1; omega))
   go_wp2_with (at_builtin; refine app_entD rfl (.tmp 20) (.tmp 22) rfl (fun k => T k ∨ (Value.slice vA j vc).ownBlock = some k) (w.heap.size + 1) (.slice vA j vc) l ⟨x, .slice uA un uc⟩ _ rfl rfl hO ⟨hBT, hx⟩ (fun k hk => .inr hk) _ rfl rfl (by omega) (by omega) (fun v' w4 ho4 hc4 hs4 => ?_))
   obtain ⟨A1, c1, hv'⟩ := ho4.sl
   rw [show (l ++ [x]).length = j + 1 by rw [List.length_append, hln]; rfl] at hv'
   subst hv'
   go_ret
   exact ⟨A1, ⟨c1, rfl, ho4.cap⟩, ho4.ents (by rw [List.length_append, hln]; rfl) (fun k hk => by have := hTl k hk; omega) (fun k hk => .inl (.inl hk)), hb.trans (hc4.low (fun k hk => by have := (hge k hk).1; omega) hso)⟩
set_option maxRecDepth 100000 in
set_option maxHeartbeats 4000000 in
theorem drecLog_any {T : Nat → Prop} (e : Int) (A : Option Addr) (n c : Nat) (l : List Ent) (w : World) (h : Ents w T A n l) (hn : n ≤ 4096) (he : I64 e) :
  Calls Tryz.prog 52 #[.int .i64 e, .slice A n c] w fun r w' => ∃ u, r = .returned u ∧ Row w' w.heap.size u (recLogP e l) ∧ Below w.heap.size w w' := by
 have h3 := numB_le _ (zig_lt _ he)
 have h4 := numB_le 3 (by omega)
 have hN := fun W (hW : w.heap.size ≤ W.heap.size) => rnum_any w.heap.size (.slice none 0 0) [] 3 W (Row.nil _ _) hW (by unfold U64; omega) (by simp)
 simp only [List.nil_append] at hN
 rw [show (3 : Int).toNat = 3 from rfl] at hN
 go_enter Tryz.func52, Tryz.ntmps52
 go_wp2_with (first | (go_at_call 71; (with_reducible refine (hN _ (Nat.le_refl _)).mono ?_); rintro r w1 ⟨v1, rfl, hr1, hc1⟩; have hb1 := Chg.below hc1 (Row.nil _ w.heap.size) (Nat.le_refl _)) | (go_at_call 78; (with_reducible refine (rint_any w.heap.size _ _ e w1 hr1 hb1.size he (by omega)).mono ?_); rintro r w2 ⟨v2, rfl, hr2, hc2⟩; have hb2 := Chg.below hc2 hr1 hb1.size; have hb02 := hb1.trans hb2) | (go_at_call 77; (with_reducible refine (dputLog_any w.heap.size _ _ A n c l w2 hr2 hb02.size (h.later hb02) hn (by simp only [List.length_append]; omega)).mono ?_); rintro r w3 ⟨⟨v3, rfl, hr3⟩, hb3⟩))
 go_ret
 exact ⟨v3, rfl, by simpa [recLogP, List.append_assoc] using hr3, hb02.trans hb3⟩
set_option maxRecDepth 100000 in
set_option maxHeartbeats 4000000 in
theorem drecPromise_any (A : Option Addr) (c : Nat) (v : Vi) (w : World) (hr : Reads w w.heap.size 1 A v.l.length (ints v.l)) (hv : v.right = true) (hl64 : ∀ x ∈ v.l, I64 x) (hn : v.l.length ≤ 20) (hp : I64 v.p) :
  Calls Tryz.prog 30 #[.agg #[.int .i64 v.e, .int .i64 v.p, .slice A v.l.length c]] w fun r w' => ∃ u, r = .returned u ∧ Row w' w.heap.size u (recPromiseP v) ∧ Below w.heap.size w w' := by
 have hvb := right_bd hv
 have he : I64 v.e := by unfold I64; omega
 have h1 := numB_le 1 (by omega)
 have hB := Blk.new w 30 #[.int .i64 v.e, .int .i64 v.p, .slice A v.l.length c]
 have hb0 : Below w.heap.size w (w.alloc (.cells #[.int .i64 v.e, .int .i64 v.p, .slice A v.l.length c] 30)) := Below.alloc (Below.refl _ _) (Nat.le_refl _) _
 have hA : 0 < v.l.length → ∀ a, A = some a → a.block < w.heap.size + 1 := fun h0 a ha => by
  obtain ⟨a', e', hl', _⟩ := hr.2 (by omega)
  rw [ha] at e'; cases e'
  omega
 go_enter Tryz.func30, Tryz.ntmps30
 go_wp2
 refine wp_region_below (w.heap.size + 1) [1] [] [(true, true, 1), (false, true, 0), (false, false, 2), (false, false, 3)] (by kernel_rfl) (by kernel_rfl) (fun Y => ?_); simp only [List.map_cons, List.map_nil, List.getD_cons_zero, List.getD_cons_succ]
 have hBY := Blk.ext hB Y
 have lt1 : w.heap.size < w.heap.size + 1 := by omega
 have hbY : Below w.heap.size w ((w.alloc (.cells #[.int .i64 v.e, .int .i64 v.p, .slice A v.l.length c] 30)).ext Y) := hb0.trans ((World.below_ext _ Y).mono (by simp))
 have hN := rnum_any (w.heap.size + 1) (.slice none 0 0) [] 1 ((w.alloc (.cells #[.int .i64 v.e, .int .i64 v.p, .slice A v.l.length c] 30)).ext Y) (Row.nil _ _) (by simp [World.size_ext] <;> omega) (by unfold U64; omega) (by simp)
 simp only [List.nil_append] at hN
 rw [show (1 : Int).toNat = 1 from rfl] at hN
 (repeat (first | (refine wfp fun K hK => ?_; go_simp; refine hK _ _ ?_; clear hK K) | (refine wff fun K hK => ?_; go_simp; refine hK _ _ ?_; clear hK K)))
 (refine first_read rfl (v := .agg #[.int .i64 v.e, .int .i64 v.p, .slice A v.l.length c]) (fun w' hw' => ?_) (fun K hK => ?_); rotate_left 1; go_simp; refine hK _ _ ?_; clear hK K; rotate_left 1; (have hB' := Blk.below hBY hw' lt1; have c' := Blk.cell hB'; go_simp))
 (repeat (first | (refine wfp fun K hK => ?_; go_simp; refine hK _ _ ?_; clear hK K) | (refine wff fun K hK => ?_; go_simp; refine hK _ _ ?_; clear hK K)))
 refine First.wpF_must (fun K hK => ?_)
 go_wp2_with (go_at_call 71; (with_reducible refine hN.mono ?_); rintro r w1 ⟨v1, rfl, hr1, hc1⟩; have hb1 := Chg.below hc1 (Row.nil _ (w.heap.size + 1)) (by simp [World.size_ext] <;> omega))
 (refine hK _ _ (fun _ => hb1) ?_; clear hK K)
 have hs1 := hb1.size
 simp only [World.size_ext, World.size_alloc] at hs1
 have hb01 : Below w.heap.size w w1 := hbY.trans (hb1.mono (by omega))
 have hrd := Reads.kp hr (Kp.of_below (S := fun _ => False) hb01) (fun _ _ _ h => h)
 (repeat (first | (refine wfp fun K hK => ?_; go_simp; refine hK _ _ ?_; clear hK K) | (refine wff fun K hK => ?_; go_simp; refine hK _ _ ?_; clear hK K)))
 refine First.wpF_must (fun K hK => ?_)
 go_wp2_with (go_at_call 70; (with_reducible refine (rvputG_any (w.heap.size + 1) _ _ v.e v.p A _ c v.l w1 hr1 (by omega) hrd hA he hp hl64 (by omega) (by omega)).mono ?_); rintro r w2 ⟨⟨v2, rfl, hr2⟩, hb2⟩)
 (refine hK _ _ (fun _ => hb2) ?_; clear hK K)
 (repeat (first | (refine wfp fun K hK => ?_; go_simp; refine hK _ _ ?_; clear hK K) | (refine wff fun K hK => ?_; go_simp; refine hK _ _ ?_; clear hK K)))
 refine First.wpF_must (fun K hK => ?_)
 go_wp2
 (refine hK _ _ (fun _ => Below.refl _ _) ?_; clear hK K)
 refine First.wpF_nil ?_
 go_wp2
 go_ret
 exact ⟨v2, rfl, own_low hr2 (Nat.le_succ _), hb01.trans (hb2.mono (by omega))⟩
end Go.Proofs.YtjhcgnmibnjocaaGreat

namespace Go.Proofs.YtjhcgnmibnjocaaGreat
open Go.RowKit Go.Maps
attribute [local irreducible] First.wpF
theorem dnum_at (q : Nat) (A : Option Addr) (c : Nat) (l : List Nat) (r : Rest) (hby : ∀ x ∈ l, x < 256) (hlen : l.length ≤ 140737488355328) (w : World) (h : Mst w q A c l r) {n : Nat} {r' : Rest} (hq : numP r = (n, r')) :
  Calls Tryz.prog 88 #[.pointer (some ⟨q, 0, none⟩)] w fun e' w' => e' = .returned (.int .u64 (n : Int)) ∧ Mst w' q A c l r' ∧ Only w w' q := by
 obtain ⟨a, e, hm, rfl⟩ := h
 have := dnum_any q A c l a e w hm hby hlen
 rw [hq] at this
 exact this
theorem DrW.log' {w : World} {T : Nat → Prop} {vm va : Value} {r : Rl} {A : Option Addr} {n c : Nat} (h : DrW w T vm (.slice A n c) va r) : Ents w T A n r.log := by
 obtain ⟨_, ⟨B, d, ⟨e, _⟩, hE⟩, _⟩ := h
 simp only [Value.slice.injEq] at e
 obtain ⟨rfl, rfl, rfl⟩ := e
 exact hE
theorem DrW.relog {w : World} {T : Nat → Prop} {vm vl va : Value} {r : Rl} (h : DrW w T vm vl va r) {l : List Ent} {A : Option Addr} {c : Nat} (hE : Ents w T A l.length l) (hcap : l.length ≤ c) (N : Int) : DrW w T vm (.slice A l.length c) va { r with joined := N, log := l } := ⟨h.mem, ⟨A, c, ⟨rfl, hcap⟩, hE⟩, h.ack⟩
set_option maxRecDepth 100000 in
set_option maxHeartbeats 4000000 in
theorem drestore_any {T T0 : Nat → Prop} (r : Rl) (vm vl va u : Value) (bs : List Nat) (w : World) (h : DrW w T vm vl va r) (hok : r.ok) (hvn : r.v.l.length ≤ 1000000) (hTl : ∀ k, T k → k < w.heap.size) (hu : Bsl w T0 u bs) (hn : bs.length ≤ 1000000) :
  Calls Tryz.prog 55 #[.agg #[.int .i64 r.id, .int .i64 r.v.e, .int .i64 r.v.p, vm, vl, .int .i64 r.joined, .int .i64 (r.sure : Int), va, .bool r.act], u] w fun e w' => ∃ vm' vl' va', e = .returned (.tuple #[.agg #[.int .i64 ((restoreP r bs).getD r).id, .int .i64 ((restoreP r bs).getD r).v.e, .int .i64 ((restoreP r bs).getD r).v.p, vm', vl', .int .i64 ((restoreP r bs).getD r).joined, .int .i64 (((restoreP r bs).getD r).sure : Int), va', .bool ((restoreP r bs).getD r).act], .bool (restoreP r bs).isSome]) ∧ DrW w' T vm' vl' va' ((restoreP r bs).getD r) ∧ Below w.heap.size w w' := by
 have hD := h
 obtain ⟨Am, cm, Bl, dl, Ca, fa, rfl, rfl, rfl⟩ := h.sl
 obtain ⟨⟨A, c, rfl, hr, hnil, _, hc1, hc2⟩, hby⟩ := hu
 have hAlt : 0 < bs.length → ∀ b, A = some b → b.block < w.heap.size := fun h0 a ha => by
  obtain ⟨a', e, hb, _⟩ := hr.2 (by omega)
  rw [ha] at e; cases e; exact hb
 have hlen : bs.length ≤ 140737488355328 := by omega
 have hDT := hD.sub (T' := fun k => T k ∨ (w.heap.size ≤ k ∧ k ≤ w.heap.size + 2)) (fun k hk ht => ht.elim id (fun h => by omega))
 obtain ⟨RP, hRP⟩ : ∃ RP, RP = restoreP r bs := ⟨_, rfl⟩
 rw [← hRP]
 obtain ⟨r0, hr0⟩ : ∃ r0 : Rest, r0 = ⟨bs, 0⟩ := ⟨_, rfl⟩
 unfold restoreP at hRP
 rw [← hr0] at hRP
 rcases hq : numP r0 with ⟨kd, r1⟩
 rw [hq] at hRP
 simp only at hRP
 have hb0 : Below w.heap.size w (((w.alloc (.cells #[.int .i64 r.id, .int .i64 r.v.e, .int .i64 r.v.p, (.slice Am r.v.l.length cm), (.slice Bl r.log.length dl), .int .i64 r.joined, .int .i64 (r.sure : Int), (.slice Ca r.acks.length fa), .bool r.act] 34)).alloc (.cells #[.int .i64 0, .int .i64 0, .int .i64 0, .slice none 0 0, .slice none 0 0, .int .i64 0, .int .i64 0, .slice none 0 0, .bool false] 34)).alloc (.cells #[.slice A bs.length c, .int .i64 0, .int .i64 0] 148)) := ((Below.alloc (Below.refl _ _) (Nat.le_refl _) _).alloc (by simp) _).alloc (by simp; omega) _
 have hX0 := ((Blk.new w 34 #[.int .i64 r.id, .int .i64 r.v.e, .int .i64 r.v.p, (.slice Am r.v.l.length cm), (.slice Bl r.log.length dl), .int .i64 r.joined, .int .i64 (r.sure : Int), (.slice Ca r.acks.length fa), .bool r.act]).alloc (.cells #[.int .i64 0, .int .i64 0, .int .i64 0, .slice none 0 0, .slice none 0 0, .int .i64 0, .int .i64 0, .slice none 0 0, .bool false] 34)).alloc (.cells #[.slice A bs.length c, .int .i64 0, .int .i64 0] 148)
 have hZ0 := (Blk.made w (.cells #[.int .i64 r.id, .int .i64 r.v.e, .int .i64 r.v.p, (.slice Am r.v.l.length cm), (.slice Bl r.log.length dl), .int .i64 r.joined, .int .i64 (r.sure : Int), (.slice Ca r.acks.length fa), .bool r.act] 34) 34 #[.int .i64 0, .int .i64 0, .int .i64 0, .slice none 0 0, .slice none 0 0, .int .i64 0, .int .i64 0, .slice none 0 0, .bool false]).alloc (.cells #[.slice A bs.length c, .int .i64 0, .int .i64 0] 148)
 have hM0 : Mst (((w.alloc (.cells #[.int .i64 r.id, .int .i64 r.v.e, .int .i64 r.v.p, (.slice Am r.v.l.length cm), (.slice Bl r.log.length dl), .int .i64 r.joined, .int .i64 (r.sure : Int), (.slice Ca r.acks.length fa), .bool r.act] 34)).alloc (.cells #[.int .i64 0, .int .i64 0, .int .i64 0, .slice none 0 0, .slice none 0 0, .int .i64 0, .int .i64 0, .slice none 0 0, .bool false] 34)).alloc (.cells #[.slice A bs.length c, .int .i64 0, .int .i64 0] 148)) (w.heap.size + 1 + 1) A c bs r0 := by
  have hB := Blk.new ((w.alloc (.cells #[.int .i64 r.id, .int .i64 r.v.e, .int .i64 r.v.p, (.slice Am r.v.l.length cm), (.slice Bl r.log.length dl), .int .i64 r.joined, .int .i64 (r.sure : Int), (.slice Ca r.acks.length fa), .bool r.act] 34)).alloc (.cells #[.int .i64 0, .int .i64 0, .int .i64 0, .slice none 0 0, .slice none 0 0, .int .i64 0, .int .i64 0, .slice none 0 0, .bool false] 34)) 148 #[.slice A bs.length c, .int .i64 0, .int .i64 0]
  simp only [World.size_alloc] at hB
  exact ⟨0, 0, ⟨hB, Reads.kp hr (Kp.of_below (S := fun _ => False) hb0) (fun _ _ _ h => h), fun h0 a ha => by have := hAlt h0 a ha; omega, Nat.zero_le _⟩, by rw [hr0, restP_ok]; rfl⟩
 clear hr h
 go_enter Tryz.func55, Tryz.ntmps55
 go_upto_region 2 with fail
 refine abstr (fun W => Blk W w.heap.size 34 #[.int .i64 r.id, .int .i64 r.v.e, .int .i64 r.v.p, (.slice Am r.v.l.length cm), (.slice Bl r.log.length dl), .int .i64 r.joined, .int .i64 (r.sure : Int), (.slice Ca r.acks.length fa), .bool r.act] ∧ Blk W (w.heap.size + 1) 34 #[.int .i64 0, .int .i64 0, .int .i64 0, .slice none 0 0, .slice none 0 0, .int .i64 0, .int .i64 0, .slice none 0 0, .bool false] ∧ Mst W (w.heap.size + 1 + 1) A c bs r0 ∧ Below w.heap.size w W) ⟨hX0, hZ0, hM0, hb0⟩ (fun W hW => ?_)
 clear hX0 hZ0 hM0 hb0
 obtain ⟨hX1, hZ1, hM1, hb1⟩ := hW
 go_upto_region 3 with (go_at_call 88; (with_reducible refine (dnum_at (w.heap.size + 1 + 1) A c bs r0 hby hlen W hM1 hq).mono ?_); rintro e w2 ⟨rfl, hM2, hO2⟩)
 have hX2 := Blk.only hX1 hO2 (by omega)
 have hZ2 := Blk.only hZ1 hO2 (by omega)
 have hs1 := hb1.size
 have hb2 : Below w.heap.size w w2 := hb1.trans (hO2.below (by omega) hs1)
 have hs2 := hb2.size
 have hlX := hX1.lt
 have hlZ := hZ1.lt
 have hl2 : w.heap.size + 1 + 1 < w2.heap.size := by
  obtain ⟨_, hBB⟩ := hM2.e
  exact hBB.lt
 clear hM1 hX1 hZ1 hb1 hO2 hs1 hq hlX hlZ
 clear W
 have hAg : ∀ W : World, w.heap.size ≤ W.heap.size → 0 < bs.length → ∀ b, A = some b → b.block < W.heap.size := fun W hs h0 a ha => by have := hAlt h0 a ha; omega
 generalize hkq : (kd : Int) = ki at *
 by_cases k1 : kd = 1
 ·rw [if_pos k1] at hRP
  obtain rfl : ki = 1 := by omega
  have hg := dget_any (w.heap.size + 1 + 1) A c bs r1 hby hlen w2 hM2 hl2 (hAg _ hs2)
  have hv64 := getV_bd r1
  generalize getV r1 = G at *
  go_upto_region 5 with (go_at_call 89; (with_reducible refine hg.mono ?_); rintro e w3 ⟨⟨v3, rfl, ho3⟩, hM3, hO3⟩; obtain ⟨A3, c3, rfl, _⟩ := own_sl ho3)
  have hs3 := hO3.size
  have hb3 : Below w.heap.size w w3 := hb2.trans (hO3.below (by omega) hs2)
  have hX3 := Blk.only hX2 hO3 (by omega)
  have hZ3 := Blk.only hZ2 hO3 (by omega)
  have hrd3 := Reads.of_own ho3
  have ha3 := own_addr ho3
  refine abstr (fun W => Below w.heap.size w W ∧ Mst W (w.heap.size + 1 + 1) A c bs G.r ∧ Blk W w.heap.size 34 #[.int .i64 r.id, .int .i64 r.v.e, .int .i64 r.v.p, (.slice Am r.v.l.length cm), (.slice Bl r.log.length dl), .int .i64 r.joined, .int .i64 (r.sure : Int), (.slice Ca r.acks.length fa), .bool r.act] ∧ Blk W (w.heap.size + 1) 34 #[.int .i64 0, .int .i64 0, .int .i64 0, .slice none 0 0, .slice none 0 0, .int .i64 0, .int .i64 0, .slice none 0 0, .bool false] ∧ Blk W w3.heap.size 30 #[.int .i64 G.e, .int .i64 G.p, .slice A3 G.l.length c3] ∧ Reads W W.heap.size 1 A3 G.l.length (ints G.l) ∧ (∀ a, A3 = some a → w2.heap.size ≤ a.block)) ⟨hb3.alloc (by omega) _, hM3.below (Below.alloc (Below.refl _ _) (Nat.le_refl _) _), hX3.alloc _, hZ3.alloc _, Blk.new _ _ _, Reads.kp hrd3 (Kp.of_below (S := fun _ => False) (Below.alloc (Below.refl _ _) (Nat.le_refl _) _)) (fun _ _ _ h => h), fun a ha => (ha3 a ha).1⟩ (fun W hW => ?_)
  have hpv : w.heap.size + 1 + 1 < w3.heap.size := by omega
  generalize w3.heap.size = pv at *
  clear hg ho3 hM3 hO3 hrd3 ha3 hb3 hs3 hX3 hZ3 hM2 hX2 hZ2 hb2
  obtain ⟨hbW, hMW, hXW, hZW, hVW, hqW, hA3⟩ := hW
  have hsW := hbW.size
  have lX := hXW.lt
  have lZ := hZW.lt
  have lV := hVW.lt
  unfold rest1 at hRP
  have hEn := de_any (w.heap.size + 1 + 1) A c bs G.r hlen W hMW
  have hRi := fun W' h => rvright_any G.e G.p A3 G.l.length c3 G.l W' h (by omega)
  generalize endP G.r = EP at *
  by_cases he : EP.e = 0
  ·have he' : (EP.e != 0) = false := by simp [he]
   rcases hrt : (⟨G.e, G.p, G.l⟩ : Vi).right with _ | _
   ·rw [if_pos (.inr (.inl hrt))] at hRP
    unfold Vi.right at hrt
    simp only at hrt
    rw [hrt] at hRi
    clear he
    go_wp2_with (first | (go_at_call 90; (with_reducible refine hEn.mono ?_); rintro e w4 ⟨rfl, hO4⟩; have hX4 := Blk.only hXW hO4 (by omega); have hZ4 := Blk.only hZW hO4 (by omega); have hV4 := Blk.only hVW hO4 (by omega); have c4 := hV4.cell; have l4 := hV4.lt; have hs4 := hO4.size; have hb4 : Below w.heap.size w w4 := hbW.trans (hO4.below (by omega) hsW); have hq4 := Reads.kp hqW (Kp.of_only hO4 (S := fun k => k = w.heap.size + 1 + 1) rfl) (fun h0 a ha e => by have := hA3 a ha; omega)) | (go_at_call 29; (with_reducible refine (hRi _ hq4).mono ?_); rintro e w5 ⟨rfl, hbb5⟩; have hX5 := hX4.below hbb5 (by omega); have hZ5 := hZ4.below hbb5 (by omega); have hV5 := hV4.below hbb5 hV4.lt; have cv5 := hV5.cell; have lv5 := hV5.lt; have c5 := hX5.cell; have l5 := hX5.lt; have cz5 := hZ5.cell; have f5 := hZ5.frozen; have lz5 := hZ5.lt; have hb5 : Below w.heap.size w w5 := hb4.trans (hbb5.mono hb4.size); have hs5 := hb5.size))
    refine bodyPost_cell_tmp Tryz.results55 rfl (Blk.nine hZ5) Tryz.underlying34 rfl (by kernel_rfl) rfl ?_
    have hK5 : Below w.heap.size w _ := hb5.trans (Kp.below (Kp.nine w5 (w.heap.size + 1) (.int .i64 r.id) (.int .i64 r.v.e) (.int .i64 r.v.p) (.slice Am r.v.l.length cm) (.slice Bl r.log.length dl) (.int .i64 r.joined) (.int .i64 (r.sure : Int)) (.slice Ca r.acks.length fa) (.bool r.act)) (by omega) (fun k hk => by omega))
    rw [hRP]
    exact ⟨_, _, _, rfl, hD.kp (Kp.of_below hK5), hK5⟩
   ·have hrt' := hide hrt
    unfold Vi.right at hrt
    simp only at hrt
    rw [hrt] at hRi
    have hE' := hide he
    clear hrt he
    by_cases hle : G.e ≤ r.v.e
    ·have d1 : decide (G.e ≤ r.v.e) = true := by simpa using hle
     rw [if_pos (.inr (.inr hle))] at hRP
     clear hle
     go_wp2_with (first | (go_at_call 90; (with_reducible refine hEn.mono ?_); rintro e w4 ⟨rfl, hO4⟩; have hX4 := Blk.only hXW hO4 (by omega); have hZ4 := Blk.only hZW hO4 (by omega); have hV4 := Blk.only hVW hO4 (by omega); have c4 := hV4.cell; have l4 := hV4.lt; have hs4 := hO4.size; have hb4 : Below w.heap.size w w4 := hbW.trans (hO4.below (by omega) hsW); have hq4 := Reads.kp hqW (Kp.of_only hO4 (S := fun k => k = w.heap.size + 1 + 1) rfl) (fun h0 a ha e => by have := hA3 a ha; omega)) | (go_at_call 29; (with_reducible refine (hRi _ hq4).mono ?_); rintro e w5 ⟨rfl, hbb5⟩; have hX5 := hX4.below hbb5 (by omega); have hZ5 := hZ4.below hbb5 (by omega); have hV5 := hV4.below hbb5 hV4.lt; have cv5 := hV5.cell; have lv5 := hV5.lt; have c5 := hX5.cell; have l5 := hX5.lt; have cz5 := hZ5.cell; have f5 := hZ5.frozen; have lz5 := hZ5.lt; have hb5 : Below w.heap.size w w5 := hb4.trans (hbb5.mono hb4.size); have hs5 := hb5.size))
     refine bodyPost_cell_tmp Tryz.results55 rfl (Blk.nine hZ5) Tryz.underlying34 rfl (by kernel_rfl) rfl ?_
     have hK5 : Below w.heap.size w _ := hb5.trans (Kp.below (Kp.nine w5 (w.heap.size + 1) (.int .i64 r.id) (.int .i64 r.v.e) (.int .i64 r.v.p) (.slice Am r.v.l.length cm) (.slice Bl r.log.length dl) (.int .i64 r.joined) (.int .i64 (r.sure : Int)) (.slice Ca r.acks.length fa) (.bool r.act)) (by omega) (fun k hk => by omega))
     rw [hRP]
     exact ⟨_, _, _, rfl, hD.kp (Kp.of_below hK5), hK5⟩
    ·have d1 : decide (G.e ≤ r.v.e) = false := by simpa using hle
     rw [if_neg (by rintro (h | h | h); exact h hE'.out; (rw [hrt'.out] at h; cases h); exact hle h)] at hRP
     have hPr := fun W' h1 h2 h3 h4 => dpromise_any (T := fun k => T k ∨ (w.heap.size ≤ k ∧ k ≤ w.heap.size + 2)) r ⟨G.e, G.p, G.l⟩ (.slice Am r.v.l.length cm) (.slice Bl r.log.length dl) (.slice Ca r.acks.length fa) A3 c3 W' h1 h2 h3 h4 hok.n (by show G.l.length ≤ 1000000; omega)
     clear hle
     go_upto_region 7 with (first | (go_at_call 90; (with_reducible refine hEn.mono ?_); rintro e w4 ⟨rfl, hO4⟩; have hX4 := Blk.only hXW hO4 (by omega); have hZ4 := Blk.only hZW hO4 (by omega); have hV4 := Blk.only hVW hO4 (by omega); have c4 := hV4.cell; have l4 := hV4.lt; have hs4 := hO4.size; have hb4 : Below w.heap.size w w4 := hbW.trans (hO4.below (by omega) hsW); have hq4 := Reads.kp hqW (Kp.of_only hO4 (S := fun k => k = w.heap.size + 1 + 1) rfl) (fun h0 a ha e => by have := hA3 a ha; omega)) | (go_at_call 29; (with_reducible refine (hRi _ hq4).mono ?_); rintro e w5 ⟨rfl, hbb5⟩; have hX5 := hX4.below hbb5 (by omega); have hZ5 := hZ4.below hbb5 (by omega); have hV5 := hV4.below hbb5 hV4.lt; have cv5 := hV5.cell; have lv5 := hV5.lt; have c5 := hX5.cell; have l5 := hX5.lt; have cz5 := hZ5.cell; have f5 := hZ5.frozen; have lz5 := hZ5.lt; have hb5 : Below w.heap.size w w5 := hb4.trans (hbb5.mono hb4.size); have hs5 := hb5.size))
     have hq5 := Reads.kp hq4 (Kp.of_below (S := fun _ => False) hbb5) (fun _ _ _ h => h)
     have hP5 := hPr w5 (hDT.kp (Kp.of_below hb5)) (fun k hk => hk.elim (fun h => by have := hTl k h; omega) (fun h => by omega)) hq5 (fun _ a ha ht => ht.elim (fun h => by have := hTl _ h; have := hA3 a ha; omega) (fun h => by have := hA3 a ha; omega))
     clear hPr hEn hRi hX4 hZ4 hV4 hq4 hO4 hb4 c4 l4 hq5
     go_wp2_with (go_at_call 31; (with_reducible refine hP5.mono ?_); rintro e w6 ⟨va6, rfl, hD6, hbb6⟩; obtain ⟨_, _, _, _, C6, f6, -, -, rfl⟩ := hD6.sl; have hZ6 := hZ5.below hbb6 lz5; have c6 := hZ6.cell; have ff6 := hZ6.frozen; have l6 := hZ6.lt)
     have hb6 : Below w.heap.size w w6 := hb5.trans (hbb6.mono hs5)
     have hs6 := hb6.size
     refine bodyPost_cell_tmp Tryz.results55 rfl (Blk.nine hZ6) Tryz.underlying34 rfl (by kernel_rfl) rfl ?_
     rw [hRP]
     refine ⟨_, _, _, rfl, ?_, hb6.trans (Kp.below (Kp.nine w6 (w.heap.size + 1) _ _ _ _ _ _ _ _ _) (by omega) (fun k hk => by omega))⟩
     exact (hD6.kp ((Kp.nine w6 (w.heap.size + 1) _ _ _ _ _ _ _ _ _).weaken (fun k hk => .inr (by omega)))).sub fun k _ hk => .inl hk
  ·rw [if_pos (.inl he)] at hRP
   have he' : (EP.e != 0) = true := by simpa using he
   clear he
   go_wp2_with (go_at_call 90; (with_reducible refine hEn.mono ?_); rintro e w5 ⟨rfl, hO5⟩; have hX5 := Blk.only hXW hO5 (by omega); have hZ5 := Blk.only hZW hO5 (by omega); have c5 := hX5.cell; have fx5 := hX5.frozen; have l5 := hX5.lt; have cz5 := hZ5.cell; have f5 := hZ5.frozen; have lz5 := hZ5.lt; have hb5 : Below w.heap.size w w5 := hbW.trans (hO5.below (by omega) hsW); have hs5 := hb5.size)
   refine bodyPost_cell_tmp Tryz.results55 rfl (Blk.nine hZ5) Tryz.underlying34 rfl (by kernel_rfl) rfl ?_
   have hK5 : Below w.heap.size w _ := hb5.trans (Kp.below (Kp.nine w5 (w.heap.size + 1) (.int .i64 r.id) (.int .i64 r.v.e) (.int .i64 r.v.p) (.slice Am r.v.l.length cm) (.slice Bl r.log.length dl) (.int .i64 r.joined) (.int .i64 (r.sure : Int)) (.slice Ca r.acks.length fa) (.bool r.act)) (by omega) (fun k hk => by omega))
   rw [hRP]
   exact ⟨_, _, _, rfl, hD.kp (Kp.of_below hK5), hK5⟩
 rw [if_neg k1] at hRP
 have k1' : (ki == 1) = false := by simp; omega
 rcases hq2 : numP r1 with ⟨n2, r2⟩
 rw [hq2] at hRP
 simp only at hRP
 have hI := dint_at (w.heap.size + 1 + 1) A c bs r1 hby hlen w2 hM2 hq2
 have hGl := fun W hW hq hA => dgetlog_any (w.heap.size + 1 + 1) A c bs r2 hby hlen ⟨hc1, hc2, hnil⟩ W hW hq hA
 generalize getL r2 = L at *
 have hpq : w.heap.size + 1 + 1 ≠ w.heap.size := by omega
 by_cases k3 : kd = 3
 ·rw [if_neg (by omega), if_pos k3] at hRP
  obtain rfl : ki = 3 := by omega
  unfold rest3 at hRP
  generalize zag n2 = N at *
  go_upto_region 12 with (first | (go_at_call 91; (with_reducible refine hI.mono ?_); rintro e w3 ⟨rfl, hM3, hO3⟩; have hs3 := hO3.size) | (go_at_call 92; (with_reducible refine (hGl w3 hM3 (by omega) (hAg _ (by omega))).mono ?_); rintro e w4 ⟨⟨A4, c4, rfl, ho4⟩, hM4, hO4⟩))
  have hs4 := hO4.size
  have hXW := Blk.only (Blk.only hX2 hO3 (by omega)) hO4 (by omega)
  have hZW := Blk.only (Blk.only hZ2 hO3 (by omega)) hO4 (by omega)
  have hbW : Below w.heap.size w w4 := (hb2.trans (hO3.below (by omega) hs2)).trans (hO4.below (by omega) (by omega))
  have hsW := hbW.size
  have hEn := de_any (w.heap.size + 1 + 1) A c bs L.2 hlen w4 hM4
  clear hI hGl hM3 hM4 hO3 hO4 hM2 hX2 hZ2
  generalize endP L.2 = EP at *
  by_cases he : EP.e = 0
  ·have he' : (EP.e != 0) = false := by simp [he]
   by_cases hn0 : N < 0
   ·have d0 : decide (N < 0) = true := by simpa using hn0
    rw [if_pos (.inr (.inl hn0))] at hRP
    clear he hn0
    go_wp2_with (go_at_call 90; (with_reducible refine hEn.mono ?_); rintro e w5 ⟨rfl, hO5⟩; have hX5 := Blk.only hXW hO5 (by omega); have hZ5 := Blk.only hZW hO5 (by omega); have c5 := hX5.cell; have fx5 := hX5.frozen; have l5 := hX5.lt; have cz5 := hZ5.cell; have f5 := hZ5.frozen; have lz5 := hZ5.lt; have hb5 : Below w.heap.size w w5 := hbW.trans (hO5.below (by omega) hsW); have hs5 := hb5.size)
    refine bodyPost_cell_tmp Tryz.results55 rfl (Blk.nine hZ5) Tryz.underlying34 rfl (by kernel_rfl) rfl ?_
    have hK5 : Below w.heap.size w _ := hb5.trans (Kp.below (Kp.nine w5 (w.heap.size + 1) (.int .i64 r.id) (.int .i64 r.v.e) (.int .i64 r.v.p) (.slice Am r.v.l.length cm) (.slice Bl r.log.length dl) (.int .i64 r.joined) (.int .i64 (r.sure : Int)) (.slice Ca r.acks.length fa) (.bool r.act)) (by omega) (fun k hk => by omega))
    rw [hRP]
    exact ⟨_, _, _, rfl, hD.kp (Kp.of_below hK5), hK5⟩
   ·have d0 : decide (N < 0) = false := by simpa using hn0
    by_cases hle : r.v.e < N
    ·have d1 : decide (r.v.e < N) = true := by simpa using hle
     rw [if_pos (.inr (.inr hle))] at hRP
     clear he hn0 hle
     go_wp2_with (go_at_call 90; (with_reducible refine hEn.mono ?_); rintro e w5 ⟨rfl, hO5⟩; have hX5 := Blk.only hXW hO5 (by omega); have hZ5 := Blk.only hZW hO5 (by omega); have c5 := hX5.cell; have fx5 := hX5.frozen; have l5 := hX5.lt; have cz5 := hZ5.cell; have f5 := hZ5.frozen; have lz5 := hZ5.lt; have hb5 : Below w.heap.size w w5 := hbW.trans (hO5.below (by omega) hsW); have hs5 := hb5.size)
     refine bodyPost_cell_tmp Tryz.results55 rfl (Blk.nine hZ5) Tryz.underlying34 rfl (by kernel_rfl) rfl ?_
     have hK5 : Below w.heap.size w _ := hb5.trans (Kp.below (Kp.nine w5 (w.heap.size + 1) (.int .i64 r.id) (.int .i64 r.v.e) (.int .i64 r.v.p) (.slice Am r.v.l.length cm) (.slice Bl r.log.length dl) (.int .i64 r.joined) (.int .i64 (r.sure : Int)) (.slice Ca r.acks.length fa) (.bool r.act)) (by omega) (fun k hk => by omega))
     rw [hRP]
     exact ⟨_, _, _, rfl, hD.kp (Kp.of_below hK5), hK5⟩
    ·have d1 : decide (r.v.e < N) = false := by simpa using hle
     rw [if_neg (by rintro (h | h | h); exact h he; exact hn0 h; exact hle h)] at hRP
     clear he hn0 hle
     go_wp2_with (go_at_call 90; (with_reducible refine hEn.mono ?_); rintro e w5 ⟨rfl, hO5⟩; have hX5 := Blk.only hXW hO5 (by omega); have hZ5 := Blk.only hZW hO5 (by omega); have c5 := hX5.cell; have fx5 := hX5.frozen; have l5 := hX5.lt; have cz5 := hZ5.cell; have f5 := hZ5.frozen; have lz5 := hZ5.lt; have hb5 : Below w.heap.size w w5 := hbW.trans (hO5.below (by omega) hsW); have hs5 := hb5.size)
     have hE5 : Ents w5 (fun k => T k ∨ (w.heap.size ≤ k ∧ k ≤ w.heap.size + 2)) A4 L.1.length L.1 := (ho4.only hO5 (by omega)).ents rfl (fun k hk => hk.elim (fun h => by have := hTl k h; omega) (fun h => by omega)) (fun k hk => .inl (hk.elim (fun h => by have := hTl k h; omega) (fun h => by omega)))
     have hD5 := (hDT.kp (Kp.of_below hb5)).relog (c := c4) hE5 (OwnD.cap ho4) N
     have hZ7 := (hZ5.far (p := ⟨w.heap.size, 5, none⟩) (by show w.heap.size + 1 ≠ w.heap.size; omega) (.int .i64 N)).far (p := ⟨w.heap.size, 4, none⟩) (by show w.heap.size + 1 ≠ w.heap.size; omega) (.slice A4 L.1.length c4)
     have hk7 : Kp (fun k => T k ∨ (w.heap.size ≤ k ∧ k ≤ w.heap.size + 2)) w5 _ := ((Kp.put w5 w.heap.size 5 (.int .i64 N)).weaken (fun k hk => .inr (by omega))).trans ((Kp.put _ w.heap.size 4 (.slice A4 L.1.length c4)).weaken (fun k hk => .inr (by omega)))
     have hb7 := (hb5.setCell (p := ⟨w.heap.size, 5, none⟩) (by show w.heap.size ≤ w.heap.size; omega) (.int .i64 N)).setCell (p := ⟨w.heap.size, 4, none⟩) (by show w.heap.size ≤ w.heap.size; omega) (.slice A4 L.1.length c4)
     refine bodyPost_cell_tmp Tryz.results55 rfl (Blk.nine hZ7) Tryz.underlying34 rfl (by kernel_rfl) rfl ?_
     rw [hRP]
     refine ⟨_, _, _, rfl, ?_, hb7.trans (Kp.below (Kp.nine _ (w.heap.size + 1) _ _ _ _ _ _ _ _ _) hb7.size (fun k hk => by omega))⟩
     exact ((hD5.kp hk7).kp ((Kp.nine _ (w.heap.size + 1) _ _ _ _ _ _ _ _ _).weaken (fun k hk => .inr (by omega)))).sub fun k _ hk => .inl hk
  ·rw [if_pos (.inl he)] at hRP
   have he' : (EP.e != 0) = true := by simpa using he
   clear he
   go_wp2_with (go_at_call 90; (with_reducible refine hEn.mono ?_); rintro e w5 ⟨rfl, hO5⟩; have hX5 := Blk.only hXW hO5 (by omega); have hZ5 := Blk.only hZW hO5 (by omega); have c5 := hX5.cell; have fx5 := hX5.frozen; have l5 := hX5.lt; have cz5 := hZ5.cell; have f5 := hZ5.frozen; have lz5 := hZ5.lt; have hb5 : Below w.heap.size w w5 := hbW.trans (hO5.below (by omega) hsW); have hs5 := hb5.size)
   refine bodyPost_cell_tmp Tryz.results55 rfl (Blk.nine hZ5) Tryz.underlying34 rfl (by kernel_rfl) rfl ?_
   have hK5 : Below w.heap.size w _ := hb5.trans (Kp.below (Kp.nine w5 (w.heap.size + 1) (.int .i64 r.id) (.int .i64 r.v.e) (.int .i64 r.v.p) (.slice Am r.v.l.length cm) (.slice Bl r.log.length dl) (.int .i64 r.joined) (.int .i64 (r.sure : Int)) (.slice Ca r.acks.length fa) (.bool r.act)) (by omega) (fun k hk => by omega))
   rw [hRP]
   exact ⟨_, _, _, rfl, hD.kp (Kp.of_below hK5), hK5⟩
 have k3' : (ki == 3) = false := by simp; omega
 by_cases k2 : kd = 2
 ·rw [if_pos k2] at hRP
  obtain rfl : ki = 2 := by omega
  unfold rest2 at hRP
  generalize zag n2 = N at *
  go_upto_region 12 with (first | (go_at_call 91; (with_reducible refine hI.mono ?_); rintro e w3 ⟨rfl, hM3, hO3⟩; have hs3 := hO3.size) | (go_at_call 92; (with_reducible refine (hGl w3 hM3 (by omega) (hAg _ (by omega))).mono ?_); rintro e w4 ⟨⟨A4, c4, rfl, ho4⟩, hM4, hO4⟩))
  have hs4 := hO4.size
  have hXW := Blk.only (Blk.only hX2 hO3 (by omega)) hO4 (by omega)
  have hZW := Blk.only (Blk.only hZ2 hO3 (by omega)) hO4 (by omega)
  have hbW : Below w.heap.size w w4 := (hb2.trans (hO3.below (by omega) hs2)).trans (hO4.below (by omega) (by omega))
  have hsW := hbW.size
  have hEn := de_any (w.heap.size + 1 + 1) A c bs L.2 hlen w4 hM4
  clear hI hGl hM3 hM4 hO3 hO4 hM2 hX2 hZ2
  generalize endP L.2 = EP at *
  have hll := hok.n
  have hwr : IntKind.i64.wrap ((r.log.length : Int) + 1) = (r.log.length : Int) + 1 := IntWalk.i64_in _ (by omega)
  by_cases hbad : EP.e ≠ 0 ∨ L.1.length ≠ 1 ∨ N ≠ (r.log.length : Int) + 1 ∨ 4096 < N
  ·rw [if_pos hbad] at hRP
   by_cases he : EP.e = 0
   ·have he' : (EP.e != 0) = false := by simp [he]
    by_cases hl1 : L.1.length = 1
    ·have d1 : ((L.1.length : Int) != 1) = false := by simp; omega
     by_cases hN1 : N = (r.log.length : Int) + 1
     ·have d2 : (N != (r.log.length : Int) + 1) = false := by simpa using hN1
      have d3 : decide ((4096 : Int) < N) = true := by
       rcases hbad with h | h | h | h
       ·exact absurd he h
       ·exact absurd hl1 h
       ·exact absurd hN1 h
       ·simpa using h
      clear hbad he hl1 hN1
      go_wp2_with (go_at_call 90; (with_reducible refine hEn.mono ?_); rintro e w5 ⟨rfl, hO5⟩; have hX5 := Blk.only hXW hO5 (by omega); have hZ5 := Blk.only hZW hO5 (by omega); have c5 := hX5.cell; have fx5 := hX5.frozen; have l5 := hX5.lt; have cz5 := hZ5.cell; have f5 := hZ5.frozen; have lz5 := hZ5.lt; have hb5 : Below w.heap.size w w5 := hbW.trans (hO5.below (by omega) hsW); have hs5 := hb5.size)
      refine bodyPost_cell_tmp Tryz.results55 rfl (Blk.nine hZ5) Tryz.underlying34 rfl (by kernel_rfl) rfl ?_
      have hK5 : Below w.heap.size w _ := hb5.trans (Kp.below (Kp.nine w5 (w.heap.size + 1) (.int .i64 r.id) (.int .i64 r.v.e) (.int .i64 r.v.p) (.slice Am r.v.l.length cm) (.slice Bl r.log.length dl) (.int .i64 r.joined) (.int .i64 (r.sure : Int)) (.slice Ca r.acks.length fa) (.bool r.act)) (by omega) (fun k hk => by omega))
      rw [hRP]
      exact ⟨_, _, _, rfl, hD.kp (Kp.of_below hK5), hK5⟩
     ·have d2 : (N != (r.log.length : Int) + 1) = true := by simpa using hN1
      clear hbad he hl1 hN1
      go_wp2_with (go_at_call 90; (with_reducible refine hEn.mono ?_); rintro e w5 ⟨rfl, hO5⟩; have hX5 := Blk.only hXW hO5 (by omega); have hZ5 := Blk.only hZW hO5 (by omega); have c5 := hX5.cell; have fx5 := hX5.frozen; have l5 := hX5.lt; have cz5 := hZ5.cell; have f5 := hZ5.frozen; have lz5 := hZ5.lt; have hb5 : Below w.heap.size w w5 := hbW.trans (hO5.below (by omega) hsW); have hs5 := hb5.size)
      refine bodyPost_cell_tmp Tryz.results55 rfl (Blk.nine hZ5) Tryz.underlying34 rfl (by kernel_rfl) rfl ?_
      have hK5 : Below w.heap.size w _ := hb5.trans (Kp.below (Kp.nine w5 (w.heap.size + 1) (.int .i64 r.id) (.int .i64 r.v.e) (.int .i64 r.v.p) (.slice Am r.v.l.length cm) (.slice Bl r.log.length dl) (.int .i64 r.joined) (.int .i64 (r.sure : Int)) (.slice Ca r.acks.length fa) (.bool r.act)) (by omega) (fun k hk => by omega))
      rw [hRP]
      exact ⟨_, _, _, rfl, hD.kp (Kp.of_below hK5), hK5⟩
    ·have d1 : ((L.1.length : Int) != 1) = true := by simp; omega
     clear hbad he hl1
     go_wp2_with (go_at_call 90; (with_reducible refine hEn.mono ?_); rintro e w5 ⟨rfl, hO5⟩; have hX5 := Blk.only hXW hO5 (by omega); have hZ5 := Blk.only hZW hO5 (by omega); have c5 := hX5.cell; have fx5 := hX5.frozen; have l5 := hX5.lt; have cz5 := hZ5.cell; have f5 := hZ5.frozen; have lz5 := hZ5.lt; have hb5 : Below w.heap.size w w5 := hbW.trans (hO5.below (by omega) hsW); have hs5 := hb5.size)
     refine bodyPost_cell_tmp Tryz.results55 rfl (Blk.nine hZ5) Tryz.underlying34 rfl (by kernel_rfl) rfl ?_
     have hK5 : Below w.heap.size w _ := hb5.trans (Kp.below (Kp.nine w5 (w.heap.size + 1) (.int .i64 r.id) (.int .i64 r.v.e) (.int .i64 r.v.p) (.slice Am r.v.l.length cm) (.slice Bl r.log.length dl) (.int .i64 r.joined) (.int .i64 (r.sure : Int)) (.slice Ca r.acks.length fa) (.bool r.act)) (by omega) (fun k hk => by omega))
     rw [hRP]
     exact ⟨_, _, _, rfl, hD.kp (Kp.of_below hK5), hK5⟩
   ·have he' : (EP.e != 0) = true := by simpa using he
    clear hbad he
    go_wp2_with (go_at_call 90; (with_reducible refine hEn.mono ?_); rintro e w5 ⟨rfl, hO5⟩; have hX5 := Blk.only hXW hO5 (by omega); have hZ5 := Blk.only hZW hO5 (by omega); have c5 := hX5.cell; have fx5 := hX5.frozen; have l5 := hX5.lt; have cz5 := hZ5.cell; have f5 := hZ5.frozen; have lz5 := hZ5.lt; have hb5 : Below w.heap.size w w5 := hbW.trans (hO5.below (by omega) hsW); have hs5 := hb5.size)
    refine bodyPost_cell_tmp Tryz.results55 rfl (Blk.nine hZ5) Tryz.underlying34 rfl (by kernel_rfl) rfl ?_
    have hK5 : Below w.heap.size w _ := hb5.trans (Kp.below (Kp.nine w5 (w.heap.size + 1) (.int .i64 r.id) (.int .i64 r.v.e) (.int .i64 r.v.p) (.slice Am r.v.l.length cm) (.slice Bl r.log.length dl) (.int .i64 r.joined) (.int .i64 (r.sure : Int)) (.slice Ca r.acks.length fa) (.bool r.act)) (by omega) (fun k hk => by omega))
    rw [hRP]
    exact ⟨_, _, _, rfl, hD.kp (Kp.of_below hK5), hK5⟩
  ·rw [if_neg hbad] at hRP
   have he : EP.e = 0 := Classical.byContradiction fun h => hbad (.inl h)
   have he' : (EP.e != 0) = false := by simp [he]
   have hl1 : L.1.length = 1 := Classical.byContradiction fun h => hbad (.inr (.inl h))
   have d1 : ((L.1.length : Int) != 1) = false := by simp; omega
   have hN1 : N = (r.log.length : Int) + 1 := Classical.byContradiction fun h => hbad (.inr (.inr (.inl h)))
   have d2 : (N != (r.log.length : Int) + 1) = false := by simpa using hN1
   have hN2 : ¬4096 < N := fun h => hbad (.inr (.inr (.inr h)))
   have d3 : decide ((4096 : Int) < N) = false := by simpa using hN2
   have hlt : r.log.length < 4096 := by omega
   clear hbad he hN1 hN2
   go_upto_region 17 with (go_at_call 90; (with_reducible refine hEn.mono ?_); rintro e w5 ⟨rfl, hO5⟩; have hX5 := Blk.only hXW hO5 (by omega); have hZ5 := Blk.only hZW hO5 (by omega); have c5 := hX5.cell; have fx5 := hX5.frozen; have l5 := hX5.lt; have cz5 := hZ5.cell; have f5 := hZ5.frozen; have lz5 := hZ5.lt; have hb5 : Below w.heap.size w w5 := hbW.trans (hO5.below (by omega) hsW); have hs5 := hb5.size)
   obtain ⟨x, hx⟩ := List.length_eq_one_iff.1 hl1
   have ho5 := ho4.only hO5 (by omega)
   rw [hx] at ho5 hRP
   have hE5 : Ents w5 (fun k => T k ∨ (w.heap.size ≤ k ∧ k ≤ w.heap.size + 2)) A4 1 [x] := OwnD.ents (c := c4) ho5 rfl (fun k hk => hk.elim (fun h => by have := hTl k h; omega) (fun h => by omega)) (fun k hk => .inl (hk.elim (fun h => by have := hTl k h; omega) (fun h => by omega)))
   obtain ⟨b, o, a4, c4', y, rfl, hbl, hg, hxo, q1, q2, hBT⟩ := hE5.at_ (show 0 < 1 by omega)
   obtain rfl : y = x := by simpa using hg.symm
   have ql := hbl
   simp only [Nat.zero_mul, Nat.zero_add, Nat.add_zero] at q1 q2
   have hs45 := hO5.size
   have hDT5 := hDT.kp (Kp.of_below hb5)
   have hT5 : ∀ k, (T k ∨ (w.heap.size ≤ k ∧ k ≤ w.heap.size + 2)) → k < w5.heap.size := fun k hk => hk.elim (fun h => by have := hTl k h; omega) (fun h => by omega)
   have hWi := fun V : Ext => dwith_any (T := fun k => T k ∨ (w.heap.size ≤ k ∧ k ≤ w.heap.size + 2)) Bl r.log.length dl r.log y (.slice a4 y.t.length c4') (w5.ext V) ((hDT5.log' ).kp (Kp.of_below (World.below_ext w5 V))) (hBT.kp (Kp.of_below (World.below_ext w5 V))) hxo (fun k hk => by have := hT5 k hk; have := (World.below_ext w5 V).size; omega) (by omega)
   clear hEn ho4 hO5 hl1 d1 d2 d3 he' hE5 ho5 hXW hZW
   refine First.wp_region_first_ext [1, 4] [0, 2, 3, 6] [(true, false, 0), (true, true, 1), (true, false, 2), (true, false, 3), (true, true, 4), (false, false, 5), (true, false, 6), (false, false, 7)] (by kernel_rfl) (by kernel_rfl) (fun V => ?_); simp only [List.map_cons, List.map_nil, List.getD_cons_zero, List.getD_cons_succ]
   (repeat (first | (refine wfp fun K hK => ?_; go_simp; refine hK _ _ ?_; clear hK K) | (refine wff fun K hK => ?_; go_simp; refine hK _ _ ?_; clear hK K)))
   refine First.wpF_must (fun K hK => ?_)
   go_wp2_with (go_at_call 39; (with_reducible refine (hWi V).mono ?_); rintro e w6 ⟨A6, c6, ⟨rfl, hcap6⟩, hE6, hbb6⟩)
   have hgr6 : First.Grown _ w6 := World.ext_of_below hbb6
   (refine hK _ _ (fun hnd => by first | exact Bool.noConfusion hnd | assumption | with_reducible (first | exact grown_alloc _ _ | exact First.Grown.refl _ | exact First.Grown.cat _ _ _ | exact First.Grown.ext _ _)) ?_; clear hK K)
   have hbV : Below w5.heap.size w5 (w5.ext V) := World.below_ext w5 V
   have hbb56 : Below w5.heap.size w5 w6 := hbV.trans (hbb6.mono (by simp [World.size_ext]))
   have hX6 := hX5.below hbb56 l5
   have hZ6 := hZ5.below hbb56 lz5
   have c6x := hX6.cell
   have f6x := hX6.frozen
   have l6x := hX6.lt
   have c6z := hZ6.cell
   have f6z := hZ6.frozen
   have l6z := hZ6.lt
   have hb6 : Below w.heap.size w w6 := hb5.trans (hbb56.mono hs5)
   have hs6 := hb6.size
   (repeat (first | (refine wfp fun K hK => ?_; go_simp; refine hK _ _ ?_; clear hK K) | (refine wff fun K hK => ?_; go_simp; refine hK _ _ ?_; clear hK K)))
   refine First.wpF_must (fun K hK => ?_)
   go_wp2
   (refine hK _ _ (fun hnd => by first | exact Bool.noConfusion hnd | assumption | with_reducible (first | exact grown_alloc _ _ | exact First.Grown.refl _ | exact First.Grown.cat _ _ _ | exact First.Grown.ext _ _)) ?_; clear hK K)
   refine First.wpF_nil ?_
   go_wp2
   have hX7 := hX6.set_ 4 (.slice A6 (r.log.length + 1) c6)
   have hZ7 := hZ6.far (p := ⟨w.heap.size, 4, none⟩) (by show w.heap.size + 1 ≠ w.heap.size; omega) (.slice A6 (r.log.length + 1) c6)
   have hD7 := ((hDT.kp (Kp.of_below hb6)).relog (l := r.log ++ [y]) (c := c6) (by rw [List.length_append]; exact hE6) (by rw [List.length_append]; exact hcap6) r.joined).kp ((Kp.put w6 w.heap.size 4 (.slice A6 (r.log.length + 1) c6)).weaken (fun k hk => .inr (by omega)))
   have hb7 := hb6.setCell (p := ⟨w.heap.size, 4, none⟩) (by show w.heap.size ≤ w.heap.size; omega) (.slice A6 (r.log.length + 1) c6)
   refine bodyPost_cell_tmp Tryz.results55 rfl (Blk.nine hZ7) Tryz.underlying34 rfl (by kernel_rfl) rfl ?_
   rw [hRP]
   have hll : (r.log ++ [y]).length = r.log.length + 1 := by rw [List.length_append]; rfl
   rw [hll] at hD7
   refine ⟨_, _, _, rfl, ?_, hb7.trans (Kp.below (Kp.nine _ (w.heap.size + 1) _ _ _ _ _ _ _ _ _) hb7.size (fun k hk => by omega))⟩
   exact (hD7.kp ((Kp.nine _ (w.heap.size + 1) _ _ _ _ _ _ _ _ _).weaken (fun k hk => .inr (by omega)))).sub fun k _ hk => .inl hk
 ·have k2' : (ki == 2) = false := by simp; omega
  have k2n : (ki != 2) = true := by simp; omega
  have k3n : (ki != 3) = true := by simp; omega
  rw [if_neg k2, if_neg k3] at hRP
  clear hI hGl hq2
  have hX5 := hX2
  have c5 := hX5.cell
  have fx5 := hX5.frozen
  have l5 := hX5.lt
  have hZ5 := hZ2
  have cz5 := hZ5.cell
  have f5 := hZ5.frozen
  have lz5 := hZ5.lt
  have hb5 := hb2
  have hs5 := hs2
  clear hX2 hZ2 hM2
  obtain ⟨w5, rfl⟩ : ∃ w5 : World, w5 = w2 := ⟨_, rfl⟩
  go_wp2
  refine bodyPost_cell_tmp Tryz.results55 rfl (Blk.nine hZ5) Tryz.underlying34 rfl (by kernel_rfl) rfl ?_
  have hK5 : Below w.heap.size w _ := hb5.trans (Kp.below (Kp.nine w5 (w.heap.size + 1) (.int .i64 r.id) (.int .i64 r.v.e) (.int .i64 r.v.p) (.slice Am r.v.l.length cm) (.slice Bl r.log.length dl) (.int .i64 r.joined) (.int .i64 (r.sure : Int)) (.slice Ca r.acks.length fa) (.bool r.act)) (by omega) (fun k hk => by omega))
  rw [hRP]
  exact ⟨_, _, _, rfl, hD.kp (Kp.of_below hK5), hK5⟩
end Go.Proofs.YtjhcgnmibnjocaaGreat

namespace Go.Proofs.YtjhcgnmibnjocaaGreat
open Go.RowKit Go.Maps
attribute [local irreducible] First.wpF
theorem ok_vl {r : Rl} (h : r.ok) : r.v.l.length ≤ 8 := by
 rcases h.v with e | e
 ·rw [e]; simp [Vi.none]
 ·exact rising_len (right_bd e).2.2.1
def DLoaded (o : Option Rl) (w' : World) (T : Nat → Prop) (e : Ending) : Prop := match o with
 | none => e = .returned (.tuple #[.agg #[.int .i64 0, .int .i64 0, .int .i64 0, .slice none 0 0, .slice none 0 0, .int .i64 0, .int .i64 0, .slice none 0 0, .bool false], .int .i64 200])
 | some r => ∃ vm vl va, e = .returned (.tuple #[.agg #[.int .i64 (loadedP r).id, .int .i64 (loadedP r).v.e, .int .i64 (loadedP r).v.p, vm, vl, .int .i64 (loadedP r).joined, .int .i64 ((loadedP r).sure : Int), va, .bool (loadedP r).act], .int .i64 0]) ∧ DrW w' T vm vl va (loadedP r)
theorem dloaded_some {r : Rl} {w' : World} {T : Nat → Prop} {e : Ending} (h : ∃ vm vl va, e = .returned (.tuple #[.agg #[.int .i64 (loadedP r).id, .int .i64 (loadedP r).v.e, .int .i64 (loadedP r).v.p, vm, vl, .int .i64 (loadedP r).joined, .int .i64 ((loadedP r).sure : Int), va, .bool (loadedP r).act], .int .i64 0]) ∧ DrW w' T vm vl va (loadedP r)) : DLoaded (some r) w' T e := h
theorem DrW.new (w : World) (T : Nat → Prop) (id : Int) : DrW w T (.slice none 0 0) (.slice none 0 0) (.slice none 0 0) (newP id) :=
 ⟨⟨none, 0, rfl, Reads.none_, fun h => absurd h (by simp [newP, Vi.none])⟩, ⟨none, 0, ⟨rfl, Nat.le_refl _⟩, Ents.nil _ _⟩, none, 0, rfl, Reads.none_, fun h => absurd h (by simp [newP])⟩
set_option maxRecDepth 100000 in
set_option maxHeartbeats 4000000 in
theorem dload_any {T T0 : Nat → Prop} (id : Int) (A : Option Addr) (n c : Nat) (l : List (List Nat)) (w : World) (h : 0 ≤ id ∧ id < 8) (hR : Recs w T0 A n l) (hTl : ∀ k, T k → k < w.heap.size) (hn : n ≤ 9223372036854775807) (hb : ∀ b ∈ l, b.length ≤ 1000000) :
  Calls Tryz.prog 21 #[.int .i64 id, .slice A n c] w fun e w' => Below w.heap.size w w' ∧ DLoaded (restores (newP id) l) w' T e := by
 obtain ⟨RS, hRS⟩ : ∃ RS, RS = restores (newP id) l := ⟨_, rfl⟩
 rw [← hRS]
 have d0 : decide (id < 0) = false := by simpa using h.1
 have d1 : decide ((8 : Int) ≤ id) = false := by simp; omega
 have hZ0 := (Blk.new w 34 #[.int .i64 0, .int .i64 0, .int .i64 0, .slice none 0 0, .slice none 0 0, .int .i64 0, .int .i64 0, .slice none 0 0, .bool false]).alloc (.cells #[.int .i64 id, .int .i64 0, .int .i64 0, .slice none 0 0, .slice none 0 0, .int .i64 0, .int .i64 0, .slice none 0 0, .bool false] 34)
 have hX0 := Blk.made w (.cells #[.int .i64 0, .int .i64 0, .int .i64 0, .slice none 0 0, .slice none 0 0, .int .i64 0, .int .i64 0, .slice none 0 0, .bool false] 34) 34 #[.int .i64 id, .int .i64 0, .int .i64 0, .slice none 0 0, .slice none 0 0, .int .i64 0, .int .i64 0, .slice none 0 0, .bool false]
 have hb0 : Below w.heap.size w ((w.alloc (.cells #[.int .i64 0, .int .i64 0, .int .i64 0, .slice none 0 0, .slice none 0 0, .int .i64 0, .int .i64 0, .slice none 0 0, .bool false] 34)).alloc (.cells #[.int .i64 id, .int .i64 0, .int .i64 0, .slice none 0 0, .slice none 0 0, .int .i64 0, .int .i64 0, .slice none 0 0, .bool false] 34)) := (Below.alloc (Below.refl _ _) (Nat.le_refl _) _).alloc (by simp) _
 have H := hide (⟨hZ0, hX0, hb0, h⟩ : _ ∧ _ ∧ _ ∧ _)
 clear hZ0 hX0 hb0 h
 go_enter Tryz.func21, Tryz.ntmps21
 go_upto_region 4 with fail
 obtain ⟨hZ0, hX0, hb0, h⟩ := H.out
 clear H
 refine abstr (fun W => ∃ r : Rl, r = newP id ∧ Blk W w.heap.size 34 #[.int .i64 0, .int .i64 0, .int .i64 0, .slice none 0 0, .slice none 0 0, .int .i64 0, .int .i64 0, .slice none 0 0, .bool false] ∧ Blk W (w.heap.size + 1) 34 #[.int .i64 r.id, .int .i64 r.v.e, .int .i64 r.v.p, (.slice none 0 0), (.slice none 0 0), .int .i64 r.joined, .int .i64 (r.sure : Int), (.slice none 0 0), .bool r.act] ∧ Below w.heap.size w W) ⟨_, rfl, hZ0, hX0, hb0⟩ (fun W hW => ?_)
 clear hZ0 hX0 hb0
 obtain ⟨r0, hr0, hZ1, hX1, hb1⟩ := hW
 obtain ⟨T', hT'⟩ : ∃ T' : Nat → Prop, T' = fun k => T k ∨ (w.heap.size ≤ k ∧ k ≤ w.heap.size + 1) := ⟨_, rfl⟩
 have hsX := hX1.lt
 have hT1 : ∀ W : World, Below w.heap.size w W → w.heap.size + 1 < W.heap.size → ∀ k, T' k → k < W.heap.size := fun W h1 h2 k hk => by
  rw [hT'] at hk
  exact hk.elim (fun h => by have := hTl k h; omega) (fun h => by omega)
 have hTp : T' w.heap.size := by rw [hT']; exact .inr (by omega)
 have hTq : T' (w.heap.size + 1) := by rw [hT']; exact .inr (by omega)
 have hTT : ∀ k, T k → T' k := fun k hk => by rw [hT']; exact .inl hk
 have hTb : ∀ k, w.heap.size ≤ k → T' k → k = w.heap.size ∨ k = w.heap.size + 1 := fun k hb hk => by
  rw [hT'] at hk
  exact hk.elim (fun h => by have := hTl k h; omega) (fun h => by omega)
 have hD1 : DrW W T' (.slice none 0 0) (.slice none 0 0) (.slice none 0 0) r0 := by rw [hr0]; exact DrW.new W T' id
 have hok1 : r0.ok := by rw [hr0]; exact newP_ok h
 have hid0 : r0.id = id := by rw [hr0]; rfl
 rw [← hr0] at hRS
 clear hr0 hT' h
 go_wp2
 go_loopw [7] (fun vi wr => ∃ (j : Nat) (r : Rl) (vm vl va : Value), j ≤ n ∧ vi = .int .i64 (j : Int) ∧ Blk wr w.heap.size 34 #[.int .i64 0, .int .i64 0, .int .i64 0, .slice none 0 0, .slice none 0 0, .int .i64 0, .int .i64 0, .slice none 0 0, .bool false] ∧ Blk wr (w.heap.size + 1) 34 #[.int .i64 r.id, .int .i64 r.v.e, .int .i64 r.v.p, vm, vl, .int .i64 r.joined, .int .i64 (r.sure : Int), va, .bool r.act] ∧ DrW wr T' vm vl va r ∧ r.ok ∧ Hid (r.id = id) ∧ RS = restores r (l.drop j) ∧ Below w.heap.size w wr) (fun vi _ => ((n : Int) - intOf vi).toNat)
 case atStart => exact ⟨0, r0, _, _, _, by omega, rfl, hZ1, hX1, hD1, hok1, hide hid0, hRS, hb1⟩
 case round =>
  clear hZ1 hX1 hD1 hok1 hid0 hRS hb1 hsX d0 d1
  obtain ⟨j, r, vm, vl, va, hj, rfl, hZ, hX, hD, hok, hid, hE, hbo⟩ := hrel
  obtain ⟨wo, rfl⟩ : ∃ wo : World, wo = wr := ⟨_, rfl⟩
  have hso := hbo.size
  have lX := hX.lt
  have lZ := hZ.lt
  have hD0 := hD
  obtain ⟨Am, cm, Bl, dl, Ca, fa, rfl, rfl, rfl⟩ := hD.sl
  by_cases hlt : j < n
  ·have hlj : (j : Int) < n := by omega
   obtain ⟨⟨ms, hms, hr, hm⟩, hln, hnt⟩ := hR
   obtain ⟨b, o, rfl, hbl, hcc⟩ := hr.plain (by omega) (by omega)
   have hml : ms.length = n := by rw [← hln, ← hms, List.length_map]
   have hjm : j < ms.length := by omega
   have hg : ms[j]? = some (ms[j]'hjm) := List.getElem?_eq_getElem hjm
   have hB := hm _ (List.getElem_mem hjm)
   have m1 : wo.cell? ⟨b, o + j, none⟩ = some (ms[j]'hjm).2 := by
    rw [hbo.cell (p := ⟨b, o + j, none⟩) hbl]
    exact hcc _ _ (by rw [List.getElem?_map, hg]; rfl)
   have hdr : l.drop j = (ms[j]'hjm).1 :: l.drop (j + 1) := by
    have hlt2 : j < l.length := by omega
    rw [List.drop_eq_getElem_cons hlt2]
    congr 1
    have : l[j]? = some (ms[j]'hjm).1 := by rw [← hms, List.getElem?_map, hg]; rfl
    rw [List.getElem?_eq_getElem hlt2] at this
    exact Option.some.inj this
   have hbn := hb (ms[j]'hjm).1 (by rw [← hms]; exact List.mem_map_of_mem (List.getElem_mem hjm))
   generalize ms[j]'hjm = y at *
   obtain ⟨bs, u⟩ := y
   simp only at hB m1 hdr hbn
   have hBo := hB.kp (Kp.of_below hbo)
   have hRes := fun (T2 : Nat → Prop) W h1 h2 h3 => drestore_any (T := T2) (T0 := T0) r (.slice Am r.v.l.length cm) (.slice Bl r.log.length dl) (.slice Ca r.acks.length fa) u bs W h1 hok (by have := ok_vl hok; omega) h2 h3 hbn
   rw [hdr] at hE
   unfold restores at hE
   obtain ⟨uA, un, uc, hu⟩ := hB.sl
   have hbw : b < wo.heap.size := by omega
   rw [hu] at m1 hRes hBo
   clear hr hm hcc hg hms hB
   have hrid := fun r' => restore_id (r := r) (bs := bs) (r' := r')
   have hrok0 := restore_ok hok hBo.by_
   generalize hrp : restoreP r bs = RP at *
   have cX := hX.cell
   go_upto_region 7 with fail
   have hHid := hide (⟨hE, hrid⟩ : _ ∧ _)
   clear hE hrid
   go_cut [8, 9] (fun s8 s9 wx => ∃ (q : Nat) (vm vl va : Value), s8 = .pointer (some ⟨q, 0, none⟩) ∧ s9 = .bool RP.isSome ∧ Blk wx q 34 #[.int .i64 (RP.getD r).id, .int .i64 (RP.getD r).v.e, .int .i64 (RP.getD r).v.p, vm, vl, .int .i64 (RP.getD r).joined, .int .i64 ((RP.getD r).sure : Int), va, .bool (RP.getD r).act] ∧ DrW wx T' vm vl va (RP.getD r) ∧ wo.heap.size ≤ q ∧ Below wo.heap.size wo wx)
   case first =>
    clear hHid
    refine First.wp_region_tree_ext [0, 4] [1, 2, 3, 6, 7, 8] (.fork [(true, true, 0), (true, false, 1), (true, false, 2), (true, false, 3), (true, true, 4)] false 5 (.leaf [(true, false, 6), (true, false, 7), (true, false, 8), (false, false, 9), (false, false, 10), (false, false, 11)]) true 9 (.leaf [(false, false, 5), (true, false, 6), (true, false, 7), (true, false, 8), (false, false, 10), (false, false, 11)])) (by kernel_rfl) (by kernel_rfl) (fun X => ?_); simp only [First.wpT, List.map_cons, List.map_nil, List.getD_cons_zero, List.getD_cons_succ]
    have hbX := World.below_ext wo X
    have hsX := hbX.size
    (repeat (first | (refine wfp fun K hK => ?_; go_simp; refine hK _ _ ?_; clear hK K) | (refine wff fun K hK => ?_; go_simp; refine hK _ _ ?_; clear hK K)))
    refine First.wpF_nil ?_
    refine First.Both.mk ?_ ?_
    ·refine First.wpF_must (fun K hK => ?_)
     go_wp2_with (go_at_call 55; go_loud (with_reducible refine (hRes T' (wo.ext X) (hD0.kp (Kp.of_below hbX)) (fun k hk => by have := hT1 wo hbo lX k hk; omega) (hBo.kp (Kp.of_below hbX))).mono ?_); rintro e w5 ⟨vm5, vl5, va5, rfl, hD5, hb5⟩; obtain ⟨Am5, cm5, Bl5, dl5, Ca5, fa5, rfl, rfl, rfl⟩ := hD5.sl)
     have hgr5 : First.Grown _ w5 := World.ext_of_below hb5
     (refine hK _ _ (fun hnd => by first | exact Bool.noConfusion hnd | assumption | with_reducible (first | exact grown_alloc _ _ | exact First.Grown.refl _ | exact First.Grown.cat _ _ _ | exact First.Grown.ext _ _)) ?_; clear hK K)
     refine First.wpF_nil ?_
     (repeat (first | (refine wfp fun K hK => ?_; go_simp; refine hK _ _ ?_; clear hK K) | (refine wff fun K hK => ?_; go_simp; refine hK _ _ ?_; clear hK K)))
     refine First.wpF_must (fun K hK => ?_)
     go_wp2
     (refine hK _ _ (fun hnd => by first | exact Bool.noConfusion hnd | assumption | with_reducible (first | exact grown_alloc _ _ | exact First.Grown.refl _ | exact First.Grown.cat _ _ _ | exact First.Grown.ext _ _)) ?_; clear hK K)
     (repeat (first | (refine wfp fun K hK => ?_; go_simp; refine hK _ _ ?_; clear hK K) | (refine wff fun K hK => ?_; go_simp; refine hK _ _ ?_; clear hK K)))
     refine First.wpF_must (fun K hK => ?_)
     go_wp2
     (refine hK _ _ (fun hnd => by first | exact Bool.noConfusion hnd | assumption | with_reducible (first | exact grown_alloc _ _ | exact First.Grown.refl _ | exact First.Grown.cat _ _ _ | exact First.Grown.ext _ _)) ?_; clear hK K)
     (repeat (first | (refine wfp fun K hK => ?_; go_simp; refine hK _ _ ?_; clear hK K) | (refine wff fun K hK => ?_; go_simp; refine hK _ _ ?_; clear hK K)))
     refine First.wpF_must (fun K hK => ?_)
     go_wp2
     (refine hK _ _ (fun hnd => by first | exact Bool.noConfusion hnd | assumption | with_reducible (first | exact grown_alloc _ _ | exact First.Grown.refl _ | exact First.Grown.cat _ _ _ | exact First.Grown.ext _ _)) ?_; clear hK K)
     refine First.wpF_nil ?_
     go_wp2_with fail
     go_meet
     case rel =>
      have hs5 := hb5.size
      exact ⟨w5.heap.size, _, _, _, rfl, rfl, Blk.new w5 _ _, hD5.kp (Kp.of_below (Below.alloc (Below.refl _ _) (Nat.le_refl _) _)), by omega, (hbX.trans (hb5.mono hsX)).alloc (by omega) _⟩
    ·refine First.wpF_must (fun K hK => ?_)
     go_wp2
     (refine hK _ _ (fun hnd => by first | exact Bool.noConfusion hnd | assumption | with_reducible (first | exact grown_alloc _ _ | exact First.Grown.refl _ | exact First.Grown.cat _ _ _ | exact First.Grown.ext _ _)) ?_; clear hK K)
     refine First.wpF_nil ?_
     (repeat (first | (refine wfp fun K hK => ?_; go_simp; refine hK _ _ ?_; clear hK K) | (refine wff fun K hK => ?_; go_simp; refine hK _ _ ?_; clear hK K)))
     have hXx := Blk.new (wo.ext X) 34 #[.int .i64 0, .int .i64 0, .int .i64 0, .slice none 0 0, .slice none 0 0, .int .i64 0, .int .i64 0, .slice none 0 0, .bool false]
     have hbA : Below wo.heap.size wo ((wo.ext X).alloc (.cells #[.int .i64 0, .int .i64 0, .int .i64 0, .slice none 0 0, .slice none 0 0, .int .i64 0, .int .i64 0, .slice none 0 0, .bool false] 34)) := hbX.alloc hsX _
     have hRA := hRes (fun k => T' k ∨ k = (wo.ext X).heap.size) ((wo.ext X).alloc (.cells #[.int .i64 0, .int .i64 0, .int .i64 0, .slice none 0 0, .slice none 0 0, .int .i64 0, .int .i64 0, .slice none 0 0, .bool false] 34)) ((hD0.sub (fun k hk ht => ht.elim (fun h => h) (fun e => by omega))).kp (Kp.of_below hbA)) (fun k hk => hk.elim (fun h => by have := hT1 wo hbo lX k h; simp; omega) (fun e => by simp; omega)) (hBo.kp (Kp.of_below hbA))
     have hwA : (wo.ext X).heap.size = wo.heap.size + X.blocks.size := World.size_ext _ _
     rw [hwA] at hXx hRA
     refine First.wpF_must (fun K hK => ?_)
     go_wp2_with (go_at_call 55; (with_reducible refine hRA.mono ?_); rintro e w5 ⟨vm5, vl5, va5, rfl, hD5, hb5⟩; obtain ⟨Am5, cm5, Bl5, dl5, Ca5, fa5, rfl, rfl, rfl⟩ := hD5.sl)
     have hgr5 : First.Grown _ w5 := World.ext_of_below hb5
     (refine hK _ _ (fun hnd => by first | exact Bool.noConfusion hnd | assumption | with_reducible (first | exact grown_alloc _ _ | exact First.Grown.refl _ | exact First.Grown.cat _ _ _ | exact First.Grown.ext _ _)) ?_; clear hK K)
     have hX5 := hXx.below hb5 (by simp only [World.size_alloc]; omega)
     have c5 := hX5.cell
     have f5 := hX5.frozen
     have l5 := hX5.lt
     (repeat (first | (refine wfp fun K hK => ?_; go_simp; refine hK _ _ ?_; clear hK K) | (refine wff fun K hK => ?_; go_simp; refine hK _ _ ?_; clear hK K)))
     refine First.wpF_must (fun K hK => ?_)
     go_wp2
     (refine hK _ _ (fun hnd => by first | exact Bool.noConfusion hnd | assumption | with_reducible (first | exact grown_alloc _ _ | exact First.Grown.refl _ | exact First.Grown.cat _ _ _ | exact First.Grown.ext _ _)) ?_; clear hK K)
     (repeat (first | (refine wfp fun K hK => ?_; go_simp; refine hK _ _ ?_; clear hK K) | (refine wff fun K hK => ?_; go_simp; refine hK _ _ ?_; clear hK K)))
     refine First.wpF_must (fun K hK => ?_)
     go_wp2
     (refine hK _ _ (fun hnd => by first | exact Bool.noConfusion hnd | assumption | with_reducible (first | exact grown_alloc _ _ | exact First.Grown.refl _ | exact First.Grown.cat _ _ _ | exact First.Grown.ext _ _)) ?_; clear hK K)
     refine First.wpF_nil ?_
     go_wp2_with fail
     go_meet
     case rel =>
      have hs5 := hb5.size
      simp only [World.size_alloc, World.size_ext] at hs5
      have hb05 : Below wo.heap.size wo w5 := hbA.trans (hb5.mono (by simp only [World.size_alloc, World.size_ext]; omega))
      refine ⟨wo.heap.size + X.blocks.size, _, _, _, rfl, rfl, Blk.nine hX5, ?_, by omega, hb05.trans (Kp.below (Kp.nine w5 (wo.heap.size + X.blocks.size) _ _ _ _ _ _ _ _ _) hb05.size (fun k hk => by omega))⟩
      exact (hD5.kp ((Kp.nine w5 (wo.heap.size + X.blocks.size) _ _ _ _ _ _ _ _ _).weaken (fun k hk => .inr hk))).sub fun k _ hk => .inl hk
   case rest =>
    obtain ⟨q, vm5, vl5, va5, rfl, rfl, hXq, hD5, hq, hb5⟩ := hcut
    obtain ⟨hE, hrid⟩ := hHid.out
    clear hHid hRes hD0 hBo m1
    have hs5 := hb5.size
    have hXc := hX.below hb5 lX
    have hZc := hZ.below hb5 lZ
    have hb05 : Below w.heap.size w wc := hbo.trans (hb5.mono hso)
    have cq := hXq.cell
    have lq := hXq.lt
    obtain ⟨Am5, cm5, Bl5, dl5, Ca5, fa5, rfl, rfl, rfl⟩ := hD5.sl
    rcases hRP : RP with _ | r'
    ·subst hRP
     have hE' : RS = none := hE
     have cz := hZc.cell
     have fz := hZc.frozen
     have lz := hZc.lt
     clear hE
     simp only [Option.isSome_none, Option.getD_none] at *
     go_wp2
     refine bodyPost_cell_tmp Tryz.results21 rfl (Blk.nine hZc) Tryz.underlying34 rfl (by kernel_rfl) rfl ?_
     rw [hE']
     exact ⟨hb05.trans (Kp.below (Kp.nine wc w.heap.size _ _ _ _ _ _ _ _ _) hb05.size (fun k hk => by omega)), rfl⟩
    ·subst hRP
     have hE' : Hid (RS = restores r' (l.drop (j + 1))) := hide hE
     have hrok : r'.ok := hrok0 r' rfl
     have hrid' := hide (hrid r' rfl)
     have cx := hXc.cell
     have fx := hXc.frozen
     have lx := hXc.lt
     clear hE hrid
     simp only [Option.isSome_some, Option.getD_some] at *
     go_wp2
     go_roundw
     case rel =>
      refine ⟨j + 1, r', _, _, _, by omega, by go_num, Blk.kp hZc (Kp.nine wc (w.heap.size + 1) _ _ _ _ _ _ _ _ _) (by omega), Blk.nine hXc, ?_, hrok, hide (hrid'.out.trans hid.out), hE'.out, hb05.trans (Kp.below (Kp.nine wc (w.heap.size + 1) _ _ _ _ _ _ _ _ _) hb05.size (fun k hk => by omega))⟩
      exact hD5.kp ((Kp.nine wc (w.heap.size + 1) _ _ _ _ _ _ _ _ _).weaken (fun k hk => by rw [hk]; exact hTq))
     case measure => simp [intOf]; omega
  ·obtain rfl : j = n := by omega
   rw [List.drop_eq_nil_of_le (by rw [hR.len]; omega)] at hE
   simp only [restores] at hE
   have hE' := hide hE
   clear hE hR
   have hln := hok.n
   obtain ⟨r1, hr1⟩ : ∃ r1 : Rl, r1 = { r with sure := 0, act := false, acks := [] } := ⟨_, rfl⟩
   have hLP : loadedP r = settleP (if r1.leads then { r1 with acks := ackedL r1.id r1.log.length [] } else r1) := by rw [hr1]; rfl
   have hl1 : r1.log.length ≤ 4096 := by rw [hr1]; exact hln
   have hv1 : r1.v.l.length ≤ 1000000 := by rw [hr1]; have := ok_vl hok; show r.v.l.length ≤ 1000000; omega
   have ha1 : r1.acks = [] := by rw [hr1]
   have hid1 : r1.id = id := by rw [hr1]; exact hid.out
   have hX1 : Blk (((wo.setCell ⟨w.heap.size + 1, 6, none⟩ (.int .i64 0)).setCell ⟨w.heap.size + 1, 8, none⟩ (.bool false)).setCell ⟨w.heap.size + 1, 7, none⟩ (.slice none 0 0)) (w.heap.size + 1) 34 #[.int .i64 r1.id, .int .i64 r1.v.e, .int .i64 r1.v.p, (.slice Am r1.v.l.length cm), (.slice Bl r1.log.length dl), .int .i64 r1.joined, .int .i64 (r1.sure : Int), (.slice none 0 0), .bool r1.act] := by
    rw [hr1]
    exact ((hX.set_ 6 (.int .i64 0)).set_ 8 (.bool false)).set_ 7 (.slice none 0 0)
   have hZ1 := ((hZ.far (p := ⟨w.heap.size + 1, 6, none⟩) (by show w.heap.size ≠ w.heap.size + 1; omega) (.int .i64 0)).far (p := ⟨w.heap.size + 1, 8, none⟩) (by show w.heap.size ≠ w.heap.size + 1; omega) (.bool false)).far (p := ⟨w.heap.size + 1, 7, none⟩) (by show w.heap.size ≠ w.heap.size + 1; omega) (.slice none 0 0)
   have hk1 : Kp (fun k => k = w.heap.size + 1) wo _ := ((Kp.put wo (w.heap.size + 1) 6 (.int .i64 0)).trans (Kp.put _ (w.heap.size + 1) 8 (.bool false))).trans (Kp.put _ (w.heap.size + 1) 7 (.slice none 0 0))
   have hD1 : DrW (((wo.setCell ⟨w.heap.size + 1, 6, none⟩ (.int .i64 0)).setCell ⟨w.heap.size + 1, 8, none⟩ (.bool false)).setCell ⟨w.heap.size + 1, 7, none⟩ (.slice none 0 0)) T' (.slice Am r1.v.l.length cm) (.slice Bl r1.log.length dl) (.slice none 0 0) r1 := by
    have := hD0.kp (hk1.weaken (fun k hk => by rw [hk]; exact hTq))
    rw [hr1]
    exact ⟨this.mem, this.log, none, 0, rfl, Reads.none_, fun h => absurd h (by simp)⟩
   have hb1 : Below w.heap.size w (((wo.setCell ⟨w.heap.size + 1, 6, none⟩ (.int .i64 0)).setCell ⟨w.heap.size + 1, 8, none⟩ (.bool false)).setCell ⟨w.heap.size + 1, 7, none⟩ (.slice none 0 0)) := hbo.trans (Kp.below hk1 hso (fun k hk => by omega))
   have hZz := hZ.lt
   have cX := hX.cell
   have fX := hX.frozen
   go_upto_region 14 with fail
   refine abstr (fun W => Blk W (w.heap.size + 1) 34 #[.int .i64 r1.id, .int .i64 r1.v.e, .int .i64 r1.v.p, (.slice Am r1.v.l.length cm), (.slice Bl r1.log.length dl), .int .i64 r1.joined, .int .i64 (r1.sure : Int), (.slice none 0 0), .bool r1.act] ∧ Blk W w.heap.size 34 #[.int .i64 0, .int .i64 0, .int .i64 0, .slice none 0 0, .slice none 0 0, .int .i64 0, .int .i64 0, .slice none 0 0, .bool false] ∧ DrW W T' (.slice Am r1.v.l.length cm) (.slice Bl r1.log.length dl) (.slice none 0 0) r1 ∧ Below w.heap.size w W ∧ wo.heap.size ≤ W.heap.size) ⟨hX1, hZ1, hD1, hb1, by simp⟩ (fun W hW => ?_)
   clear hX1 hZ1 hD1 hb1 hk1 hX hZ hD0 cX fX hr1 hok
   obtain ⟨hX, hZ, hD, hbW, hsW'⟩ := hW
   have hsW := hbW.size
   have lX' := hX.lt
   have lZ' := hZ.lt
   have cX := hX.cell
   have hL := dleads_any r1 _ _ _ W hD
   rcases hl : r1.leads with _ | _
   ·rw [hl] at hL hLP
    simp only [Bool.false_eq_true, if_false] at hLP
    have hSt := fun W' h => dsettle_any (T := T') r1 (.slice Am r1.v.l.length cm) (.slice Bl r1.log.length dl) (.slice none 0 0) W' h hl1 (by rw [ha1]; simp) hv1 (fun x hx => by rw [ha1] at hx; cases hx)
    clear hl hid1 ha1
    go_wp2_with (first | (go_at_call 38; (with_reducible refine hL.mono ?_); rintro e w2 ⟨rfl, hb2⟩; have hX2 := hX.below hb2 lX'; have c2 := hX2.cell; have l2 := hX2.lt; have hZ2 := hZ.below hb2 lZ') | (go_at_call 41; (with_reducible refine (hSt w2 (hD.kp (Kp.of_below hb2))).mono ?_); rintro e w3 ⟨rfl, hD3, hb3⟩; have hZ3 := hZ2.below hb3 hZ2.lt; have cz := hZ3.cell; have fz := hZ3.frozen; have lz := hZ3.lt))
    refine bodyPost_cell_tmp Tryz.results21 rfl (Blk.nine hZ3) Tryz.underlying34 rfl (by kernel_rfl) rfl ?_
    rw [hE'.out]
    have hb03 : Below w.heap.size w w3 := (hbW.trans (hb2.mono hsW)).trans (hb3.mono (by have := hb2.size; omega))
    refine ⟨hb03.trans (Kp.below (Kp.nine w3 w.heap.size _ _ _ _ _ _ _ _ _) hb03.size (fun k hk => by omega)), ?_⟩
    refine dloaded_some ?_
    rw [hLP]
    exact ⟨_, _, _, rfl, (hD3.kp ((Kp.nine w3 w.heap.size _ _ _ _ _ _ _ _ _).weaken (fun k hk => by rw [hk]; exact hTp))).sub fun k _ hk => hTT k hk⟩
   ·rw [hl] at hL hLP
    simp only [if_true] at hLP
    obtain ⟨AL, hAL⟩ : ∃ AL, AL = ackedL r1.id r1.log.length [] := ⟨_, rfl⟩
    have hal1 : AL.length ≤ 1000 ∧ ∀ x ∈ AL, x.2 ≤ 4096 := by
     rw [hAL]
     refine ⟨by simp [ackedL], fun x hx => ?_⟩
     simp only [ackedL, List.filter_nil, List.mem_cons, List.not_mem_nil, or_false] at hx
     rw [hx]
     exact hl1
    have hAk : ∀ W', DrW W' T' (.slice Am r1.v.l.length cm) (.slice Bl r1.log.length dl) (.slice none 0 0) r1 → (∀ k, T' k → k < W'.heap.size) → Calls Tryz.prog 40 #[.agg #[.int .i64 r1.id, .int .i64 r1.v.e, .int .i64 r1.v.p, (.slice Am r1.v.l.length cm), (.slice Bl r1.log.length dl), .int .i64 r1.joined, .int .i64 (r1.sure : Int), (.slice none 0 0), .bool r1.act], .int .i64 id, .int .i64 (r1.log.length : Int)] W' fun e w' => ∃ va', e = .returned (.agg #[.int .i64 r1.id, .int .i64 r1.v.e, .int .i64 r1.v.p, (.slice Am r1.v.l.length cm), (.slice Bl r1.log.length dl), .int .i64 r1.joined, .int .i64 (r1.sure : Int), va', .bool r1.act]) ∧ DrW w' T' (.slice Am r1.v.l.length cm) (.slice Bl r1.log.length dl) va' { r1 with acks := AL } ∧ Below W'.heap.size W' w' := fun W' h h2 => by
     have := dacked_any (T := T') r1 r1.id r1.log.length _ _ _ W' h h2 (by rw [ha1]; simp)
     rw [ha1, hid1] at this
     rw [hAL, hid1]
     exact this
    rw [← hAL] at hLP
    have hSt : ∀ W' va', DrW W' T' (.slice Am r1.v.l.length cm) (.slice Bl r1.log.length dl) va' { r1 with acks := AL } → Calls Tryz.prog 41 #[.agg #[.int .i64 r1.id, .int .i64 r1.v.e, .int .i64 r1.v.p, (.slice Am r1.v.l.length cm), (.slice Bl r1.log.length dl), .int .i64 r1.joined, .int .i64 (r1.sure : Int), va', .bool r1.act]] W' _ := fun W' va' h => dsettle_any (T := T') { r1 with acks := AL } (.slice Am r1.v.l.length cm) (.slice Bl r1.log.length dl) va' W' h hl1 hal1.1 hv1 hal1.2
    clear hl hid1 ha1 hAL hal1
    go_upto_region 16 with (first | (go_at_call 38; (with_reducible refine hL.mono ?_); rintro e w2 ⟨rfl, hb2⟩; have hX2 := hX.below hb2 lX'; have c2 := hX2.cell; have l2 := hX2.lt; have hZ2 := hZ.below hb2 lZ') | (go_at_call 40; (with_reducible refine (hAk w2 (hD.kp (Kp.of_below hb2)) (fun k hk => by have := hT1 wo hbo lX k hk; have := hb2.size; omega)).mono ?_); rintro e w3 ⟨va3, rfl, hD3, hb3⟩; obtain ⟨_, _, _, _, C3, f3, -, -, rfl⟩ := hD3.sl; have hX3 := hX2.below hb3 hX2.lt; have c3 := hX3.cell; have f3' := hX3.frozen; have l3 := hX3.lt; have hZ3 := hZ2.below hb3 hZ2.lt))
    have hb03 : Below w.heap.size w w3 := (hbW.trans (hb2.mono hsW)).trans (hb3.mono (by have := hb2.size; omega))
    have hk3 := fun a b c d e f g h i => Kp.nine w3 (w.heap.size + 1) a b c d e f g h i
    refine abstr (fun W4 => Blk W4 (w.heap.size + 1) 34 #[.int .i64 r1.id, .int .i64 r1.v.e, .int .i64 r1.v.p, (.slice Am r1.v.l.length cm), (.slice Bl r1.log.length dl), .int .i64 r1.joined, .int .i64 (r1.sure : Int), (.slice C3 AL.length f3), .bool r1.act] ∧ Blk W4 w.heap.size 34 #[.int .i64 0, .int .i64 0, .int .i64 0, .slice none 0 0, .slice none 0 0, .int .i64 0, .int .i64 0, .slice none 0 0, .bool false] ∧ DrW W4 T' (.slice Am r1.v.l.length cm) (.slice Bl r1.log.length dl) (.slice C3 AL.length f3) { r1 with acks := AL } ∧ Below w.heap.size w W4) ⟨Blk.nine hX3, Blk.kp hZ3 (Kp.nine w3 (w.heap.size + 1) _ _ _ _ _ _ _ _ _) (by omega), hD3.kp ((Kp.nine w3 (w.heap.size + 1) _ _ _ _ _ _ _ _ _).weaken (fun k hk => by rw [hk]; exact hTq)), hb03.trans (Kp.below (Kp.nine w3 (w.heap.size + 1) _ _ _ _ _ _ _ _ _) hb03.size (fun k hk => by omega))⟩ (fun W4 hW4 => ?_)
    clear hX2 hZ2 hX3 hZ3 hb03 hk3 hD3 hb2 hb3 c2 c3 l2 l3 f3' hX hZ hD cX hL hbW hAk
    obtain ⟨hX4, hZ4, hD4, hb4⟩ := hW4
    have c4 := hX4.cell
    have l4 := hX4.lt
    have lz4 := hZ4.lt
    go_wp2_with (go_at_call 41; (with_reducible refine (hSt W4 _ hD4).mono ?_); rintro e w5 ⟨rfl, hD5, hb5⟩; have hZ5 := hZ4.below hb5 lz4; have cz := hZ5.cell; have fz := hZ5.frozen; have lz := hZ5.lt)
    refine bodyPost_cell_tmp Tryz.results21 rfl (Blk.nine hZ5) Tryz.underlying34 rfl (by kernel_rfl) rfl ?_
    rw [hE'.out]
    have hb05 : Below w.heap.size w w5 := hb4.trans (hb5.mono hb4.size)
    refine ⟨hb05.trans (Kp.below (Kp.nine w5 w.heap.size _ _ _ _ _ _ _ _ _) hb05.size (fun k hk => by omega)), ?_⟩
    refine dloaded_some ?_
    rw [hLP]
    exact ⟨_, _, _, rfl, (hD5.kp ((Kp.nine w5 w.heap.size _ _ _ _ _ _ _ _ _).weaken (fun k hk => by rw [hk]; exact hTp))).sub fun k _ hk => hTT k hk⟩
end Go.Proofs.YtjhcgnmibnjocaaGreat

namespace Go.Proofs.YtjhcgnmibnjocaaGreat
open Go.RowKit Go.Maps
attribute [local irreducible] First.wpF
set_option maxRecDepth 100000 in
set_option maxHeartbeats 4000000 in
theorem dsave_any {T : Nat → Prop} (r : Rl) (vm vl va : Value) (w : World) (h : DrW w T vm vl va r) (hok : r.ok) :
  Calls Tryz.prog 19 #[.agg #[.int .i64 r.id, .int .i64 r.v.e, .int .i64 r.v.p, vm, vl, .int .i64 r.joined, .int .i64 (r.sure : Int), va, .bool r.act]] w fun e w' => ∃ A c, e = .returned (.slice A (saveP r).length c) ∧ Recs w' (fun k => k < w.heap.size) A (saveP r).length (saveP r) ∧ Below w.heap.size w w' := by
 have hD := h
 obtain ⟨Am, cm, Bl, dl, Ca, fa, rfl, rfl, rfl⟩ := h.sl
 obtain ⟨⟨Am', cm', e', hrm, _⟩, ⟨Bl', dl', ⟨e'', _⟩, hEr⟩, _⟩ := h
 simp only [Value.slice.injEq] at e' e''
 obtain ⟨rfl, -, rfl⟩ := e'
 obtain ⟨rfl, -, rfl⟩ := e''
 have hj := hok.j
 have hji : I64 r.joined := by unfold I64; omega
 have hln := hok.n
 have hrl := fun W h => drecLog_any (T := fun k => w.heap.size ≤ k) r.joined Bl r.log.length dl r.log W h hok.n hji
 have hrb := recLog_by hji hok.log hok.n
 obtain ⟨SP, hSP⟩ : ∃ SP, SP = saveP r := ⟨_, rfl⟩
 rw [← hSP]
 unfold saveP at hSP
 obtain ⟨R2, hR2⟩ : ∃ R2, R2 = if 0 < r.log.length ∨ 0 < r.joined then [recLogP r.joined r.log] else [] := ⟨_, rfl⟩
 rw [← hR2] at hSP
 have hB0 := Blk.new w 34 #[.int .i64 r.id, .int .i64 r.v.e, .int .i64 r.v.p, (.slice Am r.v.l.length cm), (.slice Bl r.log.length dl), .int .i64 r.joined, .int .i64 (r.sure : Int), (.slice Ca r.acks.length fa), .bool r.act]
 have hb0 : Below w.heap.size w (w.alloc (.cells #[.int .i64 r.id, .int .i64 r.v.e, .int .i64 r.v.p, (.slice Am r.v.l.length cm), (.slice Bl r.log.length dl), .int .i64 r.joined, .int .i64 (r.sure : Int), (.slice Ca r.acks.length fa), .bool r.act] 34)) := Below.alloc (Below.refl _ _) (Nat.le_refl _) _
 by_cases hv : 0 < r.v.e
 ·have d1 : decide ((0 : Int) < r.v.e) = true := by simpa using hv
  have hvr : r.v.right = true := by
   rcases hok.v with e | e
   ·rw [e] at hv; exact absurd hv (by decide)
   ·exact e
  have hpb := recPromise_by hvr
  have hrs := (right_bd hvr).2.2
  have hm8 := rising_mem hrs.1
  have hpi : I64 r.v.p := by have := hm8 _ hrs.2; unfold I64; omega
  have hrp := fun W h => drecPromise_any Am cm r.v W h hvr (fun x hx => by have := hm8 x hx; unfold I64; omega) (by have := rising_len hrs.1; omega) hpi
  have hr0 := Reads.kp hrm (Kp.of_below (S := fun _ => False) hb0) (fun _ _ _ h => h)
  rw [if_pos hv] at hSP
  have hSP' := hide hSP
  clear hv hSP hrs hm8
  go_enter Tryz.func19, Tryz.ntmps19
  go_upto_region 4 with (first | (go_at_call 30; (with_reducible refine (hrp _ hr0).mono ?_); rintro e w1 ⟨u1, rfl, hu1, hb1⟩; obtain ⟨uA, un, uc, rfl⟩ := hu1.shape; have hs1 := hb1.size; (simp only [World.size_alloc] at hs1); have hbs1 : Bsl w1 (fun k => k < w.heap.size + 1 ∨ (Value.slice none 0 0).ownBlock = some k) (.slice uA un uc) (recPromiseP r.v) := (Bsl.row hu1 (T := fun k => k < w.heap.size + 1) (fun k hk => by simpa using hk) hpb).sub (fun k _ hk => hk.elim id (fun e => by cases e))) | (at_builtin; refine app_rec rfl (.tmp 8) (.tmp 12) rfl (fun k => k < w.heap.size + 1) (w.heap.size + 1) (.slice none 0 0) [] (recPromiseP r.v, .slice uA un uc) _ rfl rfl (OwnR.nil _ _ _) hbs1 _ rfl rfl (by simp) (by omega) (fun v' w2 hR2' hc2 hk2 => ?_)))
  have hb01 : Below w.heap.size w w1 := hb0.trans (hb1.mono (by simp))
  have hb12 : Below (w.heap.size + 1) w1 w2 := hc2.low (base := w.heap.size + 1) (fun k hk => by cases hk) hs1
  have hb02 : Below w.heap.size w w2 := hb01.trans (hb12.mono (by omega))
  have hB1 := hB0.below hb1 (by simp)
  have hB2 : Blk w2 w.heap.size 34 #[.int .i64 r.id, .int .i64 r.v.e, .int .i64 r.v.p, (.slice Am r.v.l.length cm), (.slice Bl r.log.length dl), .int .i64 r.joined, .int .i64 (r.sure : Int), (.slice Ca r.acks.length fa), .bool r.act] := (hb12.block w.heap.size (by omega)).trans hB1
  rw [List.nil_append] at hR2'
  refine abstr (fun W => Below w.heap.size w W ∧ Blk W w.heap.size 34 #[.int .i64 r.id, .int .i64 r.v.e, .int .i64 r.v.p, (.slice Am r.v.l.length cm), (.slice Bl r.log.length dl), .int .i64 r.joined, .int .i64 (r.sure : Int), (.slice Ca r.acks.length fa), .bool r.act] ∧ OwnR W (fun k => k < w.heap.size + 1) (w.heap.size + 1) v' [recPromiseP r.v]) ⟨hb02, hB2, hR2'⟩ (fun W hW => ?_)
  clear hb1 hu1 hbs1 hc2 hk2 hb02 hR2' hB0 hb0 hB1 hB2 hb01 hb12 hs1 hrp hr0
  obtain ⟨hbW, hBW, hRW⟩ := hW
  have hL1 : Hid (([recPromiseP r.v] : List (List Nat)).length ≤ 1) := hide (by simp)
  generalize [recPromiseP r.v] = L1 at *
  generalize v' = v1 at *
  have cW := hBW.cell
  have lW := hBW.lt
  have hsW := hbW.size
  have hEW := hEr.later hbW
  by_cases hl : 0 < r.log.length ∨ 0 < r.joined
  ·rw [if_pos hl] at hR2
   have hR2' := hide hR2
   clear hR2
   obtain ⟨vA, vc, hvs⟩ := hRW.sl
   subst hvs
   by_cases hl0 : 0 < r.log.length
   ·have d2 : decide ((0 : Int) < r.log.length) = true := decide_eq_true (by omega)
    have d2' : decide (0 < r.log.length) = true := decide_eq_true hl0
    clear hl hl0
    go_wp2_with (first | (go_at_call 52; (with_reducible refine (hrl W hEW).mono ?_); rintro e w5 ⟨u5, rfl, hu5, hb5⟩; obtain ⟨uA5, un5, uc5, rfl⟩ := hu5.shape; have hR5 := hRW.below hb5; have hs5 := hb5.size; have hge := ownR_ge hR5; have hgeX := ownR_ge hRW; have hbs5 : Bsl w5 (fun k => k < w.heap.size + 1 ∨ (Value.slice vA L1.length vc).ownBlock = some k) (.slice uA5 un5 uc5) (recLogP r.joined r.log) := (Bsl.row hu5 (fun k hk => hk) hrb).sub (fun k _ hk => hk.elim (fun h => by omega) (fun e => by have := (hgeX k e).2; omega))) | (at_builtin; refine app_rec rfl (.tmp 23) (.tmp 29) rfl (fun k => k < w.heap.size + 1) (w.heap.size + 1) (.slice vA L1.length vc) L1 (recLogP r.joined r.log, .slice uA5 un5 uc5) _ rfl rfl hR5 hbs5 _ rfl rfl (by have := hL1.out; omega) (by omega) (fun v' w6 hR6 hc6 hk6 => ?_)))
    obtain ⟨vA6, vc6, hv6⟩ := hR6.sl
    go_ret
    subst hv6
    rw [hSP'.out, hR2'.out]
    obtain ⟨A', c', e', hRc⟩ := hR6.recs (T := fun k => k < w.heap.size + 1) (fun k hk ht => by omega)
    simp only [Value.slice.injEq] at e'
    obtain ⟨rfl, -, rfl⟩ := e'
    exact ⟨_, ⟨_, rfl⟩, hRc.sub (fun k _ hk => by omega), (hbW.trans (hb5.mono (by omega))).trans (hc6.low (fun k hk => by have := (hge k hk).1; omega) (by omega))⟩
   ·have d2 : decide ((0 : Int) < r.log.length) = false := decide_eq_false (by omega)
    have d2' : decide (0 < r.log.length) = false := decide_eq_false hl0
    have d3 : (r.joined != 0) = true := by have := hl.resolve_left hl0; simp; omega
    clear hl hl0
    go_wp2_with (first | (go_at_call 52; (with_reducible refine (hrl W hEW).mono ?_); rintro e w5 ⟨u5, rfl, hu5, hb5⟩; obtain ⟨uA5, un5, uc5, rfl⟩ := hu5.shape; have hR5 := hRW.below hb5; have hs5 := hb5.size; have hge := ownR_ge hR5; have hgeX := ownR_ge hRW; have hbs5 : Bsl w5 (fun k => k < w.heap.size + 1 ∨ (Value.slice vA L1.length vc).ownBlock = some k) (.slice uA5 un5 uc5) (recLogP r.joined r.log) := (Bsl.row hu5 (fun k hk => hk) hrb).sub (fun k _ hk => hk.elim (fun h => by omega) (fun e => by have := (hgeX k e).2; omega))) | (at_builtin; refine app_rec rfl (.tmp 23) (.tmp 29) rfl (fun k => k < w.heap.size + 1) (w.heap.size + 1) (.slice vA L1.length vc) L1 (recLogP r.joined r.log, .slice uA5 un5 uc5) _ rfl rfl hR5 hbs5 _ rfl rfl (by have := hL1.out; omega) (by omega) (fun v' w6 hR6 hc6 hk6 => ?_)))
    obtain ⟨vA6, vc6, hv6⟩ := hR6.sl
    go_ret
    subst hv6
    rw [hSP'.out, hR2'.out]
    obtain ⟨A', c', e', hRc⟩ := hR6.recs (T := fun k => k < w.heap.size + 1) (fun k hk ht => by omega)
    simp only [Value.slice.injEq] at e'
    obtain ⟨rfl, -, rfl⟩ := e'
    exact ⟨_, ⟨_, rfl⟩, hRc.sub (fun k _ hk => by omega), (hbW.trans (hb5.mono (by omega))).trans (hc6.low (fun k hk => by have := (hge k hk).1; omega) (by omega))⟩
  ·rw [if_neg hl] at hR2
   have h1 : ¬0 < r.log.length := fun h => hl (.inl h)
   have h2 : ¬0 < r.joined := fun h => hl (.inr h)
   have d2 : decide ((0 : Int) < r.log.length) = false := decide_eq_false (by omega)
   have d2' : decide (0 < r.log.length) = false := decide_eq_false h1
   have d3 : (r.joined != 0) = false := by simp; omega
   clear h1 h2
   have hR2' := hide hR2
   clear hl hR2
   obtain ⟨vA, vc, hvs⟩ := hRW.sl
   go_wp2
   go_ret
   subst hvs
   rw [hSP'.out, hR2'.out, List.append_nil]
   obtain ⟨A', c', e', hRc⟩ := hRW.recs (T := fun k => k < w.heap.size + 1) (fun k hk ht => by omega)
   simp only [Value.slice.injEq] at e'
   obtain ⟨rfl, -, rfl⟩ := e'
   exact ⟨_, _, rfl, hRc.sub (fun k _ hk => by omega), hbW⟩
 ·have d1 : decide ((0 : Int) < r.v.e) = false := by simpa using hv
  rw [if_neg hv] at hSP
  have hSP' := hide hSP
  clear hv hSP
  go_enter Tryz.func19, Tryz.ntmps19
  go_upto_region 4 with fail
  obtain ⟨v1, hv1⟩ : ∃ v1 : Value, v1 = .slice none 0 0 := ⟨_, rfl⟩
  have hRW : OwnR (w.alloc (.cells #[.int .i64 r.id, .int .i64 r.v.e, .int .i64 r.v.p, (.slice Am r.v.l.length cm), (.slice Bl r.log.length dl), .int .i64 r.joined, .int .i64 (r.sure : Int), (.slice Ca r.acks.length fa), .bool r.act] 34)) (fun k => k < w.heap.size + 1) (w.heap.size + 1) v1 [] := by rw [hv1]; exact OwnR.nil _ _ _
  rw [← hv1]
  clear hv1
  obtain ⟨L1, hLe⟩ : ∃ L1 : List (List Nat), L1 = [] := ⟨_, rfl⟩
  rw [← hLe] at hSP' hRW
  have hL1 : Hid (L1.length ≤ 1) := hide (by rw [hLe]; simp)
  clear hLe
  refine abstr (fun W => Below w.heap.size w W ∧ Blk W w.heap.size 34 #[.int .i64 r.id, .int .i64 r.v.e, .int .i64 r.v.p, (.slice Am r.v.l.length cm), (.slice Bl r.log.length dl), .int .i64 r.joined, .int .i64 (r.sure : Int), (.slice Ca r.acks.length fa), .bool r.act] ∧ OwnR W (fun k => k < w.heap.size + 1) (w.heap.size + 1) v1 L1) ⟨hb0, hB0, hRW⟩ (fun W hW => ?_)
  clear hb0 hB0 hRW
  obtain ⟨hbW, hBW, hRW⟩ := hW
  have cW := hBW.cell
  have lW := hBW.lt
  have hsW := hbW.size
  have hEW := hEr.later hbW
  by_cases hl : 0 < r.log.length ∨ 0 < r.joined
  ·rw [if_pos hl] at hR2
   have hR2' := hide hR2
   clear hR2
   obtain ⟨vA, vc, hvs⟩ := hRW.sl
   subst hvs
   by_cases hl0 : 0 < r.log.length
   ·have d2 : decide ((0 : Int) < r.log.length) = true := decide_eq_true (by omega)
    have d2' : decide (0 < r.log.length) = true := decide_eq_true hl0
    clear hl hl0
    go_wp2_with (first | (go_at_call 52; (with_reducible refine (hrl W hEW).mono ?_); rintro e w5 ⟨u5, rfl, hu5, hb5⟩; obtain ⟨uA5, un5, uc5, rfl⟩ := hu5.shape; have hR5 := hRW.below hb5; have hs5 := hb5.size; have hge := ownR_ge hR5; have hgeX := ownR_ge hRW; have hbs5 : Bsl w5 (fun k => k < w.heap.size + 1 ∨ (Value.slice vA L1.length vc).ownBlock = some k) (.slice uA5 un5 uc5) (recLogP r.joined r.log) := (Bsl.row hu5 (fun k hk => hk) hrb).sub (fun k _ hk => hk.elim (fun h => by omega) (fun e => by have := (hgeX k e).2; omega))) | (at_builtin; refine app_rec rfl (.tmp 23) (.tmp 29) rfl (fun k => k < w.heap.size + 1) (w.heap.size + 1) (.slice vA L1.length vc) L1 (recLogP r.joined r.log, .slice uA5 un5 uc5) _ rfl rfl hR5 hbs5 _ rfl rfl (by have := hL1.out; omega) (by omega) (fun v' w6 hR6 hc6 hk6 => ?_)))
    obtain ⟨vA6, vc6, hv6⟩ := hR6.sl
    go_ret
    subst hv6
    rw [hSP'.out, hR2'.out]
    obtain ⟨A', c', e', hRc⟩ := hR6.recs (T := fun k => k < w.heap.size + 1) (fun k hk ht => by omega)
    simp only [Value.slice.injEq] at e'
    obtain ⟨rfl, -, rfl⟩ := e'
    exact ⟨_, ⟨_, rfl⟩, hRc.sub (fun k _ hk => by omega), (hbW.trans (hb5.mono (by omega))).trans (hc6.low (fun k hk => by have := (hge k hk).1; omega) (by omega))⟩
   ·have d2 : decide ((0 : Int) < r.log.length) = false := decide_eq_false (by omega)
    have d2' : decide (0 < r.log.length) = false := decide_eq_false hl0
    have d3 : (r.joined != 0) = true := by have := hl.resolve_left hl0; simp; omega
    clear hl hl0
    go_wp2_with (first | (go_at_call 52; (with_reducible refine (hrl W hEW).mono ?_); rintro e w5 ⟨u5, rfl, hu5, hb5⟩; obtain ⟨uA5, un5, uc5, rfl⟩ := hu5.shape; have hR5 := hRW.below hb5; have hs5 := hb5.size; have hge := ownR_ge hR5; have hgeX := ownR_ge hRW; have hbs5 : Bsl w5 (fun k => k < w.heap.size + 1 ∨ (Value.slice vA L1.length vc).ownBlock = some k) (.slice uA5 un5 uc5) (recLogP r.joined r.log) := (Bsl.row hu5 (fun k hk => hk) hrb).sub (fun k _ hk => hk.elim (fun h => by omega) (fun e => by have := (hgeX k e).2; omega))) | (at_builtin; refine app_rec rfl (.tmp 23) (.tmp 29) rfl (fun k => k < w.heap.size + 1) (w.heap.size + 1) (.slice vA L1.length vc) L1 (recLogP r.joined r.log, .slice uA5 un5 uc5) _ rfl rfl hR5 hbs5 _ rfl rfl (by have := hL1.out; omega) (by omega) (fun v' w6 hR6 hc6 hk6 => ?_)))
    obtain ⟨vA6, vc6, hv6⟩ := hR6.sl
    go_ret
    subst hv6
    rw [hSP'.out, hR2'.out]
    obtain ⟨A', c', e', hRc⟩ := hR6.recs (T := fun k => k < w.heap.size + 1) (fun k hk ht => by omega)
    simp only [Value.slice.injEq] at e'
    obtain ⟨rfl, -, rfl⟩ := e'
    exact ⟨_, ⟨_, rfl⟩, hRc.sub (fun k _ hk => by omega), (hbW.trans (hb5.mono (by omega))).trans (hc6.low (fun k hk => by have := (hge k hk).1; omega) (by omega))⟩
  ·rw [if_neg hl] at hR2
   have h1 : ¬0 < r.log.length := fun h => hl (.inl h)
   have h2 : ¬0 < r.joined := fun h => hl (.inr h)
   have d2 : decide ((0 : Int) < r.log.length) = false := decide_eq_false (by omega)
   have d2' : decide (0 < r.log.length) = false := decide_eq_false h1
   have d3 : (r.joined != 0) = false := by simp; omega
   clear h1 h2
   have hR2' := hide hR2
   clear hl hR2
   obtain ⟨vA, vc, hvs⟩ := hRW.sl
   go_wp2
   go_ret
   subst hvs
   rw [hSP'.out, hR2'.out, List.append_nil]
   obtain ⟨A', c', e', hRc⟩ := hRW.recs (T := fun k => k < w.heap.size + 1) (fun k hk ht => by omega)
   simp only [Value.slice.injEq] at e'
   obtain ⟨rfl, -, rfl⟩ := e'
   exact ⟨_, _, rfl, hRc.sub (fun k _ hk => by omega), hbW⟩
end Go.Proofs.YtjhcgnmibnjocaaGreat

namespace Go.Proofs.YtjhcgnmibnjocaaGreat
open Go.RowKit Go.Maps
theorem Recs.at_ {w : World} {T : Nat → Prop} {A : Option Addr} {n : Nat} {l : List (List Nat)} (h : Recs w T A n l) {j : Nat} (hlt : j < n) :
  ∃ b o uA un uc bs, A = some ⟨b, o, none⟩ ∧ b < w.heap.size ∧ l[j]? = some bs ∧ w.cell? ⟨b, o + j, none⟩ = some (.slice uA un uc) ∧ Bsl w T (.slice uA un uc) bs := by
 obtain ⟨⟨ms, hms, hr, hm⟩, hln, hnt⟩ := h
 obtain ⟨b, o, rfl, hbl, hcc⟩ := hr.plain (by omega) (by omega)
 have hml : ms.length = n := by rw [← hln, ← hms, List.length_map]
 have hjm : j < ms.length := by omega
 have hg : ms[j]? = some (ms[j]'hjm) := List.getElem?_eq_getElem hjm
 have hB := hm _ (List.getElem_mem hjm)
 obtain ⟨uA, un, uc, hu⟩ := hB.sl
 refine ⟨b, o, uA, un, uc, (ms[j]'hjm).1, rfl, hbl, by rw [← hms, List.getElem?_map, hg]; rfl, ?_, hu ▸ hB⟩
 rw [← hu]
 exact hcc _ _ (by rw [List.getElem?_map, hg]; rfl)
set_option maxRecDepth 100000 in
set_option maxHeartbeats 4000000 in
theorem dsamerecs_any {T T' : Nat → Prop} (A A' : Option Addr) (n c c' : Nat) (l : List (List Nat)) (w : World) (h : Recs w T A n l) (h' : Recs w T' A' n l) (hn : n ≤ 1000000) :
  Calls Tryz.prog 22 #[.slice A n c, .slice A' n c'] w fun e w' => e = .returned (.bool true) ∧ Below w.heap.size w w' := by
 have d0 : ((n : Int) != (n : Int)) = false := by simp
 go_enter Tryz.func22, Tryz.ntmps22
 go_wp2
 go_loopw [5] (fun vi wr => ∃ j : Nat, j ≤ n ∧ vi = .int .i64 (j : Int) ∧ Below w.heap.size w wr) (fun vi _ => ((n : Int) - intOf vi).toNat)
 case atStart => exact ⟨0, by omega, rfl, Below.refl _ _⟩
 case round =>
  obtain ⟨j, hj, rfl, hb⟩ := hrel
  obtain ⟨wo, rfl⟩ : ∃ wo : World, wo = wr := ⟨_, rfl⟩
  have hso := hb.size
  by_cases hlt : j < n
  ·have hlj : (j : Int) < n := by omega
   have hE := h.kp (Kp.of_below hb)
   have hE' := h'.kp (Kp.of_below hb)
   obtain ⟨b, o, uA, un, uc, bs, rfl, hbl, hg, m1, hB⟩ := hE.at_ hlt
   obtain ⟨b', o', uA', un', uc', bs', rfl, hbl', hg', m1', hB'⟩ := hE'.at_ hlt
   obtain rfl : bs = bs' := Option.some.inj (hg.symm.trans hg')
   have hcv := fun X : Ext => (hB.kp (Kp.of_below (World.below_ext wo X))).conv
   have hcv' := fun X : Ext => (hB'.kp (Kp.of_below (World.below_ext wo X))).conv
   have e2 : ((strOf bs).toList == (strOf bs).toList) = true := by simp
   clear hg hg' hE hE' hB hB'
   go_wp2
   refine wp_region_ext_lit (by kernel_rfl) (by kernel_rfl) ?_
   (repeat (first | ((with_reducible refine wpQuiet_step (fun K hK => ?_)); go_simp; first | ((with_reducible refine hK _ ?_); clear hK K) | (apply Exists.intro; (with_reducible refine ⟨fun _ => ?_, hK _ ?_⟩); skip; clear hK K)) | ((with_reducible refine quiet_skipN ?_ (fun K hK => ?_)); (rfl); go_simp; (with_reducible refine hK _ ?_); clear hK K)))
   (with_reducible refine wpQuiet_nil ?_); intro _ hw'; obtain ⟨X, hw''⟩ := hw'; subst hw''
   go_wp2
   go_roundw
   case rel => exact ⟨j + 1, by omega, by go_num, Below.ext hb hso X⟩
   case measure => simp [intOf]; omega
  ·obtain rfl : j = n := by omega
   have d1 : decide ((j : Int) < j) = false := by simp
   go_wp2
   go_ret
   exact ⟨rfl, hb⟩
end Go.Proofs.YtjhcgnmibnjocaaGreat
