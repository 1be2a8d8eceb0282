import Derived.Test.YtjhcgnmibnjocaaY5
/-! Entries in new memory. -/
namespace Go.Proofs.Ytjhcgnmibnjocaa
open Go.RowKit Go.Maps
set_option linter.unusedVariables false
set_option linter.unusedSimpArgs false
theorem emV_get {ms : List Em} {i : Nat} {m : Em} (h : ms[i]? = some m) : (emV ms)[i * 2]? = some (.int .i64 m.x.e) ∧ (emV ms)[i * 2 + 1]? = some m.v :=
  ⟨rowsV_get (k := 2) Em.cells_len ms i m h 0 _ rfl, rowsV_get (k := 2) Em.cells_len ms i m h 1 _ rfl⟩
theorem emV_cons (m : Em) (ms : List Em) : emV (m :: ms) = .int .i64 m.x.e :: m.v :: emV ms := rfl
theorem emV_set : ∀ {ms : List Em} {j : Nat} {m : Em} (v : Value), ms[j]? = some m → emV (ms.set j ⟨m.x, v⟩) = (emV ms).set (j * 2 + 1) v
  | [], j, m, v, h => by simp at h
  | a :: ms, 0, m, v, h => by
    simp at h
    subst h
    rfl
  | a :: ms, j + 1, m, v, h => by
    rw [List.set_cons_succ, emV_cons, emV_cons, emV_set v (by simpa using h), show (j + 1) * 2 + 1 = j * 2 + 1 + 1 + 1 by omega]
    rfl
theorem own_put {w : World} {base n cap b k : Nat} {e : TypeId} {u : Value} {xs : List Value} (h : w.ownsRow base e 2 (.slice (some ⟨b, 0, none⟩) n cap) n xs) (hk : k < n * 2) : (w.setCell ⟨b, k, none⟩ u).ownsRow base e 2 (.slice (some ⟨b, 0, none⟩) n cap) n (xs.set k u) := by
  refine ⟨by rw [List.length_set]; exact h.1, ?_⟩
  rcases h.2 with ⟨h', _⟩ | ⟨g, cap', cur, hv, hb, hh, hnc, hm, hsz, htk⟩
  · cases h'
  · cases hv
    refine .inr ⟨b, cap, cur.setIfInBounds k u, rfl, hb, Blk.set_ hh k u, hnc, hm, by rw [Array.size_setIfInBounds]; exact hsz, ?_⟩
    rw [← htk, Array.toList_setIfInBounds, List.take_set]
theorem own_cellE {w : World} {base n cap b i : Nat} {e : TypeId} {xs : List Value} {u : Value} (h : w.ownsRow base e 2 (.slice (some ⟨b, 0, none⟩) n cap) n xs) (hi : xs[i]? = some u) : w.cell? ⟨b, i, none⟩ = some u ∧ w.frozen? ⟨b, i, none⟩ = false ∧ b < w.heap.size := by
  rcases h.2 with ⟨h', _⟩ | ⟨g, cap', cur, hv, hb, hh, hnc, hm, hsz, htk⟩
  · cases h'
  · cases hv
    refine ⟨?_, blk_frozen hh i, blk_lt hh⟩
    rw [blk_cell hh]
    rw [← htk, List.getElem?_take] at hi
    split at hi
    · simpa using hi
    · cases hi
theorem own_some {w : World} {base n cap : Nat} {e : TypeId} {A : Option Addr} {xs : List Value} (h : w.ownsRow base e 2 (.slice A n cap) n xs) (hn : 0 < n) : ∃ b, A = some ⟨b, 0, none⟩ := by
  rcases h.2 with ⟨h', h0⟩ | ⟨g, cap', cur, hv, _⟩
  · omega
  · cases hv
    exact ⟨g, rfl⟩
/-- All blocks that are there. -/
def Old (n : Nat) (v : Value) : Nat → Prop := fun k => k < n ∨ v.ownBlock = some k
theorem Bsl.sl {w : World} {T : Nat → Prop} {v : Value} {t : List Nat} (h : Bsl w T v t) : ∃ a n c, v = .slice a n c := by
  obtain ⟨A, c, e, _⟩ := h.ex
  exact ⟨A, _, c, e⟩
theorem Bsl.keep {w w' : World} {T : Nat → Prop} {v : Value} {t : List Nat} (h : Bsl w T v t) (hs : w.heap.size ≤ w'.heap.size) (hk : ∀ k, k < w.heap.size → ¬T k → w'.heap[k]? = w.heap[k]?) : Bsl w' T v t := by
  obtain ⟨⟨A, c, e, hr, hn, hT, h1, h2⟩, hb⟩ := h
  refine ⟨⟨A, c, e, ⟨hr.1, fun h0 => ?_⟩, hn, hT, h1, h2⟩, hb⟩
  obtain ⟨ad, e', hl, hc⟩ := hr.2 h0
  refine ⟨ad, e', Nat.lt_of_lt_of_le hl hs, fun j u hu => ?_⟩
  have := hc j u hu
  unfold World.cell? at this ⊢
  rw [hk _ (by rw [block_of_add]; exact hl) (by rw [block_of_add]; exact hT h0 _ e')]
  exact this
set_option maxRecDepth 100000 in
set_option maxHeartbeats 4000000 in
theorem twins_any {T : Nat → Prop} (A : Option Addr) (n c : Nat) (l : List Ent) (w : World) (h : Ents w T A n l) (hn : n ≤ 4096) :
    Calls Try.prog 48 #[.slice A n c] w fun e w' => ∃ A1 c1, e = .returned (.slice A1 n c1) ∧ OwnE w' (Old w.heap.size (.slice A1 n c1)) w.heap.size (.slice A1 n c1) l ∧ Below w.heap.size w w' := by
  obtain ⟨⟨ms, he, hr, hm⟩, hln, _⟩ := h
  have hmn : ms.length = n := by rw [← hln, ← he, List.length_map]
  have hc := cloneE_any A n c ms w hr (fun m hmm => (hm m hmm).1.sl) hn hmn
  go_enter Try.func48, Try.ntmps48
  go_wp2_with (go_at_call 93; (with_reducible refine hc.mono ?_); rintro e w1 ⟨v1, rfl, ho1, hb1⟩; obtain ⟨A1, c1, rfl, hc1⟩ := own_sl ho1)
  have hA1 := own_addr ho1
  go_loopw [9] (fun vi wr => ∃ (j : Nat) (ns : List Em), j ≤ n ∧ vi = .int .i64 (j : Int) ∧ ns.map Em.x = l ∧ wr.ownsRow w.heap.size 103 2 (.slice A1 n c1) n (emV ns) ∧ Below w.heap.size w wr ∧ w1.heap.size ≤ wr.heap.size ∧ (∀ i m, ns[i]? = some m → m.x.ok ∧ if i < j then Bsl wr (Old w.heap.size (.slice A1 n c1)) m.v m.x.t else Bsl w T m.v m.x.t)) (fun vi _ => ((n : Int) - intOf vi).toNat)
  case atStart => exact ⟨0, ms, by omega, rfl, he, ho1, hb1, Nat.le_refl _, fun i m hi => ⟨(hm m (List.mem_of_getElem? hi)).2, (hm m (List.mem_of_getElem? hi)).1⟩⟩
  case round =>
    clear ho1
    obtain ⟨j, ns, hj, rfl, hns, ho, hb, hsz, hE⟩ := hrel
    obtain ⟨wo, rfl⟩ : ∃ wo : World, wo = wr := ⟨_, rfl⟩
    have hnl : ns.length = n := by rw [← hln, ← hns, List.length_map]
    by_cases hlt : j < n
    · have hlj : (j : Int) < n := by omega
      obtain ⟨b, rfl⟩ := own_some ho (by omega)
      have hg : ns[j]? = some ns[j] := List.getElem?_eq_getElem (by omega)
      obtain ⟨hmo, hB⟩ := hE j _ hg
      rw [if_neg (by omega)] at hB
      have hcells := own_cellE ho (emV_get hg).2
      obtain ⟨m1, f1, l1⟩ := hcells
      have hSet := fun v => emV_set v hg
      have hgx : Hid (ns[j]? = some ns[j]) := hide hg
      have hbn : w.heap.size ≤ b := (hA1 _ rfl).1
      have hb1s : b < w1.heap.size := (hA1 _ rfl).2
      generalize ns[j] = mj at *
      have hBo : Bsl wo (fun k => w.heap.size ≤ k) mj.v mj.x.t := (hB.sub (T' := fun k => w.heap.size ≤ k) (fun k hk h => by omega)).keep hb.size (fun k hk _ => hb.block k hk)
      have hcl := cloneB_any mj.v mj.x.t wo hBo (by have := hmo.n; omega)
      obtain ⟨vA, vn, vc, hv⟩ := hB.sl
      rw [hv] at m1 hcl
      have HO := hide (⟨ho, hE, hSet, hB, hBo⟩ : _ ∧ _ ∧ _ ∧ _ ∧ _)
      clear ho hE hSet hB hBo hg
      go_wp2_with (go_at_call 45; (with_reducible refine hcl.mono ?_); rintro e w2 ⟨v2, rfl, hr2, hb2⟩; have hs2 := hb2.size; have f2 := (hb2.frozen (p := ⟨b, j * 2 + 1, none⟩) l1).trans f1; obtain ⟨A2, n2, c2, rfl⟩ := hr2.shape; have m2 := (hb2.cell (p := ⟨b, j * 2 + 1, none⟩) l1).trans m1; have l2 : b < w2.heap.size := by omega)
      go_roundw
      case rel =>
        obtain ⟨ho, hE, hSet, hB, hBo⟩ := HO.out
        have hjl : j < ns.length := by omega
        have ho2 : w2.ownsRow w.heap.size 103 2 (.slice (some ⟨b, 0, none⟩) n c1) n (emV ns) := own_keep ho fun k _ hk => hb2.block k hk
        refine ⟨j + 1, ns.set j ⟨mj.x, .slice A2 n2 c2⟩, by omega, by go_num, ?_, ?_, (hb.trans (hb2.mono (by omega))).setCell (by show w.heap.size ≤ b; omega) _, by simp; omega, fun i m hi => ?_⟩
        · rw [← hns]
          apply List.ext_getElem?
          intro i
          rw [List.getElem?_map, List.getElem?_set, List.getElem?_map]
          by_cases hij : j = i
          · subst hij
            rw [if_pos rfl, if_pos hjl, hgx.out]
            rfl
          · rw [if_neg hij]
        · rw [hSet]
          exact own_put ho2 (by omega)
        · have hW : ∀ {v : Value} {t : List Nat}, Bsl wo (Old w.heap.size (.slice (some ⟨b, 0, none⟩) n c1)) v t → Bsl (w2.setCell ⟨b, j * 2 + 1, none⟩ (.slice A2 n2 c2)) (Old w.heap.size (.slice (some ⟨b, 0, none⟩) n c1)) v t := fun h => h.keep (by simp; omega) (fun k hk hT => (Below.heap_setCell w2 ⟨b, _, none⟩ _ k (fun e => hT (.inr (by rw [e]; rfl)))).trans (hb2.block k hk))
          rw [List.getElem?_set] at hi
          by_cases hij : j = i
          · subst hij
            rw [if_pos rfl, if_pos hjl] at hi
            cases hi
            rw [if_pos (by omega)]
            refine ⟨hmo, ?_⟩
            have hbs : Bsl w2 (fun k => k < wo.heap.size) (.slice A2 n2 c2) mj.x.t := Bsl.row hr2 (fun k hk => hk) hmo.by_
            exact (hbs.sub (T' := Old w.heap.size (.slice (some ⟨b, 0, none⟩) n c1)) (fun k _ h => by
              rcases h with h | h
              · show k < wo.heap.size; omega
              · cases h; show b < wo.heap.size; exact l1)).keep (by simp) (fun k hk hT => Below.heap_setCell w2 ⟨b, _, none⟩ _ k (fun e => hT (.inr (by rw [e]; rfl))))
          · rw [if_neg hij] at hi
            obtain ⟨h1, h2⟩ := hE i m hi
            refine ⟨h1, ?_⟩
            by_cases hi1 : i < j
            · rw [if_pos hi1] at h2
              rw [if_pos (by omega)]
              exact hW h2
            · rw [if_neg hi1] at h2
              rw [if_neg (by omega)]
              exact h2
      case measure => simp [intOf]; omega
    · obtain rfl : j = n := by omega
      have HO := hide (⟨ho, hE⟩ : _ ∧ _)
      clear ho hE
      go_wp2
      go_ret
      obtain ⟨ho, hE⟩ := HO.out
      refine ⟨A1, c1, rfl, ⟨ns, hns, by rw [hln]; exact ho, fun m hmm => ?_⟩, hb⟩
      obtain ⟨i, hi, rfl⟩ := List.getElem_of_mem hmm
      obtain ⟨h1, h2⟩ := hE i _ (List.getElem?_eq_getElem hi)
      rw [if_pos (by omega)] at h2
      exact ⟨h2, h1⟩
end Go.Proofs.Ytjhcgnmibnjocaa
