import Derived.Test.YtjhcgnmibnjocaaY49
import Derived.Test.YtjhcgnmibnjocaaY33
/-! A relay as its records tell it. -/
namespace Go.Proofs.Ytjhcgnmibnjocaa
open Go.RowKit Go.Maps
set_option linter.unusedVariables false
set_option linter.unusedSimpArgs false
/-- The members stay, the map is new. -/
theorem RelX.remap {w W : World} {S T : Nat → Prop} {g : Nat} {r r1 : Rl} {Am : Option Addr} {cm : Nat} {vl : Value} {mb : Nat} (h : RelX w S T g r Am cm vl mb) (ho : Only w W g) {m1 : Nat} (hB : Blk W g 95 #[.int .i64 r1.id, .int .i64 r1.v.e, .int .i64 r1.v.p, .slice Am r1.v.l.length cm, vl, .int .i64 r1.joined, .int .i64 (r1.sure : Int), .map (some m1), .bool r1.act])
    (e1 : r1.v.l = r.v.l) (e2 : r1.log = r.log) (mp : Mp W m1 r1.acks) (hm : w.heap.size ≤ m1) :
    RelX W (fun k => S k ∨ k = m1) (fun k => T k ∨ k = m1) g r1 Am cm vl m1 := by
  have hk : Kp T w W := Kp.of_only ho (h.sub _ h.g)
  have hg := h.blk.lt
  refine ⟨hB, by rw [e1]; exact Reads.kp h.rd hk h.mt, fun h0 a ha ht => ?_, ?_, fun k hv => .inl (h.vs k hv), mp, .inr rfl, by omega, h.vg, fun hv => ?_, .inl h.g, fun k hs => hs.elim (fun hs => .inl (h.sub k hs)) .inr, fun k ht => ?_⟩
  · rw [e1] at h0
    rcases ht with ht | ht
    · exact h.mt h0 a ha ht
    · obtain ⟨a', e', hl, _⟩ := h.rd.2 h0
      rw [ha] at e'; cases e'
      omega
  · rw [e2]
    exact (h.own.sub (fun k hk ht => ht.elim id (fun e => by omega))).keep (hk.weaken fun k => .inl) (fun k hv hl => ho.block k hl fun e => h.vg (e ▸ hv))
  · have := h.lt _ (h.sub _ (h.vs _ hv)); omega
  · rcases ht with ht | rfl
    · exact Nat.lt_of_lt_of_le (h.lt _ ht) hk.size
    · exact mp.lt
def Loaded (o : Option Rl) (w' : World) (base : Nat) (e : Ending) : Prop := match o with
  | none => e = .returned (.tuple #[.pointer none, .int .i64 200])
  | some r => ∃ g, e = .returned (.tuple #[.pointer (some ⟨g, 0, none⟩), .int .i64 0]) ∧ Rly w' base g (loadedP r)
attribute [local irreducible] First.wpF
set_option maxRecDepth 100000 in
set_option maxHeartbeats 4000000 in
theorem load_no (id : Int) (A : Option Addr) (n c : Nat) (w : World) (h : ¬(0 ≤ id ∧ id < 8)) :
    Calls Try.prog 30 #[.int .i64 id, .slice A n c] w fun e w' => e = .returned (.tuple #[.pointer none, .int .i64 1]) ∧ Below w.heap.size w w' := by
  have hN := rnew_no id w h
  go_enter Try.func30, Try.ntmps30
  go_wp2_with (go_at_call 9; (with_reducible refine hN.mono ?_); rintro e w1 ⟨rfl, rfl⟩)
  refine bodyPost_ret (v := .tuple #[.pointer none, .int .i64 1]) (by simp [results, Try.results30, go_sem] <;> rfl) rfl ?_
  exact ⟨rfl, Below.refl _ _⟩
set_option maxRecDepth 100000 in
set_option maxHeartbeats 4000000 in
theorem load_any {T0 : Nat → Prop} (id : Int) (A : Option Addr) (n c : Nat) (l : List (List Nat)) (w : World) (h : 0 ≤ id ∧ id < 8) (hR : Recs w T0 A n l) (hT0 : ∀ k, w.heap.size ≤ k → T0 k) (hn : n ≤ 9223372036854775807) (hb : ∀ b ∈ l, b.length ≤ 1000000) :
    Calls Try.prog 30 #[.int .i64 id, .slice A n c] w fun e w' => Below w.heap.size w w' ∧ Loaded (restores (newP id) l) w' w.heap.size e := by
  have hN := rnew_yes id w h
  have hmm := @run_makeMap Try.prog
  obtain ⟨RS, hRS⟩ : ∃ RS, RS = restores (newP id) l := ⟨_, rfl⟩
  rw [← hRS]
  go_enter Try.func30, Try.ntmps30
  go_wp2_with (go_at_call 9; (with_reducible refine hN.mono ?_); rintro e w1 ⟨rfl, hX1, hb1⟩)
  have hR1 : Rly w1 w.heap.size (w.heap.size + 1) (newP id) := ⟨_, _, ⟨newP_ok h, _, _, _, _, hX1⟩, fun k hk => by omega⟩
  clear hX1 hN
  generalize w.heap.size + 1 = g at *
  go_loopw [20] (fun vi wr => ∃ (j : Nat) (r : Rl), j ≤ n ∧ vi = .int .i64 (j : Int) ∧ Rly wr w.heap.size g r ∧ RS = restores r (l.drop j) ∧ Below w.heap.size w wr) (fun vi _ => ((n : Int) - intOf vi).toNat)
  case atStart => exact ⟨0, newP id, by omega, rfl, hR1, hRS, hb1⟩
  case round =>
    clear hR1 hRS hb1
    obtain ⟨j, r, hj, rfl, hRl, hE, hbo⟩ := hrel
    obtain ⟨wo, rfl⟩ : ∃ wo : World, wo = wr := ⟨_, rfl⟩
    have hso := hbo.size
    obtain ⟨S, T, hW, hT⟩ := hRl
    by_cases hlt : j < n
    · have hlj : (j : Int) < n := by omega
      obtain ⟨⟨ms, hms, hr, hm⟩, hln, hnt⟩ := hR
      obtain ⟨b, o, rfl, hbl, hcc⟩ := hr.plain (by omega) (by omega)
      have hml : ms.length = n := by rw [← hln, ← hms, List.length_map]
      have hjm : j < ms.length := by omega
      have hg : ms[j]? = some (ms[j]'hjm) := List.getElem?_eq_getElem hjm
      have hB := hm _ (List.getElem_mem hjm)
      have m1 : wo.cell? ⟨b, o + j, none⟩ = some (ms[j]'hjm).2 := by
        rw [hbo.cell (p := ⟨b, o + j, none⟩) hbl]
        exact hcc _ _ (by rw [List.getElem?_map, hg]; rfl)
      have hdr : l.drop j = (ms[j]'hjm).1 :: l.drop (j + 1) := by
        have hlt2 : j < l.length := by omega
        rw [List.drop_eq_getElem_cons hlt2]
        congr 1
        have : l[j]? = some (ms[j]'hjm).1 := by rw [← hms, List.getElem?_map, hg]; rfl
        rw [List.getElem?_eq_getElem hlt2] at this
        exact Option.some.inj this
      have hbn := hb (ms[j]'hjm).1 (by rw [← hms]; exact List.mem_map_of_mem (List.getElem_mem hjm))
      generalize ms[j]'hjm = y at *
      obtain ⟨bs, u⟩ := y
      simp only at hB m1 hdr hbn
      have hBo := hB.kp (Kp.of_below hbo)
      have hRes := restore_any u bs wo hW hBo hbn
      rw [hdr] at hE
      unfold restores at hE
      obtain ⟨uA, un, uc, hu⟩ := hB.sl
      have hbw : b < wo.heap.size := by omega
      rw [hu] at m1 hRes
      clear hr hm hcc hg hms hB hBo
      rcases hrp : restoreP r bs with _ | r'
      · rw [hrp] at hRes
        have hE' : RS = none := by rw [hE, hrp]
        clear hE
        simp only [Option.isSome_none, Option.getD_none] at hRes
        go_wp2_with (go_at_call 75; (with_reducible refine hRes.mono ?_); rintro e w5 hA5; obtain ⟨_, hb5, _, rfl⟩ := hA5.rly (base := w.heap.size) hW hT hso)
        refine bodyPost_ret (v := .tuple #[.pointer none, .int .i64 200]) (by simp [results, Try.results30, go_sem] <;> rfl) rfl ?_
        rw [hE']
        exact ⟨hbo.trans hb5, rfl⟩
      · rw [hrp] at hRes hE
        simp only [Option.isSome_some, Option.getD_some] at hRes hE
        have hE' := hide hE
        clear hE
        go_wp2_with (go_at_call 75; (with_reducible refine hRes.mono ?_); rintro e w5 hA5; obtain ⟨hR5, hb5, _, rfl⟩ := hA5.rly (base := w.heap.size) hW hT hso)
        go_roundw
        case rel => exact ⟨j + 1, r', by omega, by go_num, hR5, hE'.out, hbo.trans hb5⟩
        case measure => simp [intOf]; omega
    · obtain rfl : j = n := by omega
      rw [List.drop_eq_nil_of_le (by rw [hR.len]; omega)] at hE
      simp only [restores] at hE
      have hE' := hide hE
      clear hE
      obtain ⟨hok, Am, cm, vl, mb, hX⟩ := hW
      have hXo := hX.own
      obtain ⟨ms0, _, hown0, _⟩ := hXo
      obtain ⟨Al, cl, hvl, _⟩ := own_sl hown0
      clear hown0
      subst hvl
      have c0 := hX.blk.cell
      have f0 := hX.blk.frozen
      have l0 := hX.blk.lt
      have hoA : Only wo ((((wo.setCell ⟨g, 6, none⟩ (.int .i64 0)).setCell ⟨g, 8, none⟩ (.bool false)).setCell ⟨g, 7, none⟩ (.map (some wo.heap.size))).alloc (Obj.map #[] 0)) g := (((Only.setCell wo g 6 _).trans (Only.setCell _ g 8 _)).trans (Only.setCell _ g 7 _)).alloc _
      have hXA : RelX ((((wo.setCell ⟨g, 6, none⟩ (.int .i64 0)).setCell ⟨g, 8, none⟩ (.bool false)).setCell ⟨g, 7, none⟩ (.map (some wo.heap.size))).alloc (Obj.map #[] 0)) (fun k => S k ∨ k = wo.heap.size) (fun k => T k ∨ k = wo.heap.size) g { r with sure := 0, act := false, acks := [] } Am cm (.slice Al r.log.length cl) wo.heap.size :=
        hX.remap hoA ((((hX.blk.set_ 6 (.int .i64 0)).set_ 8 (.bool false)).set_ 7 (.map (some wo.heap.size))).alloc _) rfl rfl (by
          have := Mp.made (((wo.setCell ⟨g, 6, none⟩ (.int .i64 0)).setCell ⟨g, 8, none⟩ (.bool false)).setCell ⟨g, 7, none⟩ (.map (some wo.heap.size)))
          simpa using this) (Nat.le_refl _)
      go_upto_region 11 with fail
      refine abstr (fun W => RelX W (fun k => S k ∨ k = wo.heap.size) (fun k => T k ∨ k = wo.heap.size) g { r with sure := 0, act := false, acks := [] } Am cm (.slice Al r.log.length cl) wo.heap.size ∧ Only wo W g) ⟨hXA, hoA⟩ (fun W hW => ?_)
      obtain ⟨hX1, ho1⟩ := hW
      have hgb : w.heap.size ≤ g := hT _ (hX.sub _ hX.g)
      have hid := hok.id
      have hln := hok.n
      obtain ⟨r1, hr1⟩ : ∃ r1 : Rl, r1 = { r with sure := 0, act := false, acks := [] } := ⟨_, rfl⟩
      have hok1 : r1.ok := by rw [hr1]; exact ⟨hok.id, hok.v, hok.n, hok.log, hok.j, by simp, (fun x hx => by cases hx), List.nodup_nil⟩
      have hLP : loadedP r = settleP (if r1.leads then { r1 with acks := ackedL r1.id r1.log.length [] } else r1) := by rw [hr1]; rfl
      have hlok := loaded_ok hok
      have hT1 : ∀ k, (T k ∨ k = wo.heap.size) → w.heap.size ≤ k := fun k hk => hk.elim (hT k) (fun e => by omega)
      have hlog : r.log.length = r1.log.length := by rw [hr1]
      rw [← hr1] at hX1
      have hbW : Below w.heap.size w W := hbo.trans (ho1.below hgb hso)
      generalize hm1 : wo.heap.size = mw at *
      have hr1' := hide hr1
      clear hXA hoA hX c0 f0 l0 hr1 hm1
      have hLd := leads_any W hX1
      rcases hl : r1.leads with _ | _
      · rw [hl] at hLd hLP
        simp only [Bool.false_eq_true, if_false] at hLP
        go_wp2_with (first | (go_at_call 44; (with_reducible refine hLd.mono ?_); rintro e w2 ⟨rfl, hb2⟩; have hX2 := hX1.below hb2) | (go_at_call 46; (with_reducible refine (settle_any w2 hX2 hok1).mono ?_); rintro e w3 ⟨rfl, hX3, ho3⟩))
        refine bodyPost_ret (v := .tuple #[.pointer (some ⟨g, 0, none⟩), .int .i64 0]) (by simp [results, Try.results30, go_sem] <;> rfl) rfl ?_
        rw [hE'.out]
        have hs2 := hb2.size
        refine ⟨(hbW.trans (hb2.mono hbW.size)).trans (ho3.below hgb (by have := hbW.size; omega)), g, rfl, (fun k => S k ∨ k = mw), (fun k => T k ∨ k = mw), ⟨hlok, Am, cm, (.slice Al r.log.length cl), mw, ?_⟩, hT1⟩
        rw [hLP]
        exact hX3
      · rw [hl] at hLd hLP
        simp only [if_true] at hLP
        go_upto_region 12 with (go_at_call 44; (with_reducible refine hLd.mono ?_); rintro e w2 ⟨rfl, hb2⟩; have hX2 := hX1.below hb2)
        have c2 := hX2.blk.cell
        have l2 := hX2.blk.lt
        have hs2 := hb2.size
        refine First.wp_region_first_ext [3, 7, 11] [0, 1, 2, 4, 5, 6, 8, 9, 10, 12] [(true, false, 0), (true, false, 1), (true, false, 2), (true, true, 3), (true, false, 4), (true, false, 5), (true, false, 6), (true, true, 7), (true, false, 8), (true, false, 9), (true, false, 10), (true, true, 11), (true, false, 12), (false, false, 13)] (by kernel_rfl) (by kernel_rfl) (fun X => ?_); simp only [List.map_cons, List.map_nil, List.getD_cons_zero, List.getD_cons_succ]
        have hmp : Mp (w2.ext X) mw [] := by
          have := hX2.mp.kp (Kp.of_below (S := fun _ => False) (World.below_ext w2 X)) (fun h => h)
          rwa [show r1.acks = [] by rw [hr1'.out]] at this
        (repeat (first | (refine First.wpF_pure (fun K hK => ?_); go_simp; first | (refine hK _ _ ?_; clear hK K) | (apply Exists.intro; refine ⟨fun _ => ?_, hK _ _ ?_⟩; fail)) | (refine First.wpF_free (fun K hK => ?_); go_simp; first | (refine hK _ _ ?_; clear hK K))))
        refine First.wpF_must (fun K hK => ?_)
        go_wp2_with (at_mapUpdate; refine wpList_put rfl _ _ _ rfl mw [] rfl hmp r1.id r1.log.length rfl rfl (by have := hok1.id; unfold I64; omega) (by have := hok1.n; omega) (by simp) List.nodup_nil (fun w5 hm5 ho5 => ?_))
        (refine hK _ _ (fun hnd => by first | exact Bool.noConfusion hnd | assumption | with_reducible exact grown_alloc _ _ | with_reducible exact First.Grown.refl _ | with_reducible exact First.Grown.cat _ _ _ | with_reducible exact First.Grown.ext _ _) ?_; clear hK K)
        refine First.wpF_nil ?_
        have hX5 : RelX w5 (fun k => S k ∨ k = mw) (fun k => T k ∨ k = mw) g { r1 with acks := ackedL r1.id r1.log.length [] } Am cm (.slice Al r.log.length cl) mw := (hX2.below (World.below_ext w2 X)).acks ho5 hm5 rfl
        have hok5 : ({ r1 with acks := ackedL r1.id r1.log.length [] } : Rl).ok := ⟨hok1.id, hok1.v, hok1.n, hok1.log, hok1.j, hok1.s, acked_ok (fun x hx => by cases hx) hok1.n hok1.id, acked_nodup List.nodup_nil⟩
        have hmb : w.heap.size ≤ mw := hT1 mw (.inr rfl)
        have hb05 : Below w.heap.size w w5 := ((hbW.trans (hb2.mono hbW.size)).trans ((World.below_ext w2 X).mono (by have := hbW.size; omega))).trans (ho5.below hmb (by have := hbW.size; simp only [World.size_ext]; omega))
        have hcs := settle_any w5 hX5 hok5
        go_wp2_with (go_at_call 46; (with_reducible refine hcs.mono ?_); rintro e w6 ⟨rfl, hX6, ho6⟩)
        refine bodyPost_ret (v := .tuple #[.pointer (some ⟨g, 0, none⟩), .int .i64 0]) (by simp [results, Try.results30, go_sem] <;> rfl) rfl ?_
        rw [hE'.out]
        refine ⟨hb05.trans (ho6.below hgb hb05.size), g, rfl, (fun k => S k ∨ k = mw), (fun k => T k ∨ k = mw), ⟨hlok, Am, cm, (.slice Al r.log.length cl), mw, ?_⟩, hT1⟩
        rw [hLP]
        exact hX6
end Go.Proofs.Ytjhcgnmibnjocaa
