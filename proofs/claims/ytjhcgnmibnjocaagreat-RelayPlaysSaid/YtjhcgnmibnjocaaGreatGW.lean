import Derived.Test.YtjhcgnmibnjocaaGreatW12
import Derived.Test.YtjhcgnmibnjocaaGreatGZ
import Derived.Test.YtjhcgnmibnjocaaGreatY50
import Derived.Test.YtjhcgnmibnjocaaGreatY32
import Derived.Test.YtjhcgnmibnjocaaGreatW7
import Derived.Test.YtjhcgnmibnjocaaGreatY30
/-! Several texts in one. -/
set_option linter.unusedVariables false
set_option linter.unusedSimpArgs false
namespace Go.Proofs.YtjhcgnmibnjocaaGreat
open Go.RowKit Go.Maps
theorem RelX.move {w w' : World} {S T S' T' R : Nat → Prop} {g : Nat} {r : Rl} {Am : Option Addr} {cm : Nat} {vl : Value} {mb : Nat} (h : RelX w S T g r Am cm vl mb) (hk : Kp R w w') (h1 : ∀ k, R k → T k) (h1' : ∀ k, R k → T' k) (h2 : ∀ k, S k → ¬R k)
  (h3 : ∀ k, k < w.heap.size → T' k → T k) (h4 : ∀ k, S k → S' k) (h5 : ∀ k, S' k → T' k) (h6 : ∀ k, T' k → k < w'.heap.size) : RelX w' S' T' g r Am cm vl mb := by
 refine ⟨Blk.kp h.blk hk (h2 _ h.g), Reads.kp h.rd (hk.weaken h1) h.mt, fun h0 a ha ht => ?_, (h.own.sub h3).keep (hk.weaken h1') (fun k hv hl => hk.block k hl (h2 k (h.vs k hv))), fun k hv => h4 _ (h.vs k hv), h.mp.kp hk (h2 _ h.ms), h4 _ h.ms, h.mg, h.vg, h.vm, h4 _ h.g, h5, h6⟩
 obtain ⟨a', e', hl', _⟩ := h.rd.2 h0
 rw [ha] at e'; cases e'
 exact h.mt h0 a ha (h3 _ hl' ht)
theorem RelW.move {w w' : World} {S T S' T' R : Nat → Prop} {g : Nat} {r : Rl} (h : RelW w S T g r) (hk : Kp R w w') (h1 : ∀ k, R k → T k) (h1' : ∀ k, R k → T' k) (h2 : ∀ k, S k → ¬R k)
  (h3 : ∀ k, k < w.heap.size → T' k → T k) (h4 : ∀ k, S k → S' k) (h5 : ∀ k, S' k → T' k) (h6 : ∀ k, T' k → k < w'.heap.size) : RelW w' S' T' g r := by
 obtain ⟨hok, Am, cm, vl, mb, hX⟩ := h
 exact ⟨hok, Am, cm, vl, mb, hX.move hk h1 h1' h2 h3 h4 h5 h6⟩
theorem run_appR {w : World} {t ty e : TypeId} {i : TypeInfo} {z : Value} {size bytes : Nat} (ht : Tryz.prog.underlying t = some (.slice e)) (hi : Tryz.prog.info? e = some i) (hz : i.zero = some z) (hsize : i.size = size) (hby : i.bytes = bytes) (hzs : z.cells.size = size) (hsz : 0 < size)
  {v : Value} {n : Nat} {xs : List Value} (hown : w.ownsRow 0 e size v n xs) {A : Option Addr} {m c : Nat} {news : List Value} (hr : Reads w w.heap.size size A m news) (h1 : ∀ u ∈ news, u.oneCell' = true) (h63 : n + m ≤ maxLen) (hbytes : (n + m) * bytes ≤ 140737488355328) :
  ∃ v' w', (Builtin.append_ #[t, t] ty #[v, .slice A m c]).run Tryz.prog w = .ok v' w' ∧ w'.ownsRow 0 e size v' (n + m) (xs ++ news) ∧ w.grownBy w' v.ownBlock ∧ (v'.ownBlock = v.ownBlock ∨ v'.ownBlock = some w.heap.size) := by
 rcases A with _ | ad
 ·have h0 : m = 0 := by
   rcases Nat.eq_zero_or_pos m with h | h
   ·exact h
   ·obtain ⟨_, e, _⟩ := hr.2 h; cases e
  subst h0
  have hn : news = [] := List.eq_nil_of_length_eq_zero (by have := hr.1; omega)
  subst hn
  refine ⟨v, w, ?_, by simpa using hown, ⟨rfl, rfl, rfl, Nat.le_refl _, fun _ _ _ => rfl⟩, .inl rfl⟩
  rcases hown.2 with ⟨rfl, rfl⟩ | ⟨g, cap, cur, rfl, hb, hh, hnc, hmx, hcs, htk⟩
  ·simp [Builtin.append_, run_underlying ht, sizeOf, typeInfo, hi, Builtin.lenOf, Builtin.firstCells]
  ·have hsrc := Src.ofNil (P := Tryz.prog) (size := i.size) (tx := t) w ht c
   exact run_append_room_src (P := Tryz.prog) w t t ty e i ht hi g 0 n cap (.slice none 0 c) 0 [] hsrc (by omega) (fun j hj => by cases hj) (fun j hj => by cases hj)
 ·have hnews : ∀ j u, news[j]? = some u → w.cell? (ad.add j) = some u := fun j u hu => by
   have hm : 0 < m := by
    rcases Nat.eq_zero_or_pos m with h | h
    ·subst h
     have hn : news = [] := List.eq_nil_of_length_eq_zero (by have := hr.1; omega)
     subst hn
     cases hu
    ·exact h
   obtain ⟨ad', e', _, hc⟩ := hr.2 hm
   cases e'
   exact hc j u hu
  obtain ⟨v', w', r1, r2, r3, _, r5⟩ := run_append_own_at (P := Tryz.prog) w 0 t ty e i z size bytes ht hi hz hsize hby hzs hsz v n xs hown ad m c news hr.1 hnews h1 h63 hbytes (Nat.zero_le _)
  exact ⟨v', w', r1, r2, r3, r5⟩
theorem grown_kp {w w' : World} {r : Option Nat} (h : w.grownBy w' r) : Kp (fun k => r = some k) w w' := ⟨h.os, h.tape, h.output, h.size, fun k hk hn => h.block k hk (fun e => hn e.symm)⟩
theorem bss_one {w : World} {T : Nat → Prop} {ms : List (List Nat × Value)} (h : ∀ m ∈ ms, Bsl w T m.2 m.1) : ∀ u ∈ ms.map Prod.snd, u.oneCell' = true := fun u hu => by
 obtain ⟨m, hm, rfl⟩ := List.mem_map.1 hu
 obtain ⟨A, c, e, _⟩ := (h m hm).ex
 rw [e]; rfl
def Rln (w : World) (base g : Nat) (r : Rl) : Prop := ∃ S T, RelW w S T g r ∧ (∀ k, S k → base ≤ k) ∧ (∀ k, k < base → T k)
theorem RelX.newT {w : World} {S T T' : Nat → Prop} {g : Nat} {id : Int} {vl : Value} {mb cm : Nat} {Am : Option Addr} (h : RelX w S T g (newP id) Am cm vl mb) (h1 : ∀ k, S k → T' k) (h2 : ∀ k, T' k → k < w.heap.size) : RelX w S T' g (newP id) Am cm vl mb := by
 refine ⟨h.blk, h.rd, fun h0 => absurd h0 (by simp [newP, Vi.none]), ?_, h.vs, h.mp, h.ms, h.mg, h.vg, h.vm, h.g, h1, h2⟩
 obtain ⟨ms, e, ho, hm⟩ := h.own
 have : ms = [] := List.map_eq_nil_iff.1 e
 subst this
 exact ⟨[], e, ho, fun m hm => by cases hm⟩
theorem Rln.new {w : World} {S T : Nat → Prop} {g base : Nat} {id : Int} {vl : Value} {mb cm : Nat} {Am : Option Addr} (hid : 0 ≤ id ∧ id < 8) (h : RelX w S T g (newP id) Am cm vl mb) (hb : True) (hs : base ≤ w.heap.size) (h1 : ∀ k, T k → k < w.heap.size) (h2 : ∀ k, S k → base ≤ k) : Rln w base g (newP id) :=
 ⟨S, fun k => k < base ∨ S k, ⟨newP_ok hid, _, _, _, _, h.newT (fun k hk => .inr hk) (fun k hk => hk.elim (fun h' => by omega) (fun h' => h1 k (h.sub k h')))⟩, h2, fun k hk => .inl hk⟩
theorem Aft.rln {w w' : World} {S T : Nat → Prop} {g base : Nat} {r r' : Rl} {K : (Nat → Prop) → Prop} (h : Aft w w' S T g r' K) (h0 : RelW w S T g r) (hS : ∀ k, S k → base ≤ k) (hT : ∀ k, k < base → T k) (hb : base ≤ w.heap.size) : Rln w' base g r' ∧ Below base w w' ∧ ∃ T', K T' := by
 obtain ⟨S', hW, hk, hs, hK⟩ := h
 exact ⟨⟨S', _, hW, fun k hk => (hs k hk).elim (hS k) (fun h => by omega), fun k hk => .inl (hT k hk)⟩, hk.below hb hS, _, hK⟩
def LoadedF (o : Option Rl) (w' : World) (base : Nat) (e : Ending) : Prop := match o with
 | none => e = .returned (.tuple #[.pointer none, .int .i64 200])
 | some r => ∃ g, e = .returned (.tuple #[.pointer (some ⟨g, 0, none⟩), .int .i64 0]) ∧ Rln w' base g (loadedP r)
theorem loadedF_some {r : Rl} {w' : World} {base : Nat} {e : Ending} (h : LoadedF (some r) w' base e) : ∃ g, e = .returned (.tuple #[.pointer (some ⟨g, 0, none⟩), .int .i64 0]) ∧ Rln w' base g (loadedP r) := h
attribute [local irreducible] First.wpF
set_option maxRecDepth 100000 in
set_option maxHeartbeats 4000000 in
theorem load_far {T0 : Nat → Prop} (id : Int) (A : Option Addr) (n c : Nat) (l : List (List Nat)) (w : World) (h : 0 ≤ id ∧ id < 8) (hR : Recs w T0 A n l) (hT0 : ∀ k, w.heap.size ≤ k → T0 k) (hn : n ≤ 9223372036854775807) (hb : ∀ b ∈ l, b.length ≤ 1000000) :
  Calls Tryz.prog 20 #[.int .i64 id, .slice A n c] w fun e w' => Below w.heap.size w w' ∧ LoadedF (restores (newP id) l) w' w.heap.size e := by
 have hN := rnew_yes id w h
 have hmm := @run_makeMap Tryz.prog
 obtain ⟨RS, hRS⟩ : ∃ RS, RS = restores (newP id) l := ⟨_, rfl⟩
 rw [← hRS]
 go_enter Tryz.func20, Tryz.ntmps20
 go_wp2_with (go_at_call 4; (with_reducible refine hN.mono ?_); rintro e w1 ⟨rfl, hX1, hb1⟩)
 have hR1 : Rln w1 w.heap.size (w.heap.size + 1) (newP id) := Rln.new h hX1 trivial hb1.size (fun k hk => by have := hX1.lt k hk; exact this) (fun k hk => by rcases hk with hk | hk <;> omega)
 clear hX1 hN
 generalize w.heap.size + 1 = g at *
 go_loopw [20] (fun vi wr => ∃ (j : Nat) (r : Rl), j ≤ n ∧ vi = .int .i64 (j : Int) ∧ Rln wr w.heap.size g r ∧ RS = restores r (l.drop j) ∧ Below w.heap.size w wr) (fun vi _ => ((n : Int) - intOf vi).toNat)
 case atStart => exact ⟨0, newP id, by omega, rfl, hR1, hRS, hb1⟩
 case round =>
  clear hR1 hRS hb1
  obtain ⟨j, r, hj, rfl, hRl, hE, hbo⟩ := hrel
  obtain ⟨wo, rfl⟩ : ∃ wo : World, wo = wr := ⟨_, rfl⟩
  have hso := hbo.size
  obtain ⟨S, T, hW, hS, hT⟩ := hRl
  by_cases hlt : j < n
  ·have hlj : (j : Int) < n := by omega
   obtain ⟨⟨ms, hms, hr, hm⟩, hln, hnt⟩ := hR
   obtain ⟨b, o, rfl, hbl, hcc⟩ := hr.plain (by omega) (by omega)
   have hml : ms.length = n := by rw [← hln, ← hms, List.length_map]
   have hjm : j < ms.length := by omega
   have hg : ms[j]? = some (ms[j]'hjm) := List.getElem?_eq_getElem hjm
   have hB := hm _ (List.getElem_mem hjm)
   have m1 : wo.cell? ⟨b, o + j, none⟩ = some (ms[j]'hjm).2 := by
    rw [hbo.cell (p := ⟨b, o + j, none⟩) hbl]
    exact hcc _ _ (by rw [List.getElem?_map, hg]; rfl)
   have hdr : l.drop j = (ms[j]'hjm).1 :: l.drop (j + 1) := by
    have hlt2 : j < l.length := by omega
    rw [List.drop_eq_getElem_cons hlt2]
    congr 1
    have : l[j]? = some (ms[j]'hjm).1 := by rw [← hms, List.getElem?_map, hg]; rfl
    rw [List.getElem?_eq_getElem hlt2] at this
    exact Option.some.inj this
   have hbn := hb (ms[j]'hjm).1 (by rw [← hms]; exact List.mem_map_of_mem (List.getElem_mem hjm))
   generalize ms[j]'hjm = y at *
   obtain ⟨bs, u⟩ := y
   simp only at hB m1 hdr hbn
   have hBo := hB.kp (Kp.of_below hbo)
   have hRes := restore_any u bs wo hW hBo hbn
   rw [hdr] at hE
   unfold restores at hE
   obtain ⟨uA, un, uc, hu⟩ := hB.sl
   have hbw : b < wo.heap.size := by omega
   rw [hu] at m1 hRes
   clear hr hm hcc hg hms hB hBo
   rcases hrp : restoreP r bs with _ | r'
   ·rw [hrp] at hRes
    have hE' : RS = none := by rw [hE, hrp]
    clear hE
    simp only [Option.isSome_none, Option.getD_none] at hRes
    go_wp2_with (go_at_call 54; (with_reducible refine hRes.mono ?_); rintro e w5 hA5; obtain ⟨_, hb5, _, rfl⟩ := hA5.rln (base := w.heap.size) hW hS hT hso)
    refine bodyPost_ret (v := .tuple #[.pointer none, .int .i64 200]) (by simp [results, Tryz.results20, go_sem] <;> rfl) rfl ?_
    rw [hE']
    exact ⟨hbo.trans hb5, rfl⟩
   ·rw [hrp] at hRes hE
    simp only [Option.isSome_some, Option.getD_some] at hRes hE
    have hE' := hide hE
    clear hE
    go_wp2_with (go_at_call 54; (with_reducible refine hRes.mono ?_); rintro e w5 hA5; obtain ⟨hR5, hb5, _, rfl⟩ := hA5.rln (base := w.heap.size) hW hS hT hso)
    go_roundw
    case rel => exact ⟨j + 1, r', by omega, by go_num, hR5, hE'.out, hbo.trans hb5⟩
    case measure => simp [intOf]; omega
  ·obtain rfl : j = n := by omega
   rw [List.drop_eq_nil_of_le (by rw [hR.len]; omega)] at hE
   simp only [restores] at hE
   have hE' := hide hE
   clear hE
   obtain ⟨hok, Am, cm, vl, mb, hX⟩ := hW
   have hXo := hX.own
   obtain ⟨ms0, _, hown0, _⟩ := hXo
   obtain ⟨Al, cl, hvl, _⟩ := own_sl hown0
   clear hown0
   subst hvl
   have c0 := hX.blk.cell
   have f0 := hX.blk.frozen
   have l0 := hX.blk.lt
   have hoA : Only wo ((((wo.setCell ⟨g, 6, none⟩ (.int .i64 0)).setCell ⟨g, 8, none⟩ (.bool false)).setCell ⟨g, 7, none⟩ (.map (some wo.heap.size))).alloc (Obj.map #[] 0)) g := (((Only.setCell wo g 6 _).trans (Only.setCell _ g 8 _)).trans (Only.setCell _ g 7 _)).alloc _
   have hXA : RelX ((((wo.setCell ⟨g, 6, none⟩ (.int .i64 0)).setCell ⟨g, 8, none⟩ (.bool false)).setCell ⟨g, 7, none⟩ (.map (some wo.heap.size))).alloc (Obj.map #[] 0)) (fun k => S k ∨ k = wo.heap.size) (fun k => T k ∨ k = wo.heap.size) g { r with sure := 0, act := false, acks := [] } Am cm (.slice Al r.log.length cl) wo.heap.size :=
    hX.remap hoA ((((hX.blk.set_ 6 (.int .i64 0)).set_ 8 (.bool false)).set_ 7 (.map (some wo.heap.size))).alloc _) rfl rfl (by
     have := Mp.made (((wo.setCell ⟨g, 6, none⟩ (.int .i64 0)).setCell ⟨g, 8, none⟩ (.bool false)).setCell ⟨g, 7, none⟩ (.map (some wo.heap.size)))
     simpa using this) (Nat.le_refl _)
   go_upto_region 11 with fail
   refine abstr (fun W => RelX W (fun k => S k ∨ k = wo.heap.size) (fun k => T k ∨ k = wo.heap.size) g { r with sure := 0, act := false, acks := [] } Am cm (.slice Al r.log.length cl) wo.heap.size ∧ Only wo W g) ⟨hXA, hoA⟩ (fun W hW => ?_)
   obtain ⟨hX1, ho1⟩ := hW
   have hgb : w.heap.size ≤ g := hS _ hX.g
   have hid := hok.id
   have hln := hok.n
   obtain ⟨r1, hr1⟩ : ∃ r1 : Rl, r1 = { r with sure := 0, act := false, acks := [] } := ⟨_, rfl⟩
   have hok1 : r1.ok := by rw [hr1]; exact ⟨hok.id, hok.v, hok.n, hok.log, hok.j, by simp, (fun x hx => by cases hx), List.nodup_nil⟩
   have hLP : loadedP r = settleP (if r1.leads then { r1 with acks := ackedL r1.id r1.log.length [] } else r1) := by rw [hr1]; rfl
   have hlok := loaded_ok hok
   have hT1 : ∀ k, (S k ∨ k = wo.heap.size) → w.heap.size ≤ k := fun k hk => hk.elim (hS k) (fun e => by omega)
   have hlog : r.log.length = r1.log.length := by rw [hr1]
   rw [← hr1] at hX1
   have hbW : Below w.heap.size w W := hbo.trans (ho1.below hgb hso)
   generalize hm1 : wo.heap.size = mw at *
   have hr1' := hide hr1
   clear hXA hoA hX c0 f0 l0 hr1 hm1
   have hLd := leads_any W hX1
   rcases hl : r1.leads with _ | _
   ·rw [hl] at hLd hLP
    simp only [Bool.false_eq_true, if_false] at hLP
    go_wp2_with (first | (go_at_call 32; (with_reducible refine hLd.mono ?_); rintro e w2 ⟨rfl, hb2⟩; have hX2 := hX1.below hb2) | (go_at_call 34; (with_reducible refine (settle_any w2 hX2 hok1).mono ?_); rintro e w3 ⟨rfl, hX3, ho3⟩))
    refine bodyPost_ret (v := .tuple #[.pointer (some ⟨g, 0, none⟩), .int .i64 0]) (by simp [results, Tryz.results20, go_sem] <;> rfl) rfl ?_
    rw [hE'.out]
    have hs2 := hb2.size
    refine ⟨(hbW.trans (hb2.mono hbW.size)).trans (ho3.below hgb (by have := hbW.size; omega)), g, rfl, (fun k => S k ∨ k = mw), (fun k => T k ∨ k = mw), ⟨hlok, Am, cm, (.slice Al r.log.length cl), mw, ?_⟩, hT1, fun k hk => .inl (hT k hk)⟩
    rw [hLP]
    exact hX3
   ·rw [hl] at hLd hLP
    simp only [if_true] at hLP
    go_upto_region 12 with (go_at_call 32; (with_reducible refine hLd.mono ?_); rintro e w2 ⟨rfl, hb2⟩; have hX2 := hX1.below hb2)
    have c2 := hX2.blk.cell
    have l2 := hX2.blk.lt
    have hs2 := hb2.size
    refine First.wp_region_first_ext [3, 7, 11] [0, 1, 2, 4, 5, 6, 8, 9, 10, 12] [(true, false, 0), (true, false, 1), (true, false, 2), (true, true, 3), (true, false, 4), (true, false, 5), (true, false, 6), (true, true, 7), (true, false, 8), (true, false, 9), (true, false, 10), (true, true, 11), (true, false, 12), (false, false, 13)] (by kernel_rfl) (by kernel_rfl) (fun X => ?_); simp only [List.map_cons, List.map_nil, List.getD_cons_zero, List.getD_cons_succ]
    have hmp : Mp (w2.ext X) mw [] := by
     have := hX2.mp.kp (Kp.of_below (S := fun _ => False) (World.below_ext w2 X)) (fun h => h)
     rwa [show r1.acks = [] by rw [hr1'.out]] at this
    (repeat (first | (refine wfp fun K hK => ?_; go_simp; refine hK _ _ ?_; clear hK K) | (refine wff fun K hK => ?_; go_simp; refine hK _ _ ?_; clear hK K)))
    refine First.wpF_must (fun K hK => ?_)
    go_wp2_with (at_mapUpdate; refine wpList_put rfl _ _ _ rfl mw [] rfl hmp r1.id r1.log.length rfl rfl (by have := hok1.id; unfold I64; omega) (by have := hok1.n; omega) (by simp) List.nodup_nil (fun w5 hm5 ho5 => ?_))
    (refine hK _ _ (fun hnd => by first | exact Bool.noConfusion hnd | assumption | with_reducible (first | exact grown_alloc _ _ | exact First.Grown.refl _ | exact First.Grown.cat _ _ _ | exact First.Grown.ext _ _)) ?_; clear hK K)
    refine First.wpF_nil ?_
    have hX5 : RelX w5 (fun k => S k ∨ k = mw) (fun k => T k ∨ k = mw) g { r1 with acks := ackedL r1.id r1.log.length [] } Am cm (.slice Al r.log.length cl) mw := (hX2.below (World.below_ext w2 X)).acks ho5 hm5 rfl
    have hok5 : ({ r1 with acks := ackedL r1.id r1.log.length [] } : Rl).ok := ⟨hok1.id, hok1.v, hok1.n, hok1.log, hok1.j, hok1.s, acked_ok (fun x hx => by cases hx) hok1.n hok1.id, acked_nodup List.nodup_nil⟩
    have hmb : w.heap.size ≤ mw := hT1 mw (.inr rfl)
    have hb05 : Below w.heap.size w w5 := ((hbW.trans (hb2.mono hbW.size)).trans ((World.below_ext w2 X).mono (by have := hbW.size; omega))).trans (ho5.below hmb (by have := hbW.size; simp only [World.size_ext]; omega))
    have hcs := settle_any w5 hX5 hok5
    go_wp2_with (go_at_call 34; (with_reducible refine hcs.mono ?_); rintro e w6 ⟨rfl, hX6, ho6⟩)
    refine bodyPost_ret (v := .tuple #[.pointer (some ⟨g, 0, none⟩), .int .i64 0]) (by simp [results, Tryz.results20, go_sem] <;> rfl) rfl ?_
    rw [hE'.out]
    refine ⟨hb05.trans (ho6.below hgb hb05.size), g, rfl, (fun k => S k ∨ k = mw), (fun k => T k ∨ k = mw), ⟨hlok, Am, cm, (.slice Al r.log.length cl), mw, ?_⟩, hT1, fun k hk => .inl (hT k hk)⟩
    rw [hLP]
    exact hX6
end Go.Proofs.YtjhcgnmibnjocaaGreat

namespace Go.Proofs.YtjhcgnmibnjocaaGreat
open Go.RowKit Go.Maps
structure PlX (w0 W : World) (S T : Nat → Prop) (g pm : Nat) (rp rd : Rl) (s8 vm vl va : Value) (L : List (List Nat)) : Prop where
 rel : RelW W S T g rp
 tb : ∀ k, T k → w0.heap.size ≤ k
 tp : T pm ∧ ¬S pm
 ow : ∀ k, s8.ownBlock = some k → T k ∧ ¬S k ∧ k ≠ pm
 blk : Blk W pm 34 #[.int .i64 rd.id, .int .i64 rd.v.e, .int .i64 rd.v.p, vm, vl, .int .i64 rd.joined, .int .i64 (rd.sure : Int), va, .bool rd.act]
 dr : DrW W T vm vl va rd
 own : OwnR W T w0.heap.size s8 L
 b : Below w0.heap.size w0 W
theorem RelW.sub {w : World} {S T : Nat → Prop} {g : Nat} {r : Rl} (h : RelW w S T g r) : (∀ k, S k → T k) ∧ (∀ k, T k → k < w.heap.size) ∧ r.ok ∧ S g := by
 obtain ⟨hok, Am, cm, vl, mb, hX⟩ := h
 exact ⟨hX.sub, hX.lt, hok, hX.g⟩
theorem PlX.lt {w0 W : World} {S T : Nat → Prop} {g pm : Nat} {rp rd : Rl} {s8 vm vl va : Value} {L : List (List Nat)} (h : PlX w0 W S T g pm rp rd s8 vm vl va L) : ∀ k, T k → k < W.heap.size := h.rel.sub.2.1
theorem PlX.below {w0 W W' : World} {S T : Nat → Prop} {g pm : Nat} {rp rd : Rl} {s8 vm vl va : Value} {L : List (List Nat)} (h : PlX w0 W S T g pm rp rd s8 vm vl va L) (hb : Below W.heap.size W W') : PlX w0 W' S T g pm rp rd s8 vm vl va L :=
 ⟨h.rel.down hb, h.tb, h.tp, h.ow, h.blk.below hb h.blk.lt, h.dr.kp (Kp.of_below hb), h.own.below hb, h.b.trans (hb.mono h.b.size)⟩
theorem PlX.aft {w0 W W' : World} {S T : Nat → Prop} {g pm : Nat} {rp rd r' : Rl} {s8 vm vl va : Value} {L : List (List Nat)} {K : (Nat → Prop) → Prop} (h : PlX w0 W S T g pm rp rd s8 vm vl va L) (hA : Aft W W' S T g r' K) :
  ∃ S', PlX w0 W' S' (fun k => T k ∨ S' k) g pm r' rd s8 vm vl va L ∧ W.heap.size ≤ W'.heap.size ∧ K (fun k => T k ∨ S' k) ∧ Kp S W W' ∧ ∀ k, S' k → S k ∨ W.heap.size ≤ k := by
 obtain ⟨S', hW, hk, hs, hK⟩ := hA
 obtain ⟨hST, hTl, _, _⟩ := h.rel.sub
 have hpl := h.blk.lt
 have hbs := h.b.size
 have hsub : ∀ k, k < W.heap.size → (T k ∨ S' k) → T k := fun k hk ht => ht.elim id (fun e => (hs k e).elim (hST k) (fun h => by omega))
 have hnp : ¬S' pm := fun e => (hs pm e).elim h.tp.2 (fun h => by omega)
 refine ⟨S', ⟨hW, fun k hk' => hk'.elim (h.tb k) (fun e => (hs k e).elim (fun e => h.tb k (hST k e)) (fun e => by omega)), ⟨.inl h.tp.1, hnp⟩, fun k hk' => ?_, Blk.kp h.blk hk h.tp.2, ?_, ?_, h.b.trans (hk.below hbs (fun k e => h.tb k (hST k e)))⟩, hk.size, hK, hk, hs⟩
 ·obtain ⟨h1, h2, h3⟩ := h.ow k hk'
  exact ⟨.inl h1, fun e => (hs k e).elim h2 (fun e => by have := hTl k h1; omega), h3⟩
 ·exact (h.dr.sub hsub).kp (hk.weaken fun k e => .inl (hST k e))
 ·exact (h.own.sub hsub).kp hk (fun k e => .inl (hST k e)) (fun k e => (h.ow k e).2.1)
theorem PlX.set_ {w0 W : World} {S T : Nat → Prop} {g pm : Nat} {rp rd r' : Rl} {s8 vm vl va vm' vl' va' : Value} {L : List (List Nat)} (h : PlX w0 W S T g pm rp rd s8 vm vl va L) (hD : DrW W T vm' vl' va' r') {W' : World} (hk : Kp (fun k => k = pm) W W') (hB : Blk W' pm 34 #[.int .i64 r'.id, .int .i64 r'.v.e, .int .i64 r'.v.p, vm', vl', .int .i64 r'.joined, .int .i64 (r'.sure : Int), va', .bool r'.act]) :
  PlX w0 W' S T g pm rp r' s8 vm' vl' va' L := by
 obtain ⟨hST, hTl, _, _⟩ := h.rel.sub
 refine ⟨h.rel.move hk (fun k e => by rw [e]; exact h.tp.1) (fun k e => by rw [e]; exact h.tp.1) (fun k hk e => h.tp.2 (by rw [← e]; exact hk)) (fun k _ ht => ht) (fun k hk => hk) hST (fun k ht => Nat.lt_of_lt_of_le (hTl k ht) hk.size), h.tb, h.tp, h.ow, hB, hD.kp (hk.weaken fun k e => by rw [e]; exact h.tp.1), h.own.kp hk (fun k e => by rw [e]; exact h.tp.1) (fun k e => (h.ow k e).2.2), h.b.trans (hk.below h.b.size (fun k e => by rw [e]; exact h.tb _ h.tp.1))⟩
theorem PlX.load {w0 W W' : World} {S T : Nat → Prop} {g g' pm : Nat} {rp rd r' : Rl} {s8 vm vl va : Value} {L : List (List Nat)} (h : PlX w0 W S T g pm rp rd s8 vm vl va L) (hb : Below W.heap.size W W') (hR : Rln W' W.heap.size g' r') :
  ∃ S', PlX w0 W' S' (fun k => T k ∨ S' k) g' pm r' rd s8 vm vl va L := by
 obtain ⟨S', T', hW, hS', hT'⟩ := hR
 have hTl := h.lt
 have hpl := h.blk.lt
 have hbs := h.b.size
 obtain ⟨hok, Am, cm, vl0, mb, hX⟩ := hW
 have hsub : ∀ k, k < W.heap.size → (T k ∨ S' k) → T k := fun k hk ht => ht.elim id (fun e => by have := hS' k e; omega)
 have hk : Kp (fun k => T k ∨ S' k) W W' := Kp.of_below hb
 refine ⟨S', ⟨⟨hok, Am, cm, vl0, mb, hX.widen (fun k e => e.elim (fun e => hT' k (hTl k e)) (hX.sub k)) (fun k e => .inr e)⟩, fun k e => e.elim (h.tb k) (fun e => by have := hS' k e; omega), ⟨.inl h.tp.1, fun e => by have := hS' _ e; omega⟩, fun k e => ?_, h.blk.below hb hpl, (h.dr.sub hsub).kp hk, (h.own.sub hsub).below hb, h.b.trans (hb.mono hbs)⟩⟩
 obtain ⟨h1, h2, h3⟩ := h.ow k e
 exact ⟨.inl h1, fun e => by have := hS' k e; have := hTl k h1; omega, h3⟩
theorem PlX.app {w0 W : World} {S T : Nat → Prop} {g pm : Nat} {rp rd : Rl} {s8 vm vl va : Value} {L R : List (List Nat)} (h : PlX w0 W S T g pm rp rd s8 vm vl va L) {A : Option Addr} {n c : Nat} (hr : Recs W T A n R) (hl : L.length ≤ 1000000) (hn : n ≤ 1000000) :
  ∃ A8 n8 c8 w' T', (Builtin.append_ #[35, 35] 35 #[s8, .slice A n c]).run Tryz.prog W = .ok (.slice A8 n8 c8) w' ∧ PlX w0 w' S T' g pm rp rd (.slice A8 n8 c8) vm vl va (L ++ R) := by
 obtain ⟨i0, hi, hz0, hz1, hz2⟩ := info_parts infoBs
 obtain ⟨hST, hTl, _, _⟩ := h.rel.sub
 have hpl := h.blk.lt
 have hbs := h.b.size
 obtain ⟨ns, he, hown, hns⟩ := h.own
 have hlt := h.own.lt
 obtain ⟨⟨ms, hme, hmr, hmm⟩, hln, hnt⟩ := hr
 obtain ⟨v', w', r1, r2, r3, r4⟩ := run_appR (t := 35) (ty := 35) (e := 36) Tryz.underlying35 hi hz0 hz1 hz2 rfl (by decide) (own_low hown (Nat.zero_le _)) (c := c) hmr (bss_one hmm) (by unfold maxLen; omega) (by omega)
 obtain ⟨A8, c8, rfl, _⟩ := own_sl r2
 have hk := grown_kp r3
 have hv : ∀ k, (Value.slice A8 (L.length + n) c8).ownBlock = some k → s8.ownBlock = some k ∨ k = W.heap.size := fun k e => by
  rcases r4 with h4 | h4
  ·exact .inl (h4 ▸ e)
  ·rw [h4] at e; cases e; exact .inr rfl
 have hlt' : ∀ k, (Value.slice A8 (L.length + n) c8).ownBlock = some k → k < w'.heap.size := fun k e => by
  rcases r2.2 with ⟨e', _⟩ | ⟨g', cap, cur, e', hb', hh, rr⟩
  ·rw [e'] at e; cases e
  ·rw [e'] at e; cases e; exact Blk.lt hh
 have hsub : ∀ k, k < W.heap.size → (T k ∨ (Value.slice A8 (L.length + n) c8).ownBlock = some k) → T k := fun k hk' ht => ht.elim id (fun e => (hv k e).elim (fun e => (h.ow k e).1) (fun e => by omega))
 refine ⟨A8, _, c8, w', fun k => T k ∨ (Value.slice A8 (L.length + n) c8).ownBlock = some k, r1, ?_, fun k e => ?_, ⟨.inl h.tp.1, h.tp.2⟩, fun k e => ⟨.inr e, ?_, ?_⟩, Blk.kp h.blk hk (fun e => (h.ow pm e).2.2 rfl), ?_, ?_, h.b.trans (hk.below hbs (fun k e => h.tb k (h.ow k e).1))⟩
 ·exact h.rel.move hk (fun k e => (h.ow k e).1) (fun k e => .inl (h.ow k e).1) (fun k hk e => (h.ow k e).2.1 hk) hsub (fun k hk => hk) (fun k e => .inl (hST k e)) (fun k e => e.elim (fun e => Nat.lt_of_lt_of_le (hTl k e) hk.size) (hlt' k))
 ·rcases e with e | e
  ·exact h.tb k e
  ·rcases hv k e with e | e
   ·exact (hlt k e).1
   ·omega
 ·rcases hv k e with e | e
  ·exact (h.ow k e).2.1
  ·intro hs
   have := hTl k (hST k hs)
   omega
 ·rcases hv k e with e | e
  ·exact (h.ow k e).2.2
  ·omega
 ·exact (h.dr.sub hsub).kp (hk.weaken fun k e => .inl (h.ow k e).1)
 ·refine ⟨ns ++ ms, by rw [List.map_append, he, hme], ⟨?_, ?_⟩, fun m hm => ?_⟩
  ·rw [List.length_append, List.map_append, hln]; exact r2.1
  ·rw [List.length_append, List.map_append, hln]
   rcases r2.2 with h' | ⟨g', cap, cur, e', hb', hh, rr⟩
   ·exact .inl h'
   ·refine .inr ⟨g', cap, cur, e', ?_, hh, rr⟩
    rcases hv g' (by rw [e']; rfl) with e | e
    ·exact (hlt g' e).1
    ·omega
  ·have h1 : Bsl W T m.2 m.1 := (List.mem_append.1 hm).elim (fun h' => (hns m h').sub (fun k _ hk => .inl hk)) (hmm m)
   exact (((h1.sub hsub).kp (hk.weaken fun k e => .inl (h.ow k e).1)).sub fun k _ ht => ht.elim id .inr)
end Go.Proofs.YtjhcgnmibnjocaaGreat

namespace Go.Proofs.YtjhcgnmibnjocaaGreat
open Go.RowKit Go.Maps
section
open Go.ChangeShapes Go.WideShapes Go.ChangeAt
variable {H : Type} {enc : TypeId × Value → H} {w : World} {base : Nat} {held : Bool}
set_option maxRecDepth 100000 in
theorem ents_openC {fuel : Nat} {cs : List Value} {x : DataW H × List MemPlace} (h : DataW.trod enc Tryz.prog w base (fun _ => true) held fuel 31 cs = some x) (hw : ∀ z ∈ x.1.weights Tryz.prog 31, z ≤ reachBytes) :
  ∃ A c l, cs = [.slice A l.length c] ∧ Ents0 w (fun k => w.heap.size ≤ k) A l.length l ∧ l.length ≤ 17592186044416 ∧ l.length ≤ c := by
 have : Inhabited Em := ⟨⟨⟨0, []⟩, .slice none 0 0⟩⟩
 obtain ⟨A, n, c, l, rfl, h1, h2, hA, hr, hl, rfl, hb⟩ := slice_trod (f := Em.cells) (k := 2) (ok := fun q => Bsl w (fun k => w.heap.size ≤ k) q.v q.x.t ∧ I64 q.x.e) (by omega) Em.cells_len Tryz.underlying31 (by kernel_rfl) ent_open h hw
 rw [show Tryz.prog.bytesOf 79 = 32 by kernel_rfl] at hb
 refine ⟨A, c, l.map Em.x, by rw [List.length_map], ?_, by rw [List.length_map]; omega, by rw [List.length_map]; omega⟩
 rw [List.length_map]
 refine ⟨⟨l, rfl, hr, hl⟩, by rw [List.length_map], fun h0 a ha ht => ?_⟩
 obtain ⟨a', e', hlt, _⟩ := hr.2 h0
 rw [ha] at e'; cases e'
 omega
set_option maxRecDepth 100000 in
theorem msg_openC {cs : List Value} {y : DataW H × List MemPlace} {n : Nat} (h : DataW.trod enc Tryz.prog w base (fun _ => true) held n 38 cs = some y) (hw : ∀ z ∈ y.1.weights Tryz.prog 38, z ≤ reachBytes) :
  ∃ q : RMg, cs = q.cells ∧ q.ok w ∧ q.m.log.length ≤ q.d := by
 obtain ⟨xs, n, rfl, rfl, hl, hxl, hf⟩ := DataW.trod_struct Tryz.underlying38 h
 rw [show Tryz.prog.cellsOf 38 = 8 by kernel_rfl] at hl
 obtain ⟨v0, v1, v2, v3, v4, v5, v6, v7, rfl⟩ := len8 _ hl
 obtain ⟨y0, y1, y2, y3, y4, y5, rfl⟩ := len6 _ hxl
 have q1 : Tryz.prog.cellsOf 3 = 1 := by kernel_rfl
 have q2 : Tryz.prog.cellsOf 30 = 3 := by kernel_rfl
 have q3 : Tryz.prog.cellsOf 31 = 1 := by kernel_rfl
 have g0 := hf 0 _ rfl
 have g1 := hf 1 _ rfl
 have g2 := hf 2 _ rfl
 have g3 := hf 3 _ rfl
 have g4 := hf 4 _ rfl
 have g5 := hf 5 _ rfl
 simp [q1] at g0 g1 g3 g4
 simp [q2] at g2
 simp [q3] at g5
 simp only [DataW.weights, Tryz.underlying38, List.map_cons, List.map_nil, DataW.weightsEach, List.nil_append, List.mem_append] at hw
 obtain ⟨a0, e0, rfl, w0⟩ := DataW.trod_int Tryz.underlying3 g0
 obtain ⟨a1, e1, rfl, w1⟩ := DataW.trod_int Tryz.underlying3 g1
 obtain ⟨⟨v, A, c⟩, e2, hv⟩ := vw_open g2 (fun z hz => hw z (by simp [hz]))
 obtain ⟨a3, e3, rfl, w3⟩ := DataW.trod_int Tryz.underlying3 g3
 obtain ⟨a4, e4, rfl, w4⟩ := DataW.trod_int Tryz.underlying3 g4
 obtain ⟨B, d, l, e5, hE, hn, hcp⟩ := ents_openC g5 (fun z hz => hw z (by simp [hz]))
 simp [RVw.cells] at e0 e1 e2 e3 e4 e5
 obtain ⟨rfl, rfl, rfl⟩ := e2
 subst e0 e1 e3 e4 e5
 (simp [Lit.wf, IntKind.min, IntKind.max, IntKind.signed, IntKind.bits] at w0)
 (simp [Lit.wf, IntKind.min, IntKind.max, IntKind.signed, IntKind.bits] at w1)
 (simp [Lit.wf, IntKind.min, IntKind.max, IntKind.signed, IntKind.bits] at w3)
 (simp [Lit.wf, IntKind.min, IntKind.max, IntKind.signed, IntKind.bits] at w4)
 exact ⟨⟨⟨a0, a1, v, a3, a4, l⟩, A, c, B, d⟩, rfl, ⟨hv, hE, hn, w0, w1, w3, w4⟩, hcp⟩
set_option maxRecDepth 100000 in
theorem rop_openC (cs : List Value) (y : DataW H × List MemPlace) (n : Nat) (h : DataW.trod enc Tryz.prog w base (fun _ => true) held n 40 cs = some y) (hw : ∀ z ∈ y.1.weights Tryz.prog 40, z ≤ reachBytes) :
  ∃ q : ROp, cs = q.cells ∧ q.ok w ∧ q.m.m.log.length ≤ q.m.d := by
 obtain ⟨xs, n, rfl, rfl, hl, hxl, hf⟩ := DataW.trod_struct Tryz.underlying40 h
 rw [show Tryz.prog.cellsOf 40 = 14 by kernel_rfl] at hl
 obtain ⟨v0, v1, v2, v3, v4, v5, v6, v7, v8, v9, v10, v11, v12, v13, rfl⟩ := len14 _ hl
 obtain ⟨y0, y1, y2, y3, y4, rfl⟩ := len5 _ hxl
 have q1 : Tryz.prog.cellsOf 3 = 1 := by kernel_rfl
 have q2 : Tryz.prog.cellsOf 30 = 3 := by kernel_rfl
 have q3 : Tryz.prog.cellsOf 36 = 1 := by kernel_rfl
 have q4 : Tryz.prog.cellsOf 38 = 8 := by kernel_rfl
 have g0 := hf 0 _ rfl
 have g1 := hf 1 _ rfl
 have g2 := hf 2 _ rfl
 have g3 := hf 3 _ rfl
 have g4 := hf 4 _ rfl
 simp [q1] at g0 g3
 simp [q2] at g1
 simp [q3] at g2
 simp [q4] at g4
 simp only [DataW.weights, Tryz.underlying40, List.map_cons, List.map_nil, DataW.weightsEach, List.nil_append, List.mem_append] at hw
 obtain ⟨a0, e0, rfl, w0⟩ := DataW.trod_int Tryz.underlying3 g0
 obtain ⟨⟨v, A, c⟩, e1, hv⟩ := vw_open g1 (fun z hz => hw z (by simp [hz]))
 obtain ⟨u, t, e2, hB, hn⟩ := bsl_open g2 (fun z hz => hw z (by simp [hz]))
 obtain ⟨a3, e3, rfl, w3⟩ := DataW.trod_int Tryz.underlying3 g3
 obtain ⟨⟨m, A', c', B, d⟩, e4, hm, hcp⟩ := msg_openC g4 (fun z hz => hw z (by simp [hz]))
 simp [RVw.cells, RMg.cells] at e0 e1 e2 e3 e4
 obtain ⟨rfl, rfl, rfl⟩ := e1
 obtain ⟨rfl, rfl, rfl, rfl, rfl, rfl, rfl, rfl⟩ := e4
 subst e0 e2 e3
 (simp [Lit.wf, IntKind.min, IntKind.max, IntKind.signed, IntKind.bits] at w0)
 (simp [Lit.wf, IntKind.min, IntKind.max, IntKind.signed, IntKind.bits] at w3)
 exact ⟨⟨a0, ⟨v, A, c⟩, v4, t, a3, ⟨m, A', c', B, d⟩⟩, rfl, ⟨hv, hB, hn, hm, w3⟩, hcp⟩
set_option maxRecDepth 100000 in
theorem rops_openC {W : World} {base : Nat} {d : DataW H} {p : List MemPlace} {v : Value} (hv : Value.okWide Tryz.prog W .any base 22 v) (h : DataW.Trod enc Tryz.prog W 0 (fun _ => true) true 22 v d p) (hw : ∀ z ∈ d.weights Tryz.prog 22, z ≤ reachBytes) :
  ∃ A n c l, v = .slice A n c ∧ n ≤ c ∧ c ≤ maxLen ∧ Reads W W.heap.size 14 A n (rowsV ROp.cells l) ∧ l.length = n ∧ ∀ x ∈ l, x.ok W ∧ x.m.m.log.length ≤ x.m.d := by
 obtain ⟨A, n, c, rfl⟩ := okWide_slice Tryz.underlying22 hv
 obtain ⟨fuel, hf⟩ := h
 obtain ⟨A', n', c', l, hcs, h1, h2, _, h3, h4, h5, _⟩ := slice_trod (f := ROp.cells) (k := 14) (ok := fun q => q.ok W ∧ q.m.m.log.length ≤ q.m.d) (by omega) ROp.len Tryz.underlying22 (by kernel_rfl) rop_openC hf hw
 simp [Value.cells] at hcs
 obtain ⟨rfl, rfl, rfl⟩ := hcs
 exact ⟨_, _, _, l, rfl, h1, h2, h3, h5, h4⟩
end
end Go.Proofs.YtjhcgnmibnjocaaGreat

namespace Go.Proofs.YtjhcgnmibnjocaaGreat
open Go.RowKit Go.Maps
theorem PlX.more {w0 W W' : World} {S T X : Nat → Prop} {g pm : Nat} {rp rd : Rl} {s8 vm vl va : Value} {L : List (List Nat)} (h : PlX w0 W S T g pm rp rd s8 vm vl va L) (hb : Below W.heap.size W W') (hX : ∀ k, X k → W.heap.size ≤ k ∧ k < W'.heap.size) : PlX w0 W' S (fun k => T k ∨ X k) g pm rp rd s8 vm vl va L := by
 obtain ⟨hST, hTl, _, _⟩ := h.rel.sub
 have hbs := h.b.size
 have hws := hb.size
 have hsub : ∀ k, k < W.heap.size → (T k ∨ X k) → T k := fun k hk ht => ht.elim id (fun e => by have := (hX k e).1; omega)
 refine ⟨h.rel.move (R := fun _ => False) (Kp.of_below hb) (fun _ h => h.elim) (fun _ h => h.elim) (fun _ _ h => h) hsub (fun k hk => hk) (fun k hk => .inl (hST k hk)) (fun k hk => hk.elim (fun e => by have := hTl k e; omega) (fun e => (hX k e).2)), fun k hk => hk.elim (h.tb k) (fun e => by have := (hX k e).1; omega), ⟨.inl h.tp.1, h.tp.2⟩, fun k e => ?_, h.blk.below hb h.blk.lt, (h.dr.sub hsub).kp (Kp.of_below hb), (h.own.sub hsub).below hb, h.b.trans (hb.mono hbs)⟩
 obtain ⟨h1, h2, h3⟩ := h.ow k e
 exact ⟨.inl h1, h2, h3⟩
theorem DrW.slm {w : World} {T : Nat → Prop} {vm vl va : Value} {r : Rl} (h : DrW w T vm vl va r) : ∃ A c, vm = .slice A r.v.l.length c := by
 obtain ⟨⟨A, c, e, _⟩, _, _⟩ := h
 exact ⟨A, c, e⟩
theorem DrW.sll {w : World} {T : Nat → Prop} {vm vl va : Value} {r : Rl} (h : DrW w T vm vl va r) : ∃ A c, vl = .slice A r.log.length c := by
 obtain ⟨_, ⟨A, c, e, _⟩, _⟩ := h
 exact ⟨A, c, e.1⟩
theorem propose_outs (r : Rl) (t : List Nat) (hok : r.ok) : (proposeP r t).outs.length ≤ 8 ∧ ∀ x ∈ (proposeP r t).outs, x.m.log.length ≤ 1 ∧ x.m.v.l.length ≤ 8 := by
 unfold proposeP
 split
 ·exact ⟨by simp, fun _ h => by cases h⟩
 split
 ·exact ⟨by simp, fun _ h => by cases h⟩
 split
 ·exact ⟨by simp, fun _ h => by cases h⟩
 refine ⟨?_, fun x hx => ?_⟩
 ·rw [List.length_map]
  exact Nat.le_trans (List.length_filter_le _ _) hok.mem.2
 ·obtain ⟨n, _, rfl⟩ := List.mem_map.1 hx
  exact ⟨by simp, by simp [Vi.none]⟩
theorem ships_outs (r : Rl) (n : Int) (k : Nat) : ∀ j, ∀ x ∈ shipsP r n k j, x.m.log.length ≤ 1 ∧ x.m.v.l.length ≤ 0
 | 0, x, h => by cases h
 | j + 1, x, h => by
  unfold shipsP at h
  rcases List.mem_append.1 h with h | h
  ·exact ships_outs r n k j x h
  ·split at h
   ·rw [List.mem_singleton] at h; subst h; exact ⟨by simp, by simp [Vi.none]⟩
   ·cases h
theorem tick_outs (r : Rl) (hok : r.ok) : (tickP r).length ≤ 200 ∧ ∀ x ∈ tickP r, x.m.log.length ≤ 4096 ∧ x.m.v.l.length ≤ 8 := by
 unfold tickP
 split
 ·refine ⟨?_, fun x hx => ?_⟩
  ·have h1 : ∀ l : List Int, (l.flatMap (tickOne r)).length ≤ 17 * l.length := by
    intro l
    induction l with
    | nil => simp
    | cons a l ih => have := tickOne_len r a; simp only [List.flatMap_cons, List.length_append, List.length_cons]; omega
   have h2 := h1 (othersP r)
   have h3 : (othersP r).length ≤ 8 := Nat.le_trans (List.length_filter_le _ _) hok.mem.2
   omega
  ·obtain ⟨n, _, hx⟩ := List.mem_flatMap.1 hx
   unfold tickOne at hx
   split at hx
   ·rw [List.mem_singleton] at hx; subst hx; exact ⟨hok.n, hok.mem.2⟩
   ·rcases List.mem_append.1 hx with hx | hx
    ·split at hx
     ·rw [List.mem_singleton] at hx; subst hx; exact ⟨by simp, by simp [Vi.none]⟩
     ·cases hx
    ·have := ships_outs _ _ _ _ x hx
     omega
 ·exact ⟨by simp, fun _ h => by cases h⟩
theorem dloaded_o {r : Rl} {w' : World} {T : Nat → Prop} {e : Ending} (h : DLoaded (some r) w' T e) : ∃ vm vl va, e = .returned (.tuple #[.agg #[.int .i64 (loadedP r).id, .int .i64 (loadedP r).v.e, .int .i64 (loadedP r).v.p, vm, vl, .int .i64 (loadedP r).joined, .int .i64 ((loadedP r).sure : Int), va, .bool (loadedP r).act], .int .i64 0]) ∧ DrW w' T vm vl va (loadedP r) := h
theorem id_ {n : Nat} {r : Rl} {L : List (List Nat)} (h : Kept n r L) : ∃ ρ, restores (newP n) L = some ρ ∧ True := by
 obtain ⟨ρ, h1, _⟩ := h
 exact ⟨ρ, h1, trivial⟩
def Pl (w0 W : World) (g pm : Nat) (r : Rl) (s8 : Value) (L : List (List Nat)) : Prop := ∃ S T vm vl va, PlX w0 W S T g pm r r s8 vm vl va L
theorem Pl.new {w W : World} {i : Int} (hid : 0 ≤ i ∧ i < 8) (hb : Below w.heap.size w W) {g mb cm : Nat} {vl : Value} {Am : Option Addr} {S : Nat → Prop} (hX : RelX W S S g (newP i) Am cm vl mb) (hS : ∀ k, S k → w.heap.size ≤ k) :
  Pl w (W.alloc (.cells #[.int .i64 i, .int .i64 0, .int .i64 0, .slice none 0 0, .slice none 0 0, .int .i64 0, .int .i64 0, .slice none 0 0, .bool false] 34)) g W.heap.size (newP i) (.slice none 0 0) [] := by
 have hbs := hb.size
 have hA : Below W.heap.size W (W.alloc (.cells #[.int .i64 i, .int .i64 0, .int .i64 0, .slice none 0 0, .slice none 0 0, .int .i64 0, .int .i64 0, .slice none 0 0, .bool false] 34)) := Below.alloc (Below.refl _ _) (Nat.le_refl _) _
 have hlt := hX.lt
 refine ⟨S, fun k => S k ∨ k = W.heap.size, _, _, _, ⟨⟨newP_ok hid, Am, cm, vl, mb, hX.later hA (fun k hk => hk.imp id (fun e => by omega)) (fun k hk => .inl hk) (fun k hk => by simp only [World.size_alloc]; exact hk.elim (fun e => by have := hlt k e; omega) (fun e => by omega))⟩, fun k hk => hk.elim (hS k) (fun e => by omega), ⟨.inr rfl, fun e => by have := hlt _ e; omega⟩, (fun k e => by cases e), Blk.new _ _ _, DrW.new _ _ _, OwnR.nil _ _ _, hb.trans (hA.mono hbs)⟩⟩
def Mid (w0 W : World) (g pm : Nat) (r : Rl) (s8 : Value) (L R : List (List Nat)) (A6 : Option Addr) (n6 : Nat) (B1 : Option Addr) (m1 : Nat) : Prop := ∃ S T vm vl va, PlX w0 W S T g pm r r s8 vm vl va L ∧ Recs W T A6 n6 R ∧ Recs W T B1 m1 R
theorem PlX.far {w0 W W' : World} {S T R : Nat → Prop} {g pm : Nat} {rp rd : Rl} {s8 vm vl va : Value} {L : List (List Nat)} (h : PlX w0 W S T g pm rp rd s8 vm vl va L) (hk : Kp R W W') (h1 : ∀ k, R k → T k ∧ ¬S k ∧ k ≠ pm ∧ s8.ownBlock ≠ some k) : PlX w0 W' S T g pm rp rd s8 vm vl va L := by
 obtain ⟨hST, hTl, _, _⟩ := h.rel.sub
 refine ⟨h.rel.move hk (fun k e => (h1 k e).1) (fun k e => (h1 k e).1) (fun k hk e => (h1 k e).2.1 hk) (fun k _ ht => ht) (fun k hk => hk) hST (fun k ht => Nat.lt_of_lt_of_le (hTl k ht) hk.size), h.tb, h.tp, h.ow, Blk.kp h.blk hk (fun e => (h1 pm e).2.2.1 rfl), h.dr.kp (hk.weaken fun k e => (h1 k e).1), h.own.kp hk (fun k e => (h1 k e).1) (fun k hk e => (h1 k e).2.2.2 hk), h.b.trans (hk.below h.b.size (fun k e => h.tb k (h1 k e).1))⟩
def Buf (W : World) (b n : Nat) : Prop := ∃ cur, Blk W b 5 cur ∧ ∀ q, q < n → ∃ x : Int, cur[q]? = some (.int .u8 x)
theorem Buf.set_ {W : World} {b n i : Nat} {y : Int} (h : Buf W b n) : Buf (W.setCell ⟨b, i, none⟩ (.int .u8 y)) b n := by
 obtain ⟨cur, hB, hx⟩ := h
 refine ⟨_, hB.set_ i _, fun q hq => ?_⟩
 obtain ⟨x, hx⟩ := hx q hq
 by_cases e : i = q
 ·subst e
  have hlt : i < cur.size := (Array.getElem?_eq_some_iff.1 hx).1
  exact ⟨y, by simp [Array.set!_eq_setIfInBounds, hlt]⟩
 ·exact ⟨x, by simp [Array.set!_eq_setIfInBounds, Array.getElem?_setIfInBounds_ne e, hx]⟩
theorem Buf.of_row {W : World} {base : Nat} {A : Option Addr} {n c : Nat} {t : List Nat} (h : Row W base (.slice A n c) t) (hn : n = t.length) (h0 : 0 < n) : ∃ b, A = some ⟨b, 0, none⟩ ∧ Buf W b n := by
 rcases h.2 with ⟨hv, h'⟩ | ⟨g, cap, cur, hv, hb, hh, hnc, hmx, hcs, htk⟩
 ·omega
 ·cases hv
  refine ⟨g, rfl, cur, hh, fun q hq => ?_⟩
  have h1 : cur[q]? = (u8s t)[q]? := by
   have := congrArg (fun l => l[q]?) htk
   simp only [List.getElem?_take] at this
   rw [if_pos (by omega)] at this
   rw [← this]
   simp
  rw [h1]
  have hq' : q < t.length := by omega
  exact ⟨(t[q] : Nat), by simp [u8s, hq']⟩
end Go.Proofs.YtjhcgnmibnjocaaGreat

namespace Go.Proofs.YtjhcgnmibnjocaaGreat
open Go.RowKit Go.Maps
theorem Buf.kp {W W' : World} {b n : Nat} {S : Nat → Prop} (h : Buf W b n) (hk : Kp S W W') (hb : ¬S b) : Buf W' b n := by
 obtain ⟨cur, hB, hx⟩ := h
 exact ⟨cur, Blk.kp hB hk hb, hx⟩
def Byt (w : World) (T : Nat → Prop) (v : Value) : Prop := ∃ A n c, v = .slice A n c ∧ (0 < n → ∃ b, A = some ⟨b, 0, none⟩ ∧ Buf w b n ∧ ¬T b)
theorem Byt.kp {w w' : World} {T : Nat → Prop} {v : Value} (h : Byt w T v) (hk : Kp T w w') : Byt w' T v := by
 obtain ⟨A, n, c, e, h⟩ := h
 exact ⟨A, n, c, e, fun h0 => by obtain ⟨b, h1, h2, h3⟩ := h h0; exact ⟨b, h1, h2.kp hk h3, h3⟩⟩
theorem Byt.sub {w : World} {T T' : Nat → Prop} {v : Value} (h : Byt w T v) (hs : ∀ k, k < w.heap.size → T' k → T k) : Byt w T' v := by
 obtain ⟨A, n, c, e, h⟩ := h
 refine ⟨A, n, c, e, fun h0 => ?_⟩
 obtain ⟨b, h1, h2, h3⟩ := h h0
 obtain ⟨cur, hB, hx⟩ := h2
 exact ⟨b, h1, ⟨cur, hB, hx⟩, fun ht => h3 (hs b hB.lt ht)⟩
structure OwnF (w : World) (T : Nat → Prop) (base : Nat) (v : Value) (l : List Ent) : Prop where
 ex : ∃ ms : List Em, ms.map Em.x = l ∧ w.ownsRow base 65 2 v l.length (emV ms) ∧ Ems w T ms ∧ ∀ m ∈ ms, Byt w T m.v
theorem OwnF.own {w : World} {T : Nat → Prop} {base : Nat} {v : Value} {l : List Ent} (h : OwnF w T base v l) : OwnE w T base v l := by
 obtain ⟨ms, h1, h2, h3, _⟩ := h
 exact ⟨ms, h1, h2, h3⟩
theorem OwnF.nil (w : World) (T : Nat → Prop) (base : Nat) : OwnF w T base (.slice none 0 0) [] := ⟨[], rfl, World.ownsRow_nil _ _ _ _, (fun _ h => by cases h), fun _ h => by cases h⟩
theorem OwnF.ge {w : World} {T : Nat → Prop} {base : Nat} {v : Value} {l : List Ent} (h : OwnF w T base v l) : ∀ k, v.ownBlock = some k → base ≤ k ∧ k < w.heap.size := own_ge h.own
theorem OwnF.sub {w : World} {T T' : Nat → Prop} {base : Nat} {v : Value} {l : List Ent} (h : OwnF w T base v l) (hs : ∀ k, k < w.heap.size → T' k → T k) : OwnF w T' base v l := by
 obtain ⟨ms, h1, h2, h3, h4⟩ := h
 exact ⟨ms, h1, h2, h3.sub hs, fun m hm => (h4 m hm).sub hs⟩
theorem OwnF.below {w w' : World} {T : Nat → Prop} {base : Nat} {v : Value} {l : List Ent} (h : OwnF w T base v l) (hb : Below w.heap.size w w') : OwnF w' T base v l := by
 obtain ⟨ms, h1, h2, h3, h4⟩ := h
 exact ⟨ms, h1, own_keep h2 (fun k _ hk => hb.block k hk), h3.kp (Kp.of_below hb), fun m hm => (h4 m hm).kp (Kp.of_below hb)⟩
theorem OwnF.low {w : World} {T : Nat → Prop} {base base' : Nat} {v : Value} {l : List Ent} (h : OwnF w T base v l) (hb : base' ≤ base) : OwnF w T base' v l := by
 obtain ⟨ms, h1, h2, h3, h4⟩ := h
 exact ⟨ms, h1, own_low h2 hb, h3, h4⟩
theorem OwnF.kp8 {w w' : World} {T S : Nat → Prop} {base : Nat} {v : Value} {l : List Ent} (h : OwnF w T base v l) (hk : Kp S w w') (h1 : ∀ k, S k → T k) (h2 : ∀ k, v.ownBlock = some k → ¬S k) : OwnF w' T base v l := by
 obtain ⟨ms, e1, e2, e3, e4⟩ := h
 refine ⟨ms, e1, ⟨e2.1, ?_⟩, e3.kp (hk.weaken h1), fun m hm => (e4 m hm).kp (hk.weaken h1)⟩
 rcases e2.2 with h' | ⟨g', cap, cur, e', hb', hh, rr⟩
 ·exact .inl h'
 ·exact .inr ⟨g', cap, cur, e', hb', (hk.block g' (Blk.lt hh) (h2 g' (by rw [e']; rfl))).trans hh, rr⟩
theorem app_entF {W : World} {ops : Array Oper} {rest : List Oper} {o : Oper} {a : Act} {Q : Exit → Act → World → Prop} (hgd : o.guard = none) (s x : Operand)
  (ho : o.op = .call { callee := .builtin .append, args := #[s, x], argTypes := #[58, 58] }) (T : Nat → Prop) (base : Nat) (v : Value) (l : List Ent) (u : Em) (cs : Array Value) (hcs : cs = u.cells.toArray) (hs : a.eval s = v) (hown : OwnF W T base v l)
  (hu : (Bsl W T u.v u.x.t ∧ u.x.ok) ∧ Byt W T u.v) (hT : ∀ k, v.ownBlock = some k → T k) (B : Nat) (hB : B = W.heap.size) (hx : a.eval x = .slice (some ⟨B, 0, none⟩) 1 1) (hl : l.length ≤ 1000000) (hbase : base ≤ W.heap.size)
  (h : ∀ v' w', OwnF w' (fun k => T k ∨ v'.ownBlock = some k) base v' (l ++ [u.x]) → Chg W w' v v' → W.heap.size + 1 ≤ w'.heap.size → wpList Tryz.prog ops Q rest (a.put o.dst v') w') :
  wpList Tryz.prog ops Q (o :: rest) a (W.alloc (.cells cs 65)) := by
 subst hcs hB
 obtain ⟨i0, hi, hz0, hz1, hz2⟩ := info_parts infoEnt
 obtain ⟨ms, he, hown, hm, hmb⟩ := hown
 obtain ⟨Av, nv, cv, ev⟩ := hu.1.1.sl
 refine wpList_append_own_at (W.alloc (.cells u.cells.toArray 65)) hgd s x 58 ho base 65 i0 _ 2 32 Tryz.underlying58 hi hz0 hz1 hz2 rfl (by decide) v l.length (emV ms) hs (own_alloc hown _) ⟨W.heap.size, 0, none⟩ 1 1 u.cells hx rfl (cells_new _ _ _) ?_ (by unfold maxLen; omega) (by omega) (by simp; omega) fun v' w' h1 h2 h3 h4 => h v' w' ?_ ?_ (by have := h2.size; simpa using this)
 ·intro y hy
  simp only [Em.cells, ev, List.mem_cons, List.not_mem_nil, or_false] at hy
  rcases hy with rfl | rfl <;> rfl
 ·have hk : Kp (fun k => T k ∨ W.heap.size ≤ k) W w' := ⟨h2.os, h2.tape, h2.output, by have := h2.size; simp at this; omega, fun k hk hn => (h2.block k (by simp; omega) (fun e => hn (.inl (hT k e.symm)))).trans (Below.heap_alloc W _ k hk)⟩
  have hfin : ∀ k, k < w'.heap.size → (T k ∨ v'.ownBlock = some k) → (T k ∨ W.heap.size ≤ k) := fun k _ ht => by
   rcases ht with ht | ht
   ·exact .inl ht
   ·rcases h4 with e | e
    ·exact .inl (hT k (e ▸ ht))
    ·rw [e] at ht
     cases ht
     exact .inr (by simp)
  refine ⟨ms ++ [u], by rw [List.map_append, he]; rfl, ?_, ?_, fun m hmm => ?_⟩
  ·rw [List.length_append, emV_append]
   simpa [emV, rowsV] using h1
  ·have hall : Ems W T (ms ++ [u]) := fun m hmm => by
    rcases List.mem_append.1 hmm with hmm | hmm
    ·exact hm m hmm
    ·simp only [List.mem_singleton] at hmm
     subst hmm
     exact hu.1
   exact ((hall.sub (T' := fun k => T k ∨ W.heap.size ≤ k) (fun k hk ht => ht.elim id (fun h => by omega))).kp hk).sub hfin
  ·have hb : Byt W T m.v := by
    rcases List.mem_append.1 hmm with hmm | hmm
    ·exact hmb m hmm
    ·simp only [List.mem_singleton] at hmm
     subst hmm
     exact hu.2
   exact ((hb.sub (T' := fun k => T k ∨ W.heap.size ≤ k) (fun k hk ht => ht.elim id (fun h => by omega))).kp hk).sub hfin
 ·refine ⟨h2.os, h2.tape, h2.output, ?_, fun k hk hv => ?_, ?_⟩
  ·have := h2.size
   simp at this
   omega
  ·exact (h2.block k (by simp; omega) (Ne.symm hv)).trans (Below.heap_alloc W _ k hk)
  ·rcases h4 with e | e
   ·exact .inl e
   ·exact .inr ⟨_, e, by simp⟩
set_option maxRecDepth 100000 in
set_option maxHeartbeats 4000000 in
theorem entriesF_any {T : Nat → Prop} (A : Option Addr) (n c : Nat) (l : List Ent) (w : World) (h : Ents w T A n l) (hn : n ≤ 4096) :
  Calls Tryz.prog 47 #[.slice A n c] w fun e w' => ∃ A1 c1, e = .returned (.slice A1 n c1) ∧ OwnF w' (Old w.heap.size (.slice A1 n c1)) w.heap.size (.slice A1 n c1) l ∧ Below w.heap.size w w' := by
 have hln := h.len
 go_enter Tryz.func47, Tryz.ntmps47
 go_wp2
 go_loopw [3, 8] (fun vo vi wr => ∃ j : Nat, j ≤ n ∧ vi = .int .i64 (j : Int) ∧ OwnF wr (Old w.heap.size vo) w.heap.size vo (l.take j) ∧ Below w.heap.size w wr) (fun _ vi _ => ((n : Int) - intOf vi).toNat)
 case atStart => exact ⟨0, by omega, rfl, OwnF.nil _ _ _, Below.refl _ _⟩
 case round =>
  obtain ⟨j, hj, rfl, hO, hb⟩ := hrel
  obtain ⟨wo, rfl⟩ : ∃ wo : World, wo = wr := ⟨_, rfl⟩
  have hso := hb.size
  by_cases hlt : j < n
  ·have hlj : (j : Int) < n := by omega
   obtain ⟨⟨ms, hms, hr, hm⟩, _, _⟩ := h.kp (Kp.of_below hb)
   have hml : ms.length = n := by rw [← hln, ← hms, List.length_map]
   obtain ⟨b, o, rfl, hbl, hcc⟩ := hr.plain (by omega) (by omega)
   have hjm : j < ms.length := by omega
   have hg : ms[j]? = some (ms[j]'hjm) := List.getElem?_eq_getElem hjm
   have hx : l[j]? = some (ms[j]'hjm).x := by rw [← hms, List.getElem?_map, hg]; rfl
   have m1 := hcc _ _ (emV_get hg).1
   have m2 := hcc _ _ (emV_get hg).2
   rw [← Nat.add_assoc] at m2
   obtain ⟨hbs, hok⟩ := hm _ (List.getElem_mem hjm)
   generalize ms[j]'hjm = y at *
   obtain ⟨ya, yv⟩ := y
   simp only at m1 m2 hx hbs hok
   obtain ⟨vA, vn, vc, hv⟩ := hbs.sl
   have htk : l.take (j + 1) = l.take j ++ [ya] := by rw [List.take_add_one, hx]; rfl
   have hge := hO.ge
   have hB0 : Below wo.heap.size wo (wo.alloc (.cells #[.int .i64 ya.e, yv] 79)) := Below.alloc (Below.refl _ _) (Nat.le_refl _) _
   have hP := Blk.new wo 79 #[.int .i64 ya.e, yv]
   have HO := hide (⟨hO, htk, hge, hx⟩ : _ ∧ _ ∧ _ ∧ _)
   clear hr hm hcc hg hms hjm htk hge hx
   rw [hv] at m2 hP hB0
   have hB0' := hB0
   go_wp2
   refine wp_region_kp (fun k => u3.ownBlock = some k ∨ wo.heap.size + 1 ≤ k) [2, 5] [0, 1, 4, 7] [(true, false, 0), (true, false, 1), (true, true, 2), (true, false, 4), (true, true, 5), (false, true, 3), (false, true, 6), (true, false, 7), (false, true, 8), (false, true, 9), (false, false, 10)] (by kernel_rfl) (by kernel_rfl) (fun X => ?_); simp only [List.map_cons, List.map_nil, List.getD_cons_zero, List.getD_cons_succ]
   have hnP : ¬(u3.ownBlock = some wo.heap.size ∨ wo.heap.size + 1 ≤ wo.heap.size) := fun e => e.elim (fun e => by have := (HO.out.2.2.1 _ e).2; omega) (fun e => by omega)
   have hbX : Below wo.heap.size wo ((wo.alloc (.cells #[.int .i64 ya.e, .slice vA vn vc] 79)).ext X) := hB0'.trans ((World.below_ext _ X).mono (by simp))
   have hBX := (hbs.kp (Kp.of_below hbX))
   rw [hv] at hBX
   obtain ⟨v3, w3, hap, hr3, hb3⟩ := run_copyU _ _ _ hBX (by have := hok.n; omega)
   obtain ⟨A3, n3, c3, rfl⟩ := hr3.shape
   have hgr := run_copyU_grown hBX (by have := hok.n; omega) hap
   simp only [World.size_ext, World.size_alloc] at hap
   (repeat (first | (refine wfp fun K hK => ?_; go_simp; refine hK _ _ ?_; clear hK K) | (refine wff fun K hK => ?_; go_simp; refine hK _ _ ?_; clear hK K)))
   (refine first_readG rfl (v := .int .i64 ya.e) (fun w' hw' => ?_) (fun K hK => ?_); rotate_left 1; go_simp; refine hK _ _ ?_; clear hK K; rotate_left 1; (have hB' := Blk.kp (Blk.ext hP _) hw' hnP; have c' := Blk.cell hB'; go_simp))
   (repeat (first | (refine wfp fun K hK => ?_; go_simp; refine hK _ _ ?_; clear hK K) | (refine wff fun K hK => ?_; go_simp; refine hK _ _ ?_; clear hK K)))
   (refine first_readG rfl (v := .slice vA vn vc) (fun w' hw' => ?_) (fun K hK => ?_); rotate_left 1; go_simp; refine hK _ _ ?_; clear hK K; rotate_left 1; (have hB' := Blk.kp (Blk.ext hP _) hw' hnP; have c' := Blk.cell hB'; go_simp))
   (repeat (first | (refine wfp fun K hK => ?_; go_simp; refine hK _ _ ?_; clear hK K) | (refine wff fun K hK => ?_; go_simp; refine hK _ _ ?_; clear hK K)))
   refine First.wpF_must (fun K hK => ?_)
   go_wp2
   (refine hK _ _ (fun _ => Kp.of_below (Below.alloc (Below.refl _ _) (Nat.le_refl _) _)) ?_; clear hK K)
   (repeat (first | (refine wfp fun K hK => ?_; go_simp; refine hK _ _ ?_; clear hK K) | (refine wff fun K hK => ?_; go_simp; refine hK _ _ ?_; clear hK K)))
   refine First.wpF_must (fun K hK => ?_)
   go_wp2_with (at_builtin; refine wpList_append_run rfl _ _ 36 rfl rfl rfl hap ?_)
   (refine hK _ _ (fun _ => Kp.of_below (by obtain ⟨Y, hY⟩ := hgr; rw [hY]; exact World.below_ext _ _)) ?_; clear hK K)
   (repeat (first | (refine wfp fun K hK => ?_; go_simp; refine hK _ _ ?_; clear hK K) | (refine wff fun K hK => ?_; go_simp; refine hK _ _ ?_; clear hK K)))
   refine First.wpF_must (fun K hK => ?_)
   go_wp2
   (refine hK _ _ (fun _ => Kp.of_below (Below.alloc (Below.refl _ _) (Nat.le_refl _) _)) ?_; clear hK K)
   (repeat (first | (refine wfp fun K hK => ?_; go_simp; refine hK _ _ ?_; clear hK K) | (refine wff fun K hK => ?_; go_simp; refine hK _ _ ?_; clear hK K)))
   obtain ⟨hO, htk, hge, hx⟩ := HO.out
   have hs3 := hb3.size
   simp only [World.size_ext, World.size_alloc] at hs3
   have hO3 := (hO.below hbX).below hb3
   have hbT : Bsl w3 (Old w.heap.size u3) (.slice A3 n3 c3) ya.t := (Bsl.row hr3 (fun k hk => hk) hbs.by_).sub fun k _ hk => by
    simp only [World.size_ext, World.size_alloc]
    rcases hk with hk | hk
    ·omega
    ·have := (hge k hk).2
     omega
   have hbyt : Byt w3 (Old w.heap.size u3) (.slice A3 n3 c3) := by
    refine ⟨A3, n3, c3, rfl, fun h0 => ?_⟩
    obtain ⟨A', c', e', _⟩ := own_sl hr3
    simp only [Value.slice.injEq] at e'
    obtain ⟨b, hb1, hb2⟩ := Buf.of_row hr3 e'.2.1 h0
    refine ⟨b, hb1, hb2, fun hk => ?_⟩
    have h1 := (Row.own_ge hr3 b (by rw [hb1]; rfl)).1
    simp only [World.size_ext, World.size_alloc] at h1
    rcases hk with hk | hk
    ·omega
    ·have := (hge b hk).2
     omega
   have hbw3 : Below wo.heap.size wo w3 := hbX.trans (hb3.mono (by simp only [World.size_ext, World.size_alloc]; omega))
   have hkpo : ∀ (w4 : World) (v' : Value), Chg w3 w4 u3 v' → w3.heap.size + 1 ≤ w4.heap.size → Kp (fun k => u3.ownBlock = some k ∨ wo.heap.size + 1 ≤ k) (w3.alloc (.cells #[.int .i64 ya.e, .slice A3 n3 c3] 65)) w4 := fun w4 v' hc hs =>
    ⟨hc.os, hc.tape, hc.output, by simpa using hs, fun k hk hn => by
     rcases Nat.lt_or_ge k w3.heap.size with h | h
     ·exact (hc.block k h (fun e => hn (.inl e))).trans (Below.heap_alloc _ _ k h).symm
     ·exact absurd (.inr (by omega)) hn⟩
   refine First.wpF_must (fun K hK => ?_)
   go_wp2_with (at_builtin; refine app_entF rfl (.tmp 12) (.tmp 20) rfl (Old w.heap.size u3) w.heap.size u3 (l.take j) ⟨ya, .slice A3 n3 c3⟩ _ rfl rfl hO3 ⟨⟨hbT, hok⟩, hbyt⟩ (fun k hk => .inr hk) _ rfl rfl (by rw [List.length_take]; omega) (by omega) (fun v' w4 ho4 hc4 hs4 => ?_); have hkp := hkpo w4 v' hc4 hs4)
   (refine hK _ _ (fun _ => hkp) ?_; clear hK K)
   (repeat (first | (refine wfp fun K hK => ?_; go_simp; refine hK _ _ ?_; clear hK K) | (refine wff fun K hK => ?_; go_simp; refine hK _ _ ?_; clear hK K)))
   refine First.wpF_must (fun K hK => ?_)
   go_wp2
   (refine hK _ _ (fun _ => Kp.refl _ _) ?_; clear hK K)
   refine First.wpF_nil ?_
   go_wp2
   go_roundw
   case rel =>
    refine ⟨j + 1, by omega, by go_num, ?_, ?_⟩
    ·rw [htk]
     exact ho4.sub fun k _ hk => hk.elim (fun h => .inl (.inl h)) .inr
    ·exact (hb.trans (hbw3.mono hso)).trans (hc4.low (fun k hk => (hge k hk).1) (by omega))
   case measure => simp [intOf]; omega
  ·obtain rfl : j = n := by omega
   rw [← hln, List.take_length] at hO
   obtain ⟨ms, _, ho, _, _⟩ := id hO
   obtain ⟨A1, c1, rfl, _⟩ := own_sl ho
   clear ho
   go_wp2
   go_ret
   rw [← hln]
   exact ⟨A1, c1, rfl, hO, hb⟩
set_option maxRecDepth 100000 in
set_option maxHeartbeats 4000000 in
theorem toF_any {T : Nat → Prop} (m : Mg) (A : Option Addr) (c : Nat) (B : Option Addr) (d : Nat) (w : World) (hr : Reads w w.heap.size 1 A m.v.l.length (ints m.v.l)) (hE : Ents w T B m.log.length m.log) (hv : m.v.l.length ≤ 1000000) (hn : m.log.length ≤ 4096) :
  Calls Tryz.prog 16 #[.agg #[.int .i64 m.k, .int .i64 m.e, .int .i64 m.v.e, .int .i64 m.v.p, (.slice A m.v.l.length c), .int .i64 m.i, .int .i64 m.s, (.slice B m.log.length d)]] w fun e w' => ∃ vm A3 c3, e = .returned (.agg #[.int .i64 m.k, .int .i64 m.e, .int .i64 m.v.e, .int .i64 m.v.p, vm, .int .i64 m.i, .int .i64 m.s, (.slice A3 m.log.length c3)]) ∧ MgW w' (fun k => k < w.heap.size) vm (.slice A3 m.log.length c3) m ∧ OwnF w' (fun k => k < w.heap.size ∨ (Value.slice A3 m.log.length c3).ownBlock = some k) w.heap.size (.slice A3 m.log.length c3) m.log ∧ Below w.heap.size w w' := by
 have hb0 : Below w.heap.size w ((w.alloc (.cells #[.int .i64 m.k, .int .i64 m.e, .int .i64 m.v.e, .int .i64 m.v.p, (.slice A m.v.l.length c), .int .i64 m.i, .int .i64 m.s, (.slice B m.log.length d)] 38)).alloc (.cells #[.int .i64 0, .int .i64 0, .int .i64 0, .int .i64 0, .slice none 0 0, .int .i64 0, .int .i64 0, .slice none 0 0] 60)) := (Below.alloc (Below.refl _ _) (Nat.le_refl _) _).alloc (by simp) _
 have hZ := Blk.made w (.cells #[.int .i64 m.k, .int .i64 m.e, .int .i64 m.v.e, .int .i64 m.v.p, (.slice A m.v.l.length c), .int .i64 m.i, .int .i64 m.s, (.slice B m.log.length d)] 38) 60 #[.int .i64 0, .int .i64 0, .int .i64 0, .int .i64 0, .slice none 0 0, .int .i64 0, .int .i64 0, .slice none 0 0]
 go_enter Tryz.func16, Tryz.ntmps16
 go_wp2
 refine First.wp_region_first_ext [1, 3, 5, 8, 10, 12] [0, 2, 4, 7, 9, 11, 14] [(true, false, 0), (true, true, 1), (true, false, 2), (true, true, 3), (true, false, 4), (true, true, 5), (true, false, 7), (true, true, 8), (true, false, 9), (true, true, 10), (true, false, 11), (true, true, 12), (false, true, 6), (false, true, 13), (true, false, 14), (false, false, 15)] (by kernel_rfl) (by kernel_rfl) (fun X => ?_); simp only [List.map_cons, List.map_nil, List.getD_cons_zero, List.getD_cons_succ]
 have hZX := hZ.ext X
 have hbX := hb0.trans ((World.below_ext _ X).mono (by simp <;> omega))
 have hrX := Reads.kp hr (Kp.of_below (S := fun _ => False) hbX) (fun _ _ _ h => h)
 have hEX := hE.kp (Kp.of_below hbX)
 have hto := fun W h => vto_any m.v.e m.v.p A m.v.l.length c m.v.l W h (by omega)
 have hen := fun W h => entriesF_any (T := T) B m.log.length d m.log W h hn
 (repeat (first | (refine wfp fun K hK => ?_; go_simp; refine hK _ _ ?_; clear hK K) | (refine wff fun K hK => ?_; go_simp; refine hK _ _ ?_; clear hK K)))
 refine First.wpF_must (fun K hK => ?_)
 go_wp2_with (go_at_call 8; (with_reducible refine (hto _ hrX).mono ?_); rintro e w2 ⟨⟨v2, rfl, ho2⟩, hb2⟩; obtain ⟨A2, c2, rfl, _⟩ := own_sl ho2)
 have hgr2 : First.Grown _ w2 := World.ext_of_below hb2
 (refine hK _ _ (fun hnd => by first | exact Bool.noConfusion hnd | assumption | with_reducible (first | exact grown_alloc _ _ | exact First.Grown.refl _ | exact First.Grown.cat _ _ _ | exact First.Grown.ext _ _)) ?_; clear hK K)
 have hE2 := hEX.kp (Kp.of_below hb2)
 (repeat (first | (refine wfp fun K hK => ?_; go_simp; refine hK _ _ ?_; clear hK K) | (refine wff fun K hK => ?_; go_simp; refine hK _ _ ?_; clear hK K)))
 refine First.wpF_must (fun K hK => ?_)
 go_wp2_with (go_at_call 47; (with_reducible refine (hen _ hE2).mono ?_); rintro e w3 ⟨A3, c3, rfl, hO3, hb3⟩)
 have hgr3 : First.Grown _ w3 := World.ext_of_below hb3
 (refine hK _ _ (fun hnd => by first | exact Bool.noConfusion hnd | assumption | with_reducible (first | exact grown_alloc _ _ | exact First.Grown.refl _ | exact First.Grown.cat _ _ _ | exact First.Grown.ext _ _)) ?_; clear hK K)
 have hs2 := hb2.size
 have hs3 := hb3.size
 simp only [World.size_ext, World.size_alloc] at hs2
 have hZ3 := (hZX.below hb2 (by simp only [World.size_ext, World.size_alloc]; omega)).below hb3 (by omega)
 have cZ := hZ3.cell
 have fZ := hZ3.frozen
 have lZ := hZ3.lt
 (repeat (first | (refine wfp fun K hK => ?_; go_simp; refine hK _ _ ?_; clear hK K) | (refine wff fun K hK => ?_; go_simp; refine hK _ _ ?_; clear hK K)))
 refine First.wpF_must (fun K hK => ?_)
 go_wp2
 (refine hK _ _ (fun hnd => by first | exact Bool.noConfusion hnd | assumption | with_reducible (first | exact grown_alloc _ _ | exact First.Grown.refl _ | exact First.Grown.cat _ _ _ | exact First.Grown.ext _ _)) ?_; clear hK K)
 refine First.wpF_nil ?_
 go_wp2
 refine bodyPost_cell Tryz.results16 rfl (Blk.eight hZ3) Tryz.underlying60 rfl (by kernel_rfl) rfl ⟨_, _, _, rfl, ?_, ?_, ?_⟩
 ·have h0 := MgW.made (T := fun k => k < w.heap.size + 2) (m := m) (own_keep ho2 fun k _ hk => hb3.block k hk) hO3.own (fun k hk => by simp only [World.size_ext, World.size_alloc]; omega) (fun k hk => by omega)
  exact (h0.kp (Kp.eight (Kp.refl _ _) (by omega) _ _ _ _ _ _ _ _)).sub fun k _ hk => by omega
 ·refine (((hO3.low (by omega)).sub (T' := fun k => k < w.heap.size + 2 ∨ (Value.slice A3 m.log.length c3).ownBlock = some k) (fun k _ hk => hk.imp (fun h => by omega) id)).kp8 (Kp.eight (S := fun k => k = w.heap.size + 1) (Kp.refl _ _) rfl _ _ _ _ _ _ _ _) (fun k hk => .inl (by omega)) (fun k hk e => by have := (hO3.ge k hk).1; omega)).sub (fun k _ hk => hk.imp (fun h => by omega) id)
 ·exact (hbX.trans ((hb2.trans (hb3.mono (by simp only [World.size_ext, World.size_alloc]; omega))).mono (by simp only [World.size_ext, World.size_alloc]; omega))).trans (Kp.below (S := fun k => k = w.heap.size + 1) (Kp.eight (S := fun k => k = w.heap.size + 1) (Kp.refl _ _) rfl _ _ _ _ _ _ _ _) (by omega) (fun k hk => by omega))
end Go.Proofs.YtjhcgnmibnjocaaGreat

namespace Go.Proofs.YtjhcgnmibnjocaaGreat
open Go.RowKit Go.Maps
structure EVx (W : World) (lo hi b3 n : Nat) : Prop where
 ge : lo ≤ b3
 lt : b3 < hi
 ex : ∃ cur, Blk W b3 65 cur ∧ ∀ i, i < n → (∃ e : Int, cur[i * 2]? = some (.int .i64 e)) ∧ ∃ A m c, cur[i * 2 + 1]? = some (.slice A m c) ∧ m ≤ 200 ∧ (0 < m → ∃ b, A = some ⟨b, 0, none⟩ ∧ Buf W b m ∧ lo ≤ b ∧ b < hi ∧ b ≠ b3)
theorem EVx.of {w : World} {lo n c : Nat} {A : Option Addr} {l : List Ent} (h : OwnF w (fun k => k < lo ∨ (Value.slice A n c).ownBlock = some k) lo (.slice A n c) l) (hn : n = l.length) (h0 : 0 < n) (ht : ∀ x ∈ l, x.t.length ≤ 200) : ∃ b3, A = some ⟨b3, 0, none⟩ ∧ EVx w lo w.heap.size b3 n := by
 obtain ⟨ms, e1, e2, e3, e4⟩ := h
 rcases e2.2 with ⟨hv, h'⟩ | ⟨g, cap, cur, hv, hb, hh, hnc, hmx, hcs, htk⟩
 ·omega
 ·cases hv
  refine ⟨g, rfl, hb, Blk.lt hh, cur, hh, fun i hi => ?_⟩
  have hml : ms.length = l.length := by rw [← e1, List.length_map]
  have hg : ms[i]? = some (ms[i]'(by omega)) := List.getElem?_eq_getElem (by omega)
  have hget : ∀ k u, k < 2 → (emV ms)[i * 2 + k]? = some u → cur[i * 2 + k]? = some u := fun k u hk hu => by
   have h1 : cur[i * 2 + k]? = (emV ms)[i * 2 + k]? := by
    have := congrArg (fun l => l[i * 2 + k]?) htk
    simp only [List.getElem?_take] at this
    rw [if_pos (by omega)] at this
    rw [← this]
    simp
   rw [h1, hu]
  obtain ⟨h1, h2⟩ := emV_get hg
  have hmem := List.getElem_mem (show i < ms.length by omega)
  obtain ⟨hB, hok⟩ := e3 _ hmem
  obtain ⟨A', n', c', hv', hbuf⟩ := e4 _ hmem
  obtain ⟨A2, c2, hv2, _⟩ := hB.ex
  refine ⟨⟨_, by have := hget 0 _ (by omega) (by rw [Nat.add_zero]; exact h1); rwa [Nat.add_zero] at this⟩, A', n', c', by rw [← hv']; exact hget 1 _ (by omega) h2, ?_, fun hm => ?_⟩
  ·have : n' = (ms[i]'(by omega)).x.t.length := by
    rw [hv'] at hv2
    simp only [Value.slice.injEq] at hv2
    exact hv2.2.1
   rw [this]
   exact ht _ (by have h := List.mem_map_of_mem (f := Em.x) hmem; rwa [e1] at h)
  ·obtain ⟨b, hb1, hb2, hb3⟩ := hbuf hm
   have hlt : b < w.heap.size := by obtain ⟨cu, hBc, _⟩ := hb2; exact hBc.lt
   exact ⟨b, hb1, hb2, Nat.le_of_not_lt (fun h => hb3 (.inl h)), hlt, fun e => hb3 (.inr (by rw [e]; rfl))⟩
theorem EVx.kp {W W' : World} {lo hi b3 n : Nat} {S : Nat → Prop} (h : EVx W lo hi b3 n) (hk : Kp S W W') (hS : ∀ k, S k → k < lo ∨ hi ≤ k) : EVx W' lo hi b3 n := by
 obtain ⟨h1, h2, cur, hB, hx⟩ := h
 refine ⟨h1, h2, cur, Blk.kp hB hk (fun e => by rcases hS b3 e with h | h <;> omega), fun i hi' => ?_⟩
 obtain ⟨he, A, m, c, hc, hm, hb⟩ := hx i hi'
 refine ⟨he, A, m, c, hc, hm, fun h0 => ?_⟩
 obtain ⟨b, g1, g2, g3, g4, g5⟩ := hb h0
 exact ⟨b, g1, g2.kp hk (fun e => by rcases hS b e with h | h <;> omega), g3, g4, g5⟩
theorem Buf.far {W : World} {b n b' i : Nat} {v : Value} (h : Buf W b n) (hne : b ≠ b') : Buf (W.setCell ⟨b', i, none⟩ v) b n := by
 obtain ⟨cur, hB, hx⟩ := h
 exact ⟨cur, hB.far (p := ⟨b', i, none⟩) hne v, hx⟩
theorem Buf.put {W : World} {b n b' i : Nat} {y : Int} (h : Buf W b n) : Buf (W.setCell ⟨b', i, none⟩ (.int .u8 y)) b n := by
 by_cases e : b = b'
 ·subst e; exact h.set_
 ·exact h.far e
theorem EVx.epoch {W : World} {lo hi b3 n i : Nat} {y : Int} (h : EVx W lo hi b3 n) : EVx (W.setCell ⟨b3, i * 2, none⟩ (.int .i64 y)) lo hi b3 n := by
 obtain ⟨h1, h2, cur, hB, hx⟩ := h
 refine ⟨h1, h2, _, hB.set_ (i * 2) _, fun q hq => ?_⟩
 obtain ⟨⟨e, he⟩, A, m, c, hc, hm, hb⟩ := hx q hq
 refine ⟨?_, A, m, c, ?_, hm, fun h0 => ?_⟩
 ·by_cases e' : i = q
  ·subst e'
   have hlt : i * 2 < cur.size := (Array.getElem?_eq_some_iff.1 he).1
   exact ⟨y, by simp [Array.set!_eq_setIfInBounds, hlt]⟩
  ·exact ⟨e, by rw [Array.getElem?_setIfInBounds_ne (by omega)]; exact he⟩
 ·rw [Array.getElem?_setIfInBounds_ne (by omega)]; exact hc
 ·obtain ⟨b, g1, g2, g3, g4, g5⟩ := hb h0
  exact ⟨b, g1, g2.far g5, g3, g4, g5⟩
theorem EVx.byte {W : World} {lo hi b3 n b i : Nat} {y : Int} (h : EVx W lo hi b3 n) (hb : b ≠ b3) : EVx (W.setCell ⟨b, i, none⟩ (.int .u8 y)) lo hi b3 n := by
 obtain ⟨h1, h2, cur, hB, hx⟩ := h
 refine ⟨h1, h2, cur, hB.far (p := ⟨b, i, none⟩) (Ne.symm hb) _, fun q hq => ?_⟩
 obtain ⟨he, A, m, c, hc, hm, hb'⟩ := hx q hq
 refine ⟨he, A, m, c, hc, hm, fun h0 => ?_⟩
 obtain ⟨b', g1, g2, g3, g4, g5⟩ := hb' h0
 exact ⟨b', g1, g2.put, g3, g4, g5⟩
theorem take_outs (r : Rl) (f : Int) (m : Mg) : (takeP_ r f m).outs.length ≤ 1 ∧ ∀ x ∈ (takeP_ r f m).outs, x.m.log.length ≤ 1 ∧ x.m.v.l.length ≤ 1 := by
 have h : ∀ (r : Rl) (f : Int), (hearO r f).length ≤ 1 ∧ ∀ x ∈ hearO r f, x.m.log.length ≤ 1 ∧ x.m.v.l.length ≤ 1 := fun r f => ⟨by simp [hearO], fun x hx => by simp only [hearO, List.mem_singleton] at hx; subst hx; exact ⟨by simp, by simp [Vi.none]⟩⟩
 have h0 : ([] : List Ot).length ≤ 1 ∧ ∀ x ∈ ([] : List Ot), x.m.log.length ≤ 1 ∧ x.m.v.l.length ≤ 1 := ⟨by simp, fun _ h => by cases h⟩
 unfold takeP_
 split
 ·unfold offerP
  split
  ·exact h _ _
  ·exact h0
 split
 ·unfold shipP
  split
  ·exact h _ _
  ·exact h0
 split
 ·exact h0
 ·exact h0
end Go.Proofs.YtjhcgnmibnjocaaGreat
