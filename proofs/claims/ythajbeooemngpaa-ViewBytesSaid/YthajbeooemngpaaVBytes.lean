import Derived.Test.YthajbeooemngpaaVPut2
import Derived.Test.YthajbeooemngpaaIn
/-! The law: a view's bytes, and a view off bytes. -/
namespace Go.Proofs.Ythajbeooemngpaa
open Go.RowKit
set_option linter.unusedVariables false
set_option linter.unusedSimpArgs false
theorem wp_region_kp (S : Nat → Prop) {P : Program} {id : Nat} {Q : Exit → Act → World → Prop} {a : Act} {w : World} {l : List Oper} (Vs Ps : List Nat) (ks : List (Bool × Bool × Nat)) (hm : P.follows .mixedOrders = true)
    (hB : (Region.noSelect l.toArray && decide (ks.length = l.length) && First.orderB .any l.toArray Vs Ps ks (Array.replicate l.length false)) = true)
    (h : ∀ X, First.wpF P l.toArray (fun w w' => Kp S w w') (Q .normal) (ks.map fun k => (k.1, k.2.1, l.getD k.2.2 default)) a (w.ext X)) : (Code.region id l.toArray true).wp P Q a w := by
  have hw₁ : ({ w with drawn := w.drawn + 1 } : World) = w.ext ⟨#[], w.drawn + 1⟩ := by simp [World.ext]
  exact First.wp_region_first _ (fun w => Kp.refl S w) (fun w w' w'' h h' => h.trans h') Vs Ps ks hm hB (hw₁ ▸ h _)
theorem first_readG {P : Program} {ops : Array Oper} {Le : World → World → Prop} {Q : Act → World → Prop} {a : Act} {w : World} {o : Oper} {rest : List (Bool × Bool × Oper)} {v : Value} (hg : Region.wanted o (yielded ops a.tmps) = true) (hv : ∀ w', Le w w' → First.at_ P o a w' v)
    (hk : ∀ K : Act → World → Prop, (∀ a w, First.wpF P ops Le Q rest a w → K a w) → K (a.put o.dst v) w) : First.wpF P ops Le Q ((true, true, o) :: rest) a w :=
  First.wpF_free fun K hK => by
    rw [if_pos hg]
    exact ⟨v, hv, hk K hK⟩
theorem Mrd.onl {w w' : World} {g q : Nat} {A : Option Addr} {c : Nat} {l : List Nat} {a : Nat} {e : Int} (h : Mrd w q A c l a e) (ho : Only w w' g) (h1 : q ≠ g) (h2 : 0 < l.length → ∀ b, A = some b → b.block ≠ g) : Mrd w' q A c l a e :=
  ⟨Blk.only h.blk ho h1, Reads.onl h.row ho h2, h.ne, h.le⟩
theorem Mst.onl {w w' : World} {g q : Nat} {A : Option Addr} {c : Nat} {l : List Nat} {r : Rest} (h : Mst w q A c l r) (ho : Only w w' g) (h1 : q ≠ g) (h2 : 0 < l.length → ∀ b, A = some b → b.block ≠ g) : Mst w' q A c l r := by
  obtain ⟨a, e, hm, hr⟩ := h
  exact ⟨a, e, Mrd.onl hm ho h1 h2, hr⟩
theorem Kp.of_only {S : Nat → Prop} {w w' : World} {g : Nat} (h : Only w w' g) (hg : S g) : Kp S w w' := ⟨h.os, h.tape, h.output, h.size, fun k hk hn => h.block k hk (fun e => hn (e ▸ hg))⟩
theorem Kp.cat {S : Nat → Prop} (w : World) (X Y : Ext) : Kp S (w.ext X) (w.ext (X.cat Y)) := by
  have h : Kp S (w.ext X) ((w.ext X).ext Y) := Kp.of_below (World.below_ext _ _)
  rwa [World.ext_ext] at h
theorem de_any (q : Nat) (A : Option Addr) (c : Nat) (l : List Nat) (r : Rest) (hlen : l.length ≤ 140737488355328) (w : World) (h : Mst w q A c l r) :
    Calls Try.prog 66 #[.pointer (some ⟨q, 0, none⟩)] w fun e' w' => e' = .returned (.int .i64 (endP r).e) ∧ Only w w' q := by
  obtain ⟨a, e, hm, rfl⟩ := h
  exact dend_any q A c l a e w hm hlen
theorem Row.conv {P : Program} {w : World} {base : Nat} {src dst : TypeId} {A : Option Addr} {n c : Nat} {xs : List Nat} (h : Row w base (.slice A n c) xs) (hs : P.underlying src = some (.slice 5)) (he : P.underlying 5 = some (.int .u8)) (hd : P.underlying dst = some .string) :
    (convert src dst (.slice A n c)).run P w = .ok (.string (strOf xs)) w := by
  obtain ⟨A', c', e, _, _, _, hr⟩ := h.slice
  simp only [Value.slice.injEq] at e
  obtain ⟨rfl, rfl, rfl⟩ := e
  exact conv_bytes hr hs he hd c
theorem Wrt.kp {S : Nat → Prop} {w w' : World} {base g : Nat} {t : TypeId} {v : Value} {xs : List Nat} (h : Wrt w base g t v xs) (hk : Kp S w w') (hg : ¬S g) (hv : ∀ k, v.ownBlock = some k → ¬S k) : Wrt w' base g t v xs :=
  ⟨Blk.kp h.blk hk hg, h.row.keep (fun k hl ho => hk.block k hl (hv k ho)), h.ne, h.ge⟩
theorem Row.kp {S : Nat → Prop} {w w' : World} {base : Nat} {v : Value} {xs : List Nat} (h : Row w base v xs) (hk : Kp S w w') (hS : ∀ k, S k → k < base) : Row w' base v xs :=
  own_keep h fun k hk0 hl => hk.block k hl (fun hs => by have := hS k hs; omega)
set_option maxRecDepth 100000 in
set_option maxHeartbeats 4000000 in
theorem law_viewBytes (e p : Int) (A : Option Addr) (n c : Nat) (l : List Int) (Ab : Option Addr) (cb : Nat) (bs : List Nat) (w : World) (hr : Reads w w.heap.size 1 A n (ints l)) (hn8 : n * 8 ≤ 140737488355328) (he : I64 e) (hp : I64 p) (hl64 : ∀ x ∈ l, I64 x)
    (hrb : Reads w w.heap.size 1 Ab bs.length (u8s bs)) (hby : ∀ x ∈ bs, x < 256) (hnil : Ab = none → cb = 0) (hlen : bs.length ≤ 140737488355328) :
    Calls Try.prog 14 #[.agg #[.int .i64 e, .int .i64 p, .slice A n c], .slice Ab bs.length cb] w fun r w' => r = .returned (.bool true) ∧ Below w.heap.size w w' := by
  have hl := reads_len hr
  have hB0 := Blk.new w 66 #[.int .i64 e, .int .i64 p, .slice A n c]
  have hb0 : Below w.heap.size w (w.alloc (.cells #[.int .i64 e, .int .i64 p, .slice A n c] 66)) := Below.alloc (Below.refl _ _) (Nat.le_refl _) _
  by_cases h50 : 50 < n
  · have h50' : decide ((50 : Int) < n) = true := by simp; omega
    go_enter Try.func14, Try.ntmps14
    go_wp2_with (go_at_call 28; (with_reducible refine (vawake_any _).mono ?_); rintro r w1 ⟨rfl, hb1⟩)
    go_ret
    exact ⟨rfl, hb0.trans (hb1.mono (by simp))⟩
  · have h50' : decide ((50 : Int) < n) = false := by simp; omega
    have hRA : ∀ w', Below w.heap.size w w' → Reads w' w'.heap.size 1 A n (ints l) := fun w' h => (hr.below h).more h.size
    have hRB : ∀ w', Below w.heap.size w w' → Reads w' w'.heap.size 1 Ab bs.length (u8s bs) := fun w' h => (hrb.below h).more h.size
    have hAb : 0 < bs.length → ∀ b, Ab = some b → b.block < w.heap.size := fun h0 b hb => by
      obtain ⟨a, e', h, _⟩ := hrb.2 h0
      rw [hb] at e'; cases e'; exact h
    have hA0 : 0 < n → ∀ b, A = some b → b.block < w.heap.size := fun h0 b hb => by
      obtain ⟨a, e', h, _⟩ := hr.2 h0
      rw [hb] at e'; cases e'; exact h
    have hG := getV_bd ⟨bs, 0⟩
    rcases hGV : getV ⟨bs, 0⟩ with ⟨E, P, L, R⟩
    rw [hGV] at hG
    simp only at hG
    have hPG := fun g b w' h' => pget_any g b ⟨bs, 0⟩ w' h'
    have hDG := fun q w' h' => dget_any q Ab cb bs ⟨bs, 0⟩ hby hlen w' h'
    rw [hGV] at hPG hDG
    simp only at hPG hDG
    go_enter Try.func14, Try.ntmps14
    go_wp2_with (first | (go_at_call 23; (with_reducible refine (new_any _).mono ?_); rintro r w1 ⟨rfl, hw1, hb1⟩; (simp only [World.size_alloc] at hw1); have hb01 := hb0.trans (hb1.mono (by simp)); have hB1 := hB0.below hb1 (by simp); have cB1 := hB1.cell; have lB1 := hB1.lt) | (go_at_call 62; (with_reducible refine (vto_any _ _ _ _ _ l _ (hRA _ hb01) hn8).mono ?_); rintro r w2 ⟨⟨v, rfl, ho2⟩, hb2⟩; obtain ⟨A2, c2, rfl, hc2⟩ := own_sl ho2; have ha2 := own_addr ho2; have hb02 := hb01.trans (hb2.mono hb01.size); have hw2 := hw1.below hb2; have hA2 : 0 < n → ∀ a, A2 = some a → ¬(a.block = w.heap.size + 1 ∨ (Value.slice none 0 0).ownBlock = some a.block) := (fun _ a ha h => h.elim (fun h => (by have := ha2 a ha; have := hw1.blk.lt; omega)) (fun h => (by cases h)))) | (go_at_call 61; (with_reducible refine (vput_any (w.heap.size + 1) (w.heap.size + 1) _ [] e p A2 n c2 l _ hw2 (Reads.of_own ho2) hA2 he hp hl64 (by omega) (by simp)).mono ?_); rintro r w3 ⟨rfl, v3, hw3, hc3⟩; rw [List.nil_append] at hw3; have hb3 := hc3.below hw2; have hb03 := hb02.trans (hb3.mono (by omega)); have hB3 := (hB1.below hb2 lB1).below hb3 (by omega)) | (go_at_call 55; (with_reducible refine (read_any _ _ _ _ (hRB _ hb03) hby hnil hlen).mono ?_); rintro r w4 ⟨gR, bR, rfl, hr4, hgR, hbR, hb4⟩; have hb04 := hb03.trans (hb4.mono hb03.size); have hr4' := Rdr.below hr4 (Below.alloc (Below.refl _ _) (Nat.le_refl _) (.cells #[.slice Ab bs.length cb, .int .i64 0, .int .i64 0] 105)); have hM4 := ((⟨0, 0, ⟨Blk.new w4 105 #[.slice Ab bs.length cb, .int .i64 0, .int .i64 0], hRB _ (hb04.alloc hb04.size _), fun h0 b hb => (by have := hAb h0 b hb; have := hb04.size; omega), Nat.zero_le _⟩, by rw [restP_ok]; rfl⟩ : Mst (w4.alloc (.cells #[.slice Ab bs.length cb, .int .i64 0, .int .i64 0] 105)) w4.heap.size Ab cb bs ⟨bs, 0⟩))) | (go_at_call 63; (with_reducible refine (hPG _ _ _ hr4').mono ?_); rintro r w5 ⟨⟨v, rfl, ho5⟩, hr5, hk5⟩; obtain ⟨A5, c5, rfl, hc5⟩ := own_sl ho5; have hM5 := (Mst.onl hM4 hk5 (by have := hr4.lt; omega) (fun h0 b hb => by have := hAb h0 b hb; have := hb03.size; omega))) | (go_at_call 64; (with_reducible refine (hDG _ _ hM5 (by have := hr4.lt; have := hk5.size; simp at this; omega) (fun h0 b hb => by have := hAb h0 b hb; have := hb04.size; have := hk5.size; simp at this; omega)).mono ?_); rintro r w6 ⟨⟨v, rfl, ho6⟩, hm6, hk6⟩; obtain ⟨A6, c6, rfl, hc6⟩ := own_sl ho6))
    have hl4 := hr4.lt
    have hs5 := hk5.size
    have hs6 := hk6.size
    simp only [World.size_alloc] at hs5
    have hs3 := hb03.size
    have hs43 := hb4.size
    have hw4 := hw3.below hb4
    have hwl3 := hw3.blk.lt
    have hB4 := hB3.below hb4 (by omega)
    have hv3 : ∀ k, v3.ownBlock = some k → ¬(k = gR ∨ k = w4.heap.size) := fun k hk => by have := (hw3.row.ge hk).2; omega
    have K7 : Kp (fun k => k = gR ∨ k = w4.heap.size) w4 ((w6.alloc (.cells #[.int .i64 E, .int .i64 P, .slice A5 L.length c5] 56)).alloc (.cells #[.int .i64 E, .int .i64 P, .slice A6 L.length c6] 66)) :=
      (((((Kp.refl _ w4).alloc (.cells #[.slice Ab bs.length cb, .int .i64 0, .int .i64 0] 105)).trans (Kp.of_only hk5 (.inl rfl))).trans (Kp.of_only hk6 (.inr rfl))).alloc _).alloc _
    have ba := Below.alloc (Below.alloc (Below.refl w6.heap.size w6) (Nat.le_refl _) (.cells #[.int .i64 E, .int .i64 P, .slice A5 L.length c5] 56)) (by simp) (.cells #[.int .i64 E, .int .i64 P, .slice A6 L.length c6] 66)
    have hp8 : w6.heap.size ≠ w.heap.size := by omega
    refine abstr (fun W => Blk W w.heap.size 66 #[.int .i64 e, .int .i64 p, .slice A n c] ∧ Blk W w6.heap.size 56 #[.int .i64 E, .int .i64 P, .slice A5 L.length c5] ∧ Blk W (w6.heap.size + 1) 66 #[.int .i64 E, .int .i64 P, .slice A6 L.length c6] ∧ Wrt W (w.heap.size + 1) (w.heap.size + 1) 124 v3 (viewB e p l) ∧ Rdr W gR bR R.xs R.e ∧ Mst W w4.heap.size Ab cb bs R ∧ Reads W W.heap.size 1 A5 L.length (ints L) ∧ Reads W W.heap.size 1 A6 L.length (ints L) ∧ Below w.heap.size w W ∧ w6.heap.size + 2 ≤ W.heap.size)
      ⟨Blk.kp hB4 K7 (by omega), (Blk.new w6 _ _).alloc _, Blk.made w6 _ _ _, Wrt.kp hw4 K7 (by omega) hv3, Rdr.below (Rdr.only hr5 hk6 (by omega) (by omega)) ba, Mst.below hm6 ba, (Reads.of_own (own_alloc (own_alloc (own_only ho5 hk6 (by simp)) _) _)), (Reads.of_own (own_alloc (own_alloc ho6 _) _)), hb04.trans (K7.below (by omega) (fun k hk => by omega)), by simp⟩ (fun W hW => ?_)
    obtain ⟨fB, fV, fS, fw, fr, fm, f5, f6, fb, fs⟩ := hW
    clear K7 ba hB4 hw4 hr5 hk5 hk6 hm6 ho5 ho6 hM5 hM4 hr4' hr4 hb4 hb03 hb3 hc3 hw3 hb02 hb2 hw2 hA2 ha2 ho2 hB1 cB1 lB1 hb01 hb1 hw1 hB0 hb0 hPG hDG
    have hq6 : w4.heap.size < w6.heap.size := by omega
    have hg6 : gR < w6.heap.size := by omega
    have hgq : gR ≠ w4.heap.size := by omega
    have hgw : w.heap.size + 1 < gR := by omega
    have hqw : w.heap.size + 1 < w4.heap.size := by omega
    have hbq : bR < w4.heap.size := hl4.2
    generalize w4.heap.size = q at *
    generalize w6.heap.size = p8 at *
    refine wp_region_kp (fun k => k = gR ∨ k = q) [2, 5, 12, 13, 15, 19, 21] [1, 7, 8, 9, 10, 16, 17, 18, 23, 24, 25, 27, 29, 30] [(false, true, 0), (true, false, 1), (true, true, 2), (true, true, 5), (false, true, 3), (false, true, 4), (false, true, 6), (true, false, 7), (true, false, 8), (true, false, 9), (true, false, 10), (true, true, 13), (false, true, 11), (true, true, 12), (false, true, 14), (true, true, 15), (true, false, 16), (true, false, 17), (true, false, 18), (true, true, 19), (true, true, 21), (false, true, 20), (false, true, 22), (true, false, 23), (true, false, 24), (true, false, 25), (true, false, 27), (false, true, 26), (false, true, 28), (true, false, 29), (true, false, 30), (false, false, 31)] (by kernel_rfl) (by kernel_rfl) (fun Y => ?_); simp only [List.map_cons, List.map_nil, List.getD_cons_zero, List.getD_cons_succ]
    have nB : ¬(w.heap.size = gR ∨ w.heap.size = q) := by omega
    have n8 : ¬(p8 = gR ∨ p8 = q) := by omega
    have n9 : ¬(p8 + 1 = gR ∨ p8 + 1 = q) := by omega
    have hle := fb.size
    have hRX : ∀ X, Reads (W.ext X) (W.ext X).heap.size 1 A n (ints l) := fun X => (hRA W fb).grown X
    have hSB : ∀ X : Ext, ∀ k, (k = gR ∨ k = q) → k < (W.ext X).heap.size := fun X k hk => by simp only [World.size_ext]; omega
    have hvl : (viewB e p l).length + 9 ≤ 140737488355328 := by
      have h1 := numB_le _ (zig_lt _ he)
      have h2 := numB_le _ (zig_lt _ hp)
      have h3 := numB_le l.length (by omega)
      have h4 := tailB_le hl64
      simp only [viewB, List.length_append]
      omega
    refine First.wpF_must (fun K hK => ?_)
    go_wp2_with (go_at_call 28; (with_reducible refine (vawake_any _).mono ?_); rintro e w' ⟨rfl, hb⟩; obtain ⟨Z1, rfl⟩ := World.ext_of_below hb; clear hb)
    (refine hK _ _ (fun _ => Kp.cat _ _ _) ?_; clear hK K)
    (repeat (first | (refine First.wpF_pure (fun K hK => ?_); go_simp; first | (refine hK _ _ ?_; clear hK K) | (apply Exists.intro; refine ⟨fun _ => ?_, hK _ _ ?_⟩; fail)) | (refine First.wpF_free (fun K hK => ?_); go_simp; first | (refine hK _ _ ?_; clear hK K))))
    (refine first_readG rfl (v := .agg #[.int .i64 e, .int .i64 p, .slice A n c]) (fun w' hw' => ?_) (fun K hK => ?_); rotate_left 1; go_simp; refine hK _ _ ?_; clear hK K; rotate_left 1; (have hB' := Blk.kp (Blk.ext fB _) hw' nB; have c' := Blk.cell hB'; go_simp))
    (refine first_readG rfl (v := .agg #[.int .i64 e, .int .i64 p, .slice A n c]) (fun w' hw' => ?_) (fun K hK => ?_); rotate_left 1; go_simp; refine hK _ _ ?_; clear hK K; rotate_left 1; (have hB' := Blk.kp (Blk.ext fB _) hw' nB; have c' := Blk.cell hB'; go_simp))
    refine First.wpF_must (fun K hK => ?_)
    go_wp2_with (go_at_call 62; (with_reducible refine (vto_any _ _ _ _ _ l _ (hRX _) hn8).mono ?_); rintro r w' ⟨⟨v, rfl, ho⟩, hb⟩; obtain ⟨A9, c9, rfl, hc9⟩ := own_sl ho; have hq9 := Reads.of_own ho; clear ho; obtain ⟨Z2, rfl⟩ := World.ext_of_below hb; clear hb; rw [World.ext_ext] at hq9)
    (refine hK _ _ (fun _ => Kp.cat _ _ _) ?_; clear hK K)
    refine First.wpF_must (fun K hK => ?_)
    go_wp2_with (go_at_call 39; (with_reducible refine (vright_any _ _ _ _ _ l _ hq9 (by omega)).mono ?_); rintro e w' ⟨rfl, hb⟩; obtain ⟨Z3, rfl⟩ := World.ext_of_below hb; clear hb)
    clear hq9
    (refine hK _ _ (fun _ => Kp.cat _ _ _) ?_; clear hK K)
    refine First.wpF_must (fun K hK => ?_)
    go_wp2_with (go_at_call 40; (with_reducible refine (rvright_any _ _ _ _ _ l _ (hRX _) (by omega)).mono ?_); rintro e w' ⟨rfl, hb⟩; obtain ⟨Z4, rfl⟩ := World.ext_of_below hb; clear hb)
    (refine hK _ _ (fun _ => Kp.cat _ _ _) ?_; clear hK K)
    (repeat (first | (refine First.wpF_pure (fun K hK => ?_); go_simp; first | (refine hK _ _ ?_; clear hK K) | (apply Exists.intro; refine ⟨fun _ => ?_, hK _ _ ?_⟩; fail)) | (refine First.wpF_free (fun K hK => ?_); go_simp; first | (refine hK _ _ ?_; clear hK K))))
    (refine first_readG rfl (v := .agg #[.int .i64 e, .int .i64 p, .slice A n c]) (fun w' hw' => ?_) (fun K hK => ?_); rotate_left 1; go_simp; refine hK _ _ ?_; clear hK K; rotate_left 1; (have hB' := Blk.kp (Blk.ext fB _) hw' nB; have c' := Blk.cell hB'; go_simp))
    refine First.wpF_must (fun K hK => ?_)
    go_wp2_with (go_at_call 25; (with_reducible refine (bytes_any _ _ _ _ _ (fw.below (World.below_ext W _)) hvl).mono ?_); rintro r w' ⟨u, rfl, hu, hb⟩; obtain ⟨Au, cu, rfl, _, _, _, _⟩ := hu.slice; obtain ⟨Z5, rfl⟩ := World.ext_of_below hb; clear hb; rw [World.ext_ext] at hu)
    (refine hK _ _ (fun _ => Kp.cat _ _ _) ?_; clear hK K)
    (refine first_readG rfl (v := .string (strOf (viewB e p l))) (fun w' hw' => ?_) (fun K hK => ?_); rotate_left 1; go_simp; refine hK _ _ ?_; clear hK K; rotate_left 1; (have cv := Row.conv (P := Try.prog) (Row.kp hu hw' (hSB _)) Try.underlying23 Try.underlying5 Try.underlying9; go_simp))
    clear hu
    refine First.wpF_must (fun K hK => ?_)
    go_wp2_with (go_at_call 65; (with_reducible refine (rvput_any _ _ _ _ _ l _ (hRX _) he hp hl64 (by omega)).mono ?_); rintro r w' ⟨⟨u, rfl, hu⟩, hb⟩; obtain ⟨Av, cv, rfl, _, _, _, _⟩ := hu.slice; obtain ⟨Z6, rfl⟩ := World.ext_of_below hb; clear hb; rw [World.ext_ext] at hu)
    (refine hK _ _ (fun _ => Kp.cat _ _ _) ?_; clear hK K)
    (refine first_readG rfl (v := .string (strOf (viewB e p l))) (fun w' hw' => ?_) (fun K hK => ?_); rotate_left 1; go_simp; refine hK _ _ ?_; clear hK K; rotate_left 1; (have cv := Row.conv (P := Try.prog) (Row.kp hu hw' (hSB _)) Try.underlying23 Try.underlying5 Try.underlying9; go_simp))
    clear hu
    (repeat (first | (refine First.wpF_pure (fun K hK => ?_); go_simp; first | (refine hK _ _ ?_; clear hK K) | (apply Exists.intro; refine ⟨fun _ => ?_, hK _ _ ?_⟩; fail)) | (refine First.wpF_free (fun K hK => ?_); go_simp; first | (refine hK _ _ ?_; clear hK K))))
    (refine first_readG rfl (v := .agg #[.int .i64 E, .int .i64 P, .slice A5 L.length c5]) (fun w' hw' => ?_) (fun K hK => ?_); rotate_left 1; go_simp; refine hK _ _ ?_; clear hK K; rotate_left 1; (have hB' := Blk.kp (Blk.ext fV _) hw' n8; have c' := Blk.cell hB'; go_simp))
    (refine first_readG rfl (v := .agg #[.int .i64 E, .int .i64 P, .slice A6 L.length c6]) (fun w' hw' => ?_) (fun K hK => ?_); rotate_left 1; go_simp; refine hK _ _ ?_; clear hK K; rotate_left 1; (have hB' := Blk.kp (Blk.ext fS _) hw' n9; have c' := Blk.cell hB'; go_simp))
    refine First.wpF_must (fun K hK => ?_)
    go_wp2_with (go_at_call 36; (with_reducible refine (vfrom_any _ _ _ _ _ _).mono ?_); rintro e w' ⟨rfl, hb⟩; obtain ⟨Z7, rfl⟩ := World.ext_of_below hb; clear hb)
    (refine hK _ _ (fun _ => Kp.cat _ _ _) ?_; clear hK K)
    refine First.wpF_must (fun K hK => ?_)
    go_wp2_with (go_at_call 35; (with_reducible refine (same_any _ _ _ _ _ _ _ L _ (f5.grown _) (f6.grown _) (by omega)).mono ?_); rintro e w' ⟨rfl, hb⟩; obtain ⟨Z8, rfl⟩ := World.ext_of_below hb; clear hb)
    (refine hK _ _ (fun _ => Kp.cat _ _ _) ?_; clear hK K)
    (repeat (first | (refine First.wpF_pure (fun K hK => ?_); go_simp; first | (refine hK _ _ ?_; clear hK K) | (apply Exists.intro; refine ⟨fun _ => ?_, hK _ _ ?_⟩; fail)) | (refine First.wpF_free (fun K hK => ?_); go_simp; first | (refine hK _ _ ?_; clear hK K))))
    refine First.wpF_must (fun K hK => ?_)
    go_wp2_with (go_at_call 54; (with_reducible refine (rdend_any _ _ R.xs R.e _ (Rdr.below fr (World.below_ext W _))).mono ?_); rintro r w8 ⟨rfl, hr8, hk8⟩)
    (refine hK _ _ (fun _ => Kp.of_only hk8 (.inl rfl)) ?_; clear hK K)
    have hm8 := Mst.onl (Mst.below fm (World.below_ext W ((((((((Y.cat Z1).cat Z2).cat Z3).cat Z4).cat Z5).cat Z6).cat Z7).cat Z8))) hk8 hgq.symm (fun h0 b hb => by have := hAb h0 b hb; omega)
    (repeat (first | (refine First.wpF_pure (fun K hK => ?_); go_simp; first | (refine hK _ _ ?_; clear hK K) | (apply Exists.intro; refine ⟨fun _ => ?_, hK _ _ ?_⟩; fail)) | (refine First.wpF_free (fun K hK => ?_); go_simp; first | (refine hK _ _ ?_; clear hK K))))
    refine First.wpF_must (fun K hK => ?_)
    go_wp2_with (go_at_call 66; (with_reducible refine (de_any _ _ _ _ _ hlen _ hm8).mono ?_); rintro r w9 ⟨rfl, hk9⟩)
    (refine hK _ _ (fun _ => Kp.of_only hk9 (.inr rfl)) ?_; clear hK K)
    (repeat (first | (refine First.wpF_pure (fun K hK => ?_); go_simp; first | (refine hK _ _ ?_; clear hK K) | (apply Exists.intro; refine ⟨fun _ => ?_, hK _ _ ?_⟩; fail)) | (refine First.wpF_free (fun K hK => ?_); go_simp; first | (refine hK _ _ ?_; clear hK K))))
    refine First.wpF_must (fun K hK => ?_)
    go_wp2
    (refine hK _ _ (fun _ => Kp.refl _ _) ?_; clear hK K)
    refine First.wpF_nil ?_
    go_wp2
    go_ret
    have s8 := hk8.size
    simp only [World.size_ext] at s8
    exact ⟨rfl, ((Below.ext fb hle _).trans (hk8.below (by omega) (by simp only [World.size_ext]; omega))).trans (hk9.below (by omega) (by omega))⟩
end Go.Proofs.Ythajbeooemngpaa
