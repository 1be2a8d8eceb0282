import Derived.Test.YtjhcgnmibnjocaaY9
/-! A relay: the others; new; a view is led. -/
namespace Go.Proofs.Ytjhcgnmibnjocaa
open Go.RowKit Go.Maps
set_option linter.unusedVariables false
set_option linter.unusedSimpArgs false
theorem okL_others (r : Rl) : okL r.id r.v.l r.v.l.length = othersP r := by
  unfold okL othersP
  rw [List.take_length]
  rfl
theorem leads_pos {r : Rl} (h : r.ok) (hl : r.leads = true) : 0 < r.v.l.length ∧ r.v.right = true ∧ 1 ≤ r.v.e ∧ r.v.p = r.id ∧ r.v.p ∈ r.v.l := by
  unfold Rl.leads at hl
  simp only [Bool.and_eq_true, decide_eq_true_eq] at hl
  rcases h.v with e | e
  · rw [e] at hl; exact absurd hl.1 (by decide)
  · have hb := right_bd e
    exact ⟨List.length_pos_of_mem hb.2.2.2, e, hb.1, hl.2, hb.2.2.2⟩
set_option maxHeartbeats 1000000 in
theorem others_any {S T : Nat → Prop} {g : Nat} {r : Rl} {Am : Option Addr} {cm : Nat} {vl : Value} {mb : Nat} (w : World) (h : RelX w S T g r Am cm vl mb) (hok : r.ok) (hl : r.leads = true) :
    Calls Try.prog 47 #[.pointer (some ⟨g, 0, none⟩)] w fun e w' => (∃ b c, e = .returned (.slice (some ⟨b, 0, none⟩) (othersP r).length c) ∧ RowAt w' b (othersP r) c ∧ w.heap.size ≤ b) ∧ Below w.heap.size w w' := by
  have hp := leads_pos hok hl
  have hm := hok.mem
  have hlg := h.blk.lt
  have h1 := h.below (Below.alloc (Below.refl _ _) (Nat.le_refl _) (.cells #[.pointer (some ⟨g, 0, none⟩)] 24))
  have hP := Blk.new w 24 #[.pointer (some ⟨g, 0, none⟩)]
  have c1 := h1.blk.cell
  have l1 := h1.blk.lt
  have hcl := clone_any Am r.v.l.length cm r.v.l _ h1.rd (by omega)
  have ho0 := hide (okL_others r)
  go_enter Try.func47, Try.ntmps47
  go_wp2_with (first | (go_at_call 40; (with_reducible refine hcl.mono ?_); rintro e w1 ⟨⟨u, rfl, ho⟩, hb1⟩; obtain ⟨b, c, rfl, hbb, hR⟩ := RowAt.of_own' ho hp.1 rfl; have hP1 := hP.below hb1 (by simp); have h2 := h1.below hb1; have hs1 := hb1.size; (simp only [World.size_alloc] at hs1 hbb)) | (go_at_call 91; (with_reducible refine (odelete_any w.heap.size b c r.v.l.length r.v.l g r.id w1 hR rfl (by omega) ((hP1.cell 0).trans rfl) (by omega) hP1.lt ((h2.blk.cell 0).trans rfl) (by omega) h2.blk.lt).mono ?_); rintro e w2 ⟨rfl, hR2, ho2⟩))
  go_ret
  rw [← ho0.out]
  exact ⟨⟨b, c, rfl, hR2, by omega⟩, (Below.alloc (Below.refl _ _) (Nat.le_refl _) _).trans ((hb1.mono (by simp)).trans (ho2.below (by omega) (by omega)))⟩
theorem rnew_no (id : Int) (w : World) (h : ¬(0 ≤ id ∧ id < 8)) : Calls Try.prog 9 #[.int .i64 id] w fun e w' => e = .returned (.tuple #[.pointer none, .int .i64 1]) ∧ w' = w := by
  by_cases h0 : id < 0
  · have d0 : decide (id < 0) = true := by simpa using h0
    go_enter Try.func9, Try.ntmps9
    go_wp2
    refine bodyPost_ret (v := .tuple #[.pointer none, .int .i64 1]) (by simp [results, Try.results9, go_sem] <;> rfl) rfl ?_
    exact ⟨rfl, rfl⟩
  · have d0 : decide (id < 0) = false := by simpa using h0
    have d1 : decide (8 ≤ id) = true := by simp; omega
    go_enter Try.func9, Try.ntmps9
    go_wp2
    refine bodyPost_ret (v := .tuple #[.pointer none, .int .i64 1]) (by simp [results, Try.results9, go_sem] <;> rfl) rfl ?_
    exact ⟨rfl, rfl⟩
theorem newP_ok {id : Int} (h : 0 ≤ id ∧ id < 8) : (newP id).ok := ⟨h, .inl rfl, by simp [newP], (fun x hx => by cases hx), ⟨by simp [newP], by simp [newP]⟩, by simp [newP], (fun x hx => by cases hx), List.nodup_nil⟩
theorem rnew_yes (id : Int) (w : World) (h : 0 ≤ id ∧ id < 8) : Calls Try.prog 9 #[.int .i64 id] w fun e w' => e = .returned (.tuple #[.pointer (some ⟨w.heap.size + 1, 0, none⟩), .int .i64 0]) ∧
    RelX w' (fun k => k = w.heap.size ∨ k = w.heap.size + 1) (fun k => k = w.heap.size ∨ k = w.heap.size + 1) (w.heap.size + 1) (newP id) none 0 (.slice none 0 0) w.heap.size ∧ Below w.heap.size w w' := by
  have hmm := @run_makeMap Try.prog
  have d0 : decide (id < 0) = false := by simp; omega
  have d1 : decide (8 ≤ id) = false := by simp; omega
  go_enter Try.func9, Try.ntmps9
  go_wp2
  refine bodyPost_ret (v := .tuple #[.pointer (some ⟨w.heap.size + 1, 0, none⟩), .int .i64 0]) (by simp [results, Try.results9, go_sem] <;> rfl) rfl ⟨rfl, ?_, by (repeat' (first | with_reducible exact Below.refl _ _ | with_reducible refine Below.ext ?_ ?_ _ | with_reducible refine Below.alloc ?_ ?_ _ | with_reducible refine Below.setCell ?_ ?_ _ | with_reducible refine Below.drew ?_ | with_reducible assumption | (simp [World.size_ext]; done) | (simp [World.size_ext]; omega)))⟩
  have hB := Blk.made w (.map #[] 0) 95 #[.int .i64 (newP id).id, .int .i64 (newP id).v.e, .int .i64 (newP id).v.p, .slice (none : Option Addr) (newP id).v.l.length 0, (.slice none 0 0), .int .i64 (newP id).joined, .int .i64 ((newP id).sure : Int), .map (some w.heap.size), .bool (newP id).act]
  refine ⟨hB, Reads.none_, fun h0 => absurd h0 (by simp [newP, Vi.none]), OwnE.nil _ _ _, fun k hk => by simp [Value.ownBlock] at hk, ?_, .inl rfl, by omega, by simp [Value.ownBlock], by simp [Value.ownBlock], .inr rfl, fun k h => h, fun k h => by simp; omega⟩
  exact (Mp.made w).kp (Kp.of_below (S := fun _ => False) (Below.alloc (Below.refl _ _) (by simp) _)) (fun h => h)
/-- A list of byte slices. -/
structure Recs (w : World) (T : Nat → Prop) (A : Option Addr) (n : Nat) (l : List (List Nat)) : Prop where
  ex : ∃ ms : List (List Nat × Value), ms.map Prod.fst = l ∧ Reads w w.heap.size 1 A n (ms.map Prod.snd) ∧ ∀ m ∈ ms, Bsl w T m.2 m.1
  len : l.length = n
  nt : 0 < n → ∀ a, A = some a → ¬T a.block
theorem Recs.nil (w : World) (T : Nat → Prop) : Recs w T none 0 [] := ⟨⟨[], rfl, Reads.none_, fun _ h => by cases h⟩, rfl, fun h => absurd h (by omega)⟩
theorem Recs.kp {w w' : World} {T : Nat → Prop} {A : Option Addr} {n : Nat} {l : List (List Nat)} (h : Recs w T A n l) (hk : Kp T w w') : Recs w' T A n l := by
  obtain ⟨⟨ms, e, hr, hm⟩, hl, hn⟩ := h
  exact ⟨⟨ms, e, Reads.kp hr hk hn, fun m hmm => (hm m hmm).kp hk⟩, hl, hn⟩
theorem Recs.sub {w : World} {T T' : Nat → Prop} {A : Option Addr} {n : Nat} {l : List (List Nat)} (h : Recs w T A n l) (hs : ∀ k, k < w.heap.size → T' k → T k) : Recs w T' A n l := by
  obtain ⟨⟨ms, e, hr, hm⟩, hl, hn⟩ := h
  refine ⟨⟨ms, e, hr, fun m hmm => (hm m hmm).sub hs⟩, hl, fun h0 a ha ht => hn h0 a ha (hs _ ?_ ht)⟩
  obtain ⟨a', e', hl', _⟩ := hr.2 h0
  rw [ha] at e'; cases e'; exact hl'
theorem Recs.one {w : World} {T : Nat → Prop} {v : Value} {t : List Nat} (h : Bsl w T v t) (hT : ¬T w.heap.size) : Recs (w.alloc (.cells #[v] 32)) T (some ⟨w.heap.size, 0, none⟩) 1 [t] := by
  have hb : Below w.heap.size w (w.alloc (.cells #[v] 32)) := Below.alloc (Below.refl _ _) (Nat.le_refl _) _
  refine ⟨⟨[(t, v)], rfl, ⟨rfl, fun _ => ⟨_, rfl, by simp, fun j u hu => ?_⟩⟩, fun m hm => ?_⟩, rfl, fun _ a ha => by cases ha; exact hT⟩
  · rw [add_plain, (Blk.new w 32 #[v]).cell, Nat.zero_add]
    simpa using hu
  · simp only [List.mem_singleton] at hm
    subst hm
    exact h.kp ⟨hb.os, hb.tape, hb.output, hb.size, fun k hk _ => hb.block k hk⟩
theorem RelX.widen {w : World} {S T T' : Nat → Prop} {g : Nat} {r : Rl} {Am : Option Addr} {cm : Nat} {vl : Value} {mb : Nat} (h : RelX w S T g r Am cm vl mb) (h1 : ∀ k, T' k → T k) (h2 : ∀ k, S k → T' k) : RelX w S T' g r Am cm vl mb :=
  ⟨h.blk, h.rd, fun h0 a ha ht => h.mt h0 a ha (h1 _ ht), h.own.sub (fun k _ ht => h1 k ht), h.vs, h.mp, h.ms, h.mg, h.vg, h.vm, h.g, h2, fun k ht => h.lt k (h1 k ht)⟩
/-- What a relay's call leaves. -/
def Aft (w w' : World) (S T : Nat → Prop) (g : Nat) (r' : Rl) (K : (Nat → Prop) → Prop) : Prop :=
  ∃ S' : Nat → Prop, RelW w' S' (fun k => T k ∨ S' k) g r' ∧ Kp S w w' ∧ (∀ k, S' k → S k ∨ w.heap.size ≤ k) ∧ K (fun k => T k ∨ S' k)
theorem Aft.same {w w' : World} {S T : Nat → Prop} {g : Nat} {r : Rl} {K : (Nat → Prop) → Prop} (h : RelW w S T g r) (hb : Below w.heap.size w w') (hK : K (fun k => T k ∨ S k)) : Aft w w' S T g r K := by
  obtain ⟨hok, Am, cm, vl, mb, hX⟩ := h
  exact ⟨S, ⟨hok, Am, cm, vl, mb, (hX.below hb).widen (fun k hk => hk.elim id (hX.sub k)) (fun k hk => .inr hk)⟩, Kp.of_below hb, fun k hk => .inl hk, hK⟩
theorem row_str {w : World} {v : Value} {base : Nat} {xs : List Nat} (h : Row w base v xs) : True := trivial
/-- Bytes of a record. -/
theorem numB_by (n : Nat) (h : n < 18446744073709551616) : ∀ x ∈ numB n, x < 256 := numB_lt n h
theorem recPromise_by {v : Vi} (hv : v.right = true) : ∀ x ∈ recPromiseP v, x < 256 := by
  have hbd := right_bd hv
  have hm := rising_mem hbd.2.2.1
  have hl8 := rising_len hbd.2.2.1
  have he : I64 v.e := by unfold I64; omega
  have hp : I64 v.p := by have := hm _ hbd.2.2.2; unfold I64; omega
  intro x hx
  simp only [recPromiseP, viewB, List.mem_append, tailB, List.mem_flatMap] at hx
  rcases hx with hx | hx | hx | hx | ⟨y, hy, hx⟩
  · exact numB_lt _ (by omega) x hx
  · exact numB_lt _ (zig_lt _ he) x hx
  · exact numB_lt _ (zig_lt _ hp) x hx
  · exact numB_lt _ (by omega) x hx
  · exact numB_lt _ (zig_lt _ (show I64 y by have := hm y hy; unfold I64; omega)) x hx
set_option maxRecDepth 100000 in
set_option maxHeartbeats 4000000 in
theorem lead_any {S T : Nat → Prop} {g : Nat} {r : Rl} (A : Option Addr) (c : Nat) (v : Vi) (w : World) (h : RelW w S T g r) (hr : Reads w w.heap.size 1 A v.l.length (ints v.l)) (hA : 0 < v.l.length → ∀ a, A = some a → ¬S a.block) (hl : v.l.length ≤ 1000000) :
    Calls Try.prog 14 #[.pointer (some ⟨g, 0, none⟩), .agg #[.int .i64 v.e, .int .i64 v.p, .slice A v.l.length c]] w fun e w' => Aft w w' S T g (leadP r v).r fun T' =>
      ∃ A1 n1 c1, e = .returned (.tuple #[.slice A1 n1 c1, .int .i64 (leadP r v).e]) ∧ Recs w' T' A1 n1 (leadP r v).recs := by
  have hW := h
  obtain ⟨hok, Am, cm, vl, mb, hX⟩ := h
  have hb0 : Below w.heap.size w (w.alloc (.cells #[.int .i64 v.e, .int .i64 v.p, .slice A v.l.length c] 39)) := Below.alloc (Below.refl _ _) (Nat.le_refl _) _
  have hX0 := hX.below hb0
  have hP := Blk.new w 39 #[.int .i64 v.e, .int .i64 v.p, .slice A v.l.length c]
  have hr0 := (hr.alloc (Nat.le_refl _) (.cells #[.int .i64 v.e, .int .i64 v.p, .slice A v.l.length c] 39)).more (B' := (w.alloc (.cells #[.int .i64 v.e, .int .i64 v.p, .slice A v.l.length c] 39)).heap.size) (by simp)
  have hR := vright_any v.e v.p A v.l.length c v.l _ hr0 (by omega)
  cases hv : v.right with
  | false =>
    have hL : leadP r v = ⟨[], 1, r⟩ := by unfold leadP; rw [hv]; rfl
    rw [hL]
    unfold Vi.right at hv
    rw [hv] at hR
    go_enter Try.func14, Try.ntmps14
    go_wp2_with (go_at_call 41; (with_reducible refine hR.mono ?_); rintro e w1 ⟨rfl, hb1⟩)
    refine bodyPost_ret (v := .tuple #[.slice none 0 0, .int .i64 1]) (by simp [results, Try.results14, go_sem] <;> rfl) rfl ?_
    exact Aft.same hW (hb0.trans (hb1.mono (by simp))) ⟨none, 0, 0, rfl, Recs.nil _ _⟩
  | true =>
    have hv2 := hv
    unfold Vi.right at hv2
    rw [hv2] at hR
    by_cases hle : v.e ≤ r.v.e
    · have hL : leadP r v = ⟨[], 0, r⟩ := by unfold leadP; rw [hv, if_pos rfl, if_pos hle]
      rw [hL]
      have hd : decide (v.e ≤ r.v.e) = true := by simpa using hle
      go_enter Try.func14, Try.ntmps14
      go_wp2_with (go_at_call 41; (with_reducible refine hR.mono ?_); rintro e w1 ⟨rfl, hb1⟩; have hX1 := hX0.below hb1; have hP1 := hP.below hb1 (by simp); have c1 := hX1.blk.cell; have l1 := hX1.blk.lt; have cP := hP1.cell; have lP := hP1.lt)
      refine wp_region_ext_lit (by kernel_rfl) (by kernel_rfl) ?_
      (repeat (first | ((with_reducible refine wpQuiet_step (fun K hK => ?_)); go_simp; first | ((with_reducible refine hK _ ?_); clear hK K) | (apply Exists.intro; (with_reducible refine ⟨fun _ => ?_, hK _ ?_⟩); skip; clear hK K)) | ((with_reducible refine quiet_skipN ?_ (fun K hK => ?_)); (rfl); go_simp; (with_reducible refine hK _ ?_); clear hK K)))
      (with_reducible refine wpQuiet_nil ?_); intro _ hw'; obtain ⟨Y, hw''⟩ := hw'; subst hw''
      go_wp2
      refine bodyPost_ret (v := .tuple #[.slice none 0 0, .int .i64 0]) (by simp [results, Try.results14, go_sem] <;> rfl) rfl ?_
      exact Aft.same hW (Below.ext (hb0.trans (hb1.mono (by simp))) (by have := hb1.size; simp at this; omega) Y) ⟨none, 0, 0, rfl, Recs.nil _ _⟩
    · have hL : leadP r v = ⟨[recPromiseP v], 0, promiseP r v⟩ := by unfold leadP; rw [hv, if_pos rfl, if_neg hle]
      rw [hL]
      have hd : decide (v.e ≤ r.v.e) = false := by simpa using hle
      go_enter Try.func14, Try.ntmps14
      go_wp2_with (go_at_call 41; (with_reducible refine hR.mono ?_); rintro e w1 ⟨rfl, hb1⟩; have hX1 := hX0.below hb1; have hP1 := hP.below hb1 (by simp); have c1 := hX1.blk.cell; have l1 := hX1.blk.lt; have cP := hP1.cell; have lP := hP1.lt)
      refine wp_region_ext_lit (by kernel_rfl) (by kernel_rfl) ?_
      (repeat (first | ((with_reducible refine wpQuiet_step (fun K hK => ?_)); go_simp; first | ((with_reducible refine hK _ ?_); clear hK K) | (apply Exists.intro; (with_reducible refine ⟨fun _ => ?_, hK _ ?_⟩); skip; clear hK K)) | ((with_reducible refine quiet_skipN ?_ (fun K hK => ?_)); (rfl); go_simp; (with_reducible refine hK _ ?_); clear hK K)))
      (with_reducible refine wpQuiet_nil ?_); intro _ hw'; obtain ⟨Y, hw''⟩ := hw'; subst hw''
      have hX2 := hX1.below (World.below_ext w1 Y)
      have hs1 := hb1.size
      simp only [World.size_alloc] at hs1
      have hP2 := hP1.ext Y
      have cP2 := hP2.cell
      have lP2 := hP2.lt
      have hb2 : Below w.heap.size w (w1.ext Y) := Below.ext (hb0.trans (hb1.mono (by simp))) (by omega) Y
      have hr2 := (hr.below hb2).more hb2.size
      have hne : w.heap.size ≠ g := by have := hX.blk.lt; omega
      have hAg : 0 < v.l.length → ∀ a, A = some a → a.block ≠ g := fun h0 a ha e => hA h0 a ha (by rw [e]; exact hX.g)
      clear cP c1 lP l1 hX1 hX0 hP1 hP
      go_wp2_with (first | (go_at_call 42; (with_reducible refine (promise_any A c v _ hX2 hok hv hr2).mono ?_); rintro e w3 ⟨rfl, ⟨A1, c1, m1, hX3, hm1⟩, ho3⟩; have hP3 := Blk.only hP2 ho3 hne; have cP3 := hP3.cell; have lP3 := hP3.lt) | (go_at_call 43; (with_reducible refine (recPromise_any A c v w3 (Reads.only hr2 ho3 hAg) hv).mono ?_); rintro e w4 ⟨u, rfl, hu, hb4⟩; obtain ⟨Au, nu, cu, rfl⟩ := hu.shape))
      refine bodyPost_ret (v := .tuple #[.slice (some ⟨w4.heap.size, 0, none⟩) 1 1, .int .i64 0]) (by simp [results, Try.results14, go_sem] <;> rfl) rfl ?_
      have hs2 := hb2.size
      have hs3 := ho3.size
      have hs4 := hb4.size
      have hba : Below w4.heap.size w4 (w4.alloc (.cells #[.slice Au nu cu] 32)) := Below.alloc (Below.refl _ _) (Nat.le_refl _) _
      have hX5 := ((hX3.below hb4).below hba).widen (T' := fun k => T k ∨ (S k ∨ k = m1)) (fun k hk => hk.elim .inl (fun hk => hk.elim (fun hk => .inl (hX.sub k hk)) .inr)) (fun k hk => .inr hk)
      refine ⟨fun k => S k ∨ k = m1, ⟨promise_ok hok hv, A1, c1, _, m1, hX5⟩, ?_, fun k hk => hk.elim .inl (fun e => .inr (by omega)), _, 1, 1, rfl, ?_⟩
      · exact (((Kp.of_below hb2).trans (Kp.of_only ho3 hX2.g)).trans (Kp.of_below hb4)).trans (Kp.of_below hba)
      · have hbs : Bsl w4 (fun k => k < w3.heap.size) (.slice Au nu cu) (recPromiseP v) := Bsl.row hu (fun k hk => hk) (recPromise_by hv)
        refine Recs.one (hbs.sub fun k hk ht => ?_) fun ht => ?_
        · show k < w3.heap.size
          rcases ht with ht | ht | ht
          · have := hX.lt k ht; omega
          · have := hX.lt k (hX.sub k ht); omega
          · have := hX3.lt k (.inr ht); omega
        · rcases ht with ht | ht | ht
          · have := hX.lt _ ht; omega
          · have := hX.lt _ (hX.sub _ ht); omega
          · have := hX3.lt _ (.inr ht); omega
end Go.Proofs.Ytjhcgnmibnjocaa
