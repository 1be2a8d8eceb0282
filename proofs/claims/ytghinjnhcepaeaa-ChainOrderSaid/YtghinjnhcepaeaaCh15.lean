import Derived.Test.YtghinjnhcepaeaaCh14
/-! A chain wherever it lies: Put, Get, Cut, and the document's, as the laws call them. -/
namespace Go.Proofs.Ytghinjnhcepaeaa
open Go.RowKit
set_option linter.unusedVariables false
set_option linter.unusedSimpArgs false
/-- A slice that reads as a list of versions. -/
def Chn (w : World) (v : Value) (L : List Ver) : Prop :=
  ∃ A c, v = .slice A L.length c ∧ L.length ≤ c ∧ (A = none ∧ c = 0 ∨ ∃ b o, A = some ⟨b, o, none⟩) ∧ Reads w w.heap.size 6 A L.length (vsV L)
theorem Chn.nil (w : World) : Chn w (.slice none 0 0) [] := ⟨none, 0, rfl, Nat.le_refl _, .inl ⟨rfl, rfl⟩, Reads.none_⟩
theorem Chn.below {w w' : World} {v : Value} {L : List Ver} (h : Chn w v L) (hb : Below w.heap.size w w') : Chn w' v L := by
  obtain ⟨A, c, e, h1, h2, h3⟩ := h
  exact ⟨A, c, e, h1, h2, (h3.below hb).more hb.size⟩
theorem Chn.own {w : World} {base n : Nat} {t : TypeId} {v : Value} {L : List Ver} (h : w.ownsRow base t 6 v n (vsV L)) : Chn w v L := by
  have hl : L.length = n := by have := h.1; rw [vsV_length] at this; omega
  subst hl
  rcases h.2 with ⟨rfl, h0⟩ | ⟨g, cap, cur, rfl, _, hg, hnc, _⟩
  · rw [h0] at h
    exact ⟨none, 0, by rw [h0], by omega, .inl ⟨rfl, rfl⟩, by rw [h0]; exact Reads.of_own h⟩
  · exact ⟨_, cap, rfl, hnc, .inr ⟨g, 0, rfl⟩, Reads.of_own h⟩
structure Good (L : List Ver) : Prop where
  srt : Srt L
  ok : ∀ x ∈ L, x.ok
  right : ∀ x ∈ L, vright x = true
theorem Good.nil : Good [] := ⟨List.Pairwise.nil, (fun x h => by cases h), (fun x h => by cases h)⟩
theorem putL_mem {L : List Ver} {x y : Ver} : y ∈ putL L x ↔ y = x ∨ y ∈ L := by
  unfold putL
  rw [List.mem_append, List.mem_cons]
  constructor
  · rintro (h | h | h)
    · exact .inr (List.mem_of_mem_take h)
    · exact .inl h
    · exact .inr (List.mem_of_mem_drop h)
  · rintro (h | h)
    · exact .inr (.inl h)
    · rw [← List.take_append_drop (cntK L x.k) L, List.mem_append] at h
      rcases h with h | h
      · exact .inl h
      · exact .inr (.inr h)
theorem putL_perm (L : List Ver) (x : Ver) : (putL L x).Perm (x :: L) := by
  unfold putL
  refine List.perm_middle.trans (List.Perm.cons x ?_)
  rw [List.take_append_drop]
theorem putL_length (L : List Ver) (x : Ver) : (putL L x).length = L.length + 1 := by rw [(putL_perm L x).length_eq, List.length_cons]
theorem putL_srt {L : List Ver} {x : Ver} (hs : Srt L) (h : hasK L x.k = false) : Srt (putL L x) := by
  unfold putL Srt
  rw [List.pairwise_append]
  refine ⟨hs.sublist (List.take_sublist _ _), ?_, ?_⟩
  · rw [List.pairwise_cons]
    refine ⟨fun y hy => ?_, hs.sublist (List.drop_sublist _ _)⟩
    obtain ⟨i, hi⟩ := List.getElem?_of_mem hy
    rw [List.getElem?_drop] at hi
    have h1 := hasK_get h hi
    have h2 := (not_congr (cntK_lt (k := x.k) hs hi)).2 (by omega)
    omega
  · intro y hy z hz
    obtain ⟨i, hi⟩ := List.getElem?_of_mem hy
    have hil : i < cntK L x.k := by have := (List.getElem?_eq_some_iff.1 hi).1; rw [List.length_take] at this; omega
    rw [List.getElem?_take_of_lt hil] at hi
    have h1 := (cntK_lt (k := x.k) hs hi).2 hil
    rcases List.mem_cons.1 hz with rfl | hz
    · exact h1
    · obtain ⟨j, hj⟩ := List.getElem?_of_mem hz
      rw [List.getElem?_drop] at hj
      have h2 := (not_congr (cntK_lt (k := x.k) hs hj)).2 (by omega)
      omega
theorem Good.put {L : List Ver} {x : Ver} (h : Good L) (hx : x.ok) (hr : vright x = true) (hk : hasK L x.k = false) : Good (putL L x) :=
  ⟨putL_srt h.srt hk, fun y hy => (putL_mem.1 hy).elim (fun e => e ▸ hx) (h.ok y), fun y hy => (putL_mem.1 hy).elim (fun e => e ▸ hr) (h.right y)⟩
def errL (L : List Ver) (x : Ver) : Int := if vright x then (if hasK L x.k then 7 else 0) else 1
def resL (L : List Ver) (x : Ver) : List Ver := if errL L x = 0 then putL L x else []
def stepL (L : List Ver) (x : Ver) : List Ver := if errL L x = 0 then putL L x else L
theorem errL_zero {L : List Ver} {x : Ver} : errL L x = 0 ↔ vright x = true ∧ hasK L x.k = false := by
  unfold errL
  cases vright x <;> cases hasK L x.k <;> simp
theorem Good.step {L : List Ver} {x : Ver} (h : Good L) (hx : x.ok) : Good (stepL L x) := by
  unfold stepL
  split
  · rename_i e
    obtain ⟨h1, h2⟩ := errL_zero.1 e
    exact h.put hx h1 h2
  · exact h
theorem stepL_length (L : List Ver) (x : Ver) : (stepL L x).length ≤ L.length + 1 := by
  unfold stepL; split
  · rw [putL_length]; omega
  · omega
theorem put_g {s : Value} {L : List Ver} (x : Ver) (w : World) (h : Chn w s L) (hg : Good L) (hx : x.ok) (hn : (L.length + 1) * 48 ≤ 140737488355328) :
    Calls Try.prog 21 #[s, .agg #[.int .i64 x.a, .int .u32 x.b, .int .u32 x.c, .int .i64 x.kd, .int .i64 x.num, .string x.text]] w fun e w' => (∃ u, e = .returned (.tuple #[u, .int .i64 (errL L x)]) ∧ Chn w' u (resL L x)) ∧ Below w.heap.size w w' := by
  obtain ⟨A, c, rfl, hc, hA, hr⟩ := h
  unfold resL errL
  cases h1 : vright x with
  | false => exact (vput_bad _ x w h1).mono fun e w' ⟨h, hb⟩ => ⟨⟨_, h, Chn.nil _⟩, hb⟩
  | true =>
    cases h2 : hasK L x.k with
    | true => exact (vput_twice A _ c L x w hr (by omega) hg.srt hg.ok hx h1 h2).mono fun e w' ⟨h, hb⟩ => ⟨⟨_, h, Chn.nil _⟩, hb⟩
    | false => exact (vput_yes A _ c L x w hr hn hg.srt hg.ok hx h1 h2).mono fun e w' ⟨⟨u, h, ho⟩, hb⟩ => ⟨⟨u, h, Chn.own ho⟩, hb⟩
theorem rput_g {s : Value} {L : List Ver} (x : Ver) (w : World) (h : Chn w s L) (hg : Good L) (hx : x.ok) (hn : (L.length + 1) * 48 ≤ 140737488355328) :
    Calls Try.prog 26 #[s, .agg #[.int .i64 x.a, .int .u32 x.b, .int .u32 x.c, .int .i64 x.kd, .int .i64 x.num, .string x.text]] w fun e w' => (∃ u, e = .returned (.tuple #[u, .int .i64 (errL L x)]) ∧ Chn w' u (resL L x)) ∧ Below w.heap.size w w' := by
  obtain ⟨A, c, rfl, hc, hA, hr⟩ := h
  unfold resL errL
  cases h1 : vright x with
  | false => exact (rput_bad _ x w h1).mono fun e w' ⟨h, hb⟩ => ⟨⟨_, h, Chn.nil _⟩, hb⟩
  | true =>
    cases h2 : hasK L x.k with
    | true => exact (rput_twice A _ c L x w hr hn hg.srt hg.ok hx h1 h2).mono fun e w' ⟨h, hb⟩ => ⟨⟨_, h, Chn.nil _⟩, hb⟩
    | false => exact (rput_yes A _ c L x w hr hn hg.srt hg.ok hx h1 h2).mono fun e w' ⟨⟨u, h, ho⟩, hb⟩ => ⟨⟨u, h, Chn.own ho⟩, hb⟩
theorem get_g {s : Value} {L : List Ver} (t : Ver) (w : World) (h : Chn w s L) (hg : Good L) (ht : t.ok) (hn : L.length ≤ 4611686018427387904) :
    Calls Try.prog 13 #[s, .agg #[.int .i64 t.a, .int .u32 t.b, .int .u32 t.c]] w fun e w' => e = .returned (.tuple #[.agg (gvD (getV L t.k)).arr, .bool (getV L t.k).isSome]) ∧ Below w.heap.size w w' := by
  obtain ⟨A, c, rfl, hc, hA, hr⟩ := h
  exact vget_any A _ c L t w hr hn hg.srt hg.ok ht
theorem rget_g {s : Value} {L : List Ver} (t : Ver) (w : World) (h : Chn w s L) (hg : Good L) (ht : t.ok) (hn : L.length ≤ 4611686018427387904) :
    Calls Try.prog 15 #[s, .agg #[.int .i64 t.a, .int .u32 t.b, .int .u32 t.c]] w fun e w' => e = .returned (.tuple #[.agg (gvD (getV L t.k)).arr, .bool (getV L t.k).isSome]) ∧ Below w.heap.size w w' := by
  obtain ⟨A, c, rfl, hc, hA, hr⟩ := h
  exact rget_any A _ c L t w hr hn hg.srt hg.ok ht
theorem cut_g {s : Value} {L : List Ver} (t : Ver) (w : World) (h : Chn w s L) (hg : Good L) (ht : t.ok) (hn : L.length * 48 ≤ 140737488355328) :
    Calls Try.prog 19 #[s, .agg #[.int .i64 t.a, .int .u32 t.b, .int .u32 t.c]] w fun e w' => (∃ u, e = .returned u ∧ Chn w' u (cutV L t.k)) ∧ Below w.heap.size w w' := by
  obtain ⟨A, c, rfl, hc, hA, hr⟩ := h
  exact (vcut_any A _ c L t w hr hA hc hn hg.srt hg.ok ht).mono fun e w' ⟨⟨u, h, ho⟩, hb⟩ => ⟨⟨u, h, Chn.own ho⟩, hb⟩
theorem rcut_g {s : Value} {L : List Ver} (t : Ver) (w : World) (h : Chn w s L) (hg : Good L) (ht : t.ok) (hn : L.length * 48 ≤ 140737488355328) :
    Calls Try.prog 20 #[s, .agg #[.int .i64 t.a, .int .u32 t.b, .int .u32 t.c]] w fun e w' => (∃ u, e = .returned u ∧ Chn w' u (cutV L t.k)) ∧ Below w.heap.size w w' := by
  obtain ⟨A, c, rfl, hc, hA, hr⟩ := h
  exact (rcut_any A _ c L t w hr hn hg.srt hg.ok ht).mono fun e w' ⟨⟨u, h, ho⟩, hb⟩ => ⟨⟨u, h, Chn.own ho⟩, hb⟩
theorem same_g {s s' : Value} {L : List Ver} (w : World) (h : Chn w s L) (h' : Chn w s' L) (hn : L.length ≤ 4611686018427387904) :
    Calls Try.prog 17 #[s, s'] w fun e w' => e = .returned (.bool true) ∧ Below w.heap.size w w' := by
  obtain ⟨A, c, rfl, _, _, hr⟩ := h
  obtain ⟨A', c', rfl, _, _, hr'⟩ := h'
  exact same_any A A' _ c c' L w hr hr' hn
set_option maxRecDepth 100000 in
set_option maxHeartbeats 1000000 in
theorem back_g {s : Value} {L : List Ver} (w : World) (h : Chn w s L) (hn : L.length * 48 ≤ 140737488355328) :
    Calls Try.prog 18 #[s] w fun e w' => (∃ u, e = .returned u ∧ Chn w' u L) ∧ Below w.heap.size w w' := by
  obtain ⟨A, c, rfl, _, _, hr⟩ := h
  obtain ⟨i0, hi, hz0, hz1, hz2⟩ := info_parts infoR
  generalize hL : L.length = n at *
  generalize hB : w.heap.size = B at *
  go_enter Try.func18, Try.ntmps18
  go_wp2
  go_loopw [3, 8] (fun s3 s8 wr => ∃ j : Nat, j ≤ n ∧ s8 = .int .i64 (j : Int) ∧ wr.ownsRow B 26 6 s3 j (vsV (L.take j)) ∧ Below B w wr) (fun _ s8 _ => ((n : Int) - intOf s8).toNat)
  case atStart => exact ⟨0, by omega, rfl, World.ownsRow_nil _ _ _ _, Below.refl _ _⟩
  case round =>
    obtain ⟨j, hj, rfl, hown, hbel⟩ := hrel
    have hszw : B ≤ wr.heap.size := by have := hbel.size; omega
    by_cases hlt : j < n
    · obtain ⟨b, o, rfl, hbb, hc⟩ := hr.plain (by omega) (by omega)
      have hcw : ∀ (j : Nat) (u : Value), (vsV L)[j]? = some u → wr.cell? ⟨b, o + j, none⟩ = some u := fun j u hu => (hbel.cell (p := ⟨b, _, none⟩) hbb).trans (hc j u hu)
      obtain ⟨x, hg⟩ : ∃ x, L[j]? = some x := ⟨L[j]'(by omega), List.getElem?_eq_getElem (by omega)⟩
      have m0 : (wr).cell? ⟨b, o + j * 6, none⟩ = some (.int .i64 (x).a) := hcw _ _ (vsV_get hg 0 _ rfl); have m1 : (wr).cell? ⟨b, o + j * 6 + 1, none⟩ = some (.int .u32 (x).b) := hcw _ _ (vsV_get hg 1 _ rfl); have m2 : (wr).cell? ⟨b, o + j * 6 + 2, none⟩ = some (.int .u32 (x).c) := hcw _ _ (vsV_get hg 2 _ rfl); have m3 : (wr).cell? ⟨b, o + j * 6 + 3, none⟩ = some (.int .i64 (x).kd) := hcw _ _ (vsV_get hg 3 _ rfl); have m4 : (wr).cell? ⟨b, o + j * 6 + 4, none⟩ = some (.int .i64 (x).num) := hcw _ _ (vsV_get hg 4 _ rfl); have m5 : (wr).cell? ⟨b, o + j * 6 + 5, none⟩ = some (.string (x).text) := hcw _ _ (vsV_get hg 5 _ rfl)
      have hbw : b < wr.heap.size := by omega
      have hji : (j : Int) < n := by omega
      have H := hide (show vsV (L.take j) ++ x.cells = vsV (L.take (j + 1)) by rw [List.take_add_one, hg, vsV_append]; simp [vsV, rowsV])
      have hF := vfrom_any x
      clear hc hcw hr hg
      go_wp2_with (first | (go_at_call 16; (with_reducible refine (hF _).mono ?_); rintro e w' ⟨rfl, hb⟩; obtain ⟨X, rfl⟩ := World.ext_of_below hb; clear hb) | (at_builtin; go_must (refine wpList_append_own _ rfl (.tmp 12) (.tmp 15) 34 rfl (B) 26 i0 (.agg #[.int .i64 0, .int .u32 0, .int .u32 0, .int .i64 0, .int .i64 0, .string ⟨#[]⟩]) 6 48 Try.underlying34 hi hz0 hz1 hz2 rfl (by decide) u3 (j) _ rfl ((own_ext (own_alloc hown _) _).alloc _) ⟨(wr.heap.size + 1 + X.blocks.size), 0, none⟩ 1 1 (x.cells) rfl rfl ?c1 ?c2 ?c3 ?c4 ?c5 ?_)))
      case c1 => first | exact fun j u hu => hu | exact cells_new_at _ (#[.int .i64 x.a, .int .u32 x.b, .int .u32 x.c, .int .i64 x.kd, .int .i64 x.num, .string x.text]) _ (by simp [World.size_ext])
      case c2 => exact fun u hu => vsV_one (l := [x]) (by rw [vsV_cons]; exact List.mem_append_left _ hu)
      case c3 => unfold maxLen; omega
      case c4 => omega
      case c5 => simp [World.size_ext]; omega
      intro v' w1 hown1 hg1 _
      have hb1 := hbel.alloc hszw (.cells (#[.int .i64 x.a, .int .u32 x.b, .int .u32 x.c, .int .i64 x.kd, .int .i64 x.num, .string x.text]) 31)
      have hb2 := hb1.trans ((World.below_ext _ X).mono (by simp; omega))
      have hbel1 := own_below (hb2.alloc (by simp [World.size_ext]; omega) _) ((own_ext (own_alloc hown _) _).alloc _) hg1 (Nat.le_refl _) (by simp [World.size_ext]; omega)
      rw [H.out] at hown1
      clear hg1 hbel hown hb1 hb2
      go_wp2
      go_roundw
      case rel => exact ⟨j + 1, by omega, by go_num, hown1, hbel1⟩
      case measure => simp [intOf]; omega
    · obtain rfl : j = n := by omega
      rw [List.take_of_length_le (by omega)] at hown
      go_wp2
      go_ret
      exact ⟨⟨_, rfl, Chn.own hown⟩, hbel⟩
end Go.Proofs.Ytghinjnhcepaeaa
