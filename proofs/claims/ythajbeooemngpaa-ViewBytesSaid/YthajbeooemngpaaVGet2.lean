import Derived.Test.YthajbeooemngpaaVGet
/-! A view off a reader: the document's. -/
namespace Go.Proofs.Ythajbeooemngpaa
open Go.RowKit
set_option linter.unusedVariables false
set_option linter.unusedSimpArgs false
theorem Mrd.low {w w' : World} {B q : Nat} {A : Option Addr} {c : Nat} {l : List Nat} {a : Nat} {e : Int} (h : Mrd w q A c l a e) (hb : Below B w w') (h1 : q < B) (h2 : 0 < l.length → ∀ b, A = some b → b.block < B) : Mrd w' q A c l a e :=
  ⟨h.blk.below hb h1, ⟨h.row.1, fun hn => by
    obtain ⟨ad, e', hb', hc⟩ := h.row.2 hn
    exact ⟨ad, e', Nat.lt_of_lt_of_le hb' hb.size, fun j u hu => (hb.cell (by rw [block_of_add]; exact h2 hn _ e')).trans (hc j u hu)⟩⟩, h.ne, h.le⟩
theorem Mrd.far {w : World} {q : Nat} {A : Option Addr} {c : Nat} {l : List Nat} {a : Nat} {e : Int} (h : Mrd w q A c l a e) {p : Addr} (h1 : q ≠ p.block) (h2 : 0 < l.length → ∀ b, A = some b → b.block ≠ p.block) (u : Value) : Mrd (w.setCell p u) q A c l a e :=
  ⟨h.blk.far h1 u, ⟨h.row.1, fun hn => by
    obtain ⟨ad, e', hb', hc⟩ := h.row.2 hn
    refine ⟨ad, e', by simpa using hb', fun j u' hu => ?_⟩
    rw [World.cell?_setCell_other w _ _ u (fun he => h2 hn _ e' (by have := congrArg Addr.block he; rw [block_of_add] at this; first | exact this | exact this.symm))]
    exact hc j u' hu⟩, h.ne, h.le⟩
def Mst (w : World) (q : Nat) (A : Option Addr) (c : Nat) (l : List Nat) (r : Rest) : Prop := ∃ a e, Mrd w q A c l a e ∧ restP l a e = r
theorem di_any (q : Nat) (A : Option Addr) (c : Nat) (l : List Nat) (r : Rest) (hby : ∀ x ∈ l, x < 256) (hlen : l.length ≤ 140737488355328) (w : World) (h : Mst w q A c l r) :
    Calls Try.prog 86 #[.pointer (some ⟨q, 0, none⟩)] w fun e' w' => e' = .returned (.int .i64 (zag (numP r).1)) ∧ Mst w' q A c l (numP r).2 ∧ Only w w' q := by
  obtain ⟨a, e, hm, rfl⟩ := h
  exact dint_any q A c l a e w hm hby hlen
theorem dc_any (q : Nat) (A : Option Addr) (c : Nat) (l : List Nat) (r : Rest) (hby : ∀ x ∈ l, x < 256) (hlen : l.length ≤ 140737488355328) (w : World) (h : Mst w q A c l r) :
    Calls Try.prog 90 #[.pointer (some ⟨q, 0, none⟩), .int .i64 8] w fun e' w' => e' = .returned (.int .i64 ((countP 8 r).1 : Nat)) ∧ Mst w' q A c l (countP 8 r).2 ∧ Only w w' q := by
  obtain ⟨a, e, hm, rfl⟩ := h
  exact dcount_any q A c l a e w hm hby hlen
theorem Mst.below {w w' : World} {q : Nat} {A : Option Addr} {c : Nat} {l : List Nat} {r : Rest} (h : Mst w q A c l r) (hb : Below w.heap.size w w') : Mst w' q A c l r := by
  obtain ⟨a, e, hm, hr⟩ := h
  exact ⟨a, e, hm.below hb, hr⟩
theorem Mst.low {w w' : World} {B q : Nat} {A : Option Addr} {c : Nat} {l : List Nat} {r : Rest} (h : Mst w q A c l r) (hb : Below B w w') (h1 : q < B) (h2 : 0 < l.length → ∀ b, A = some b → b.block < B) : Mst w' q A c l r := by
  obtain ⟨a, e, hm, hr⟩ := h
  exact ⟨a, e, hm.low hb h1 h2, hr⟩
theorem Mst.far {w : World} {q : Nat} {A : Option Addr} {c : Nat} {l : List Nat} {r : Rest} (h : Mst w q A c l r) {p : Addr} (h1 : q ≠ p.block) (h2 : 0 < l.length → ∀ b, A = some b → b.block ≠ p.block) (u : Value) : Mst (w.setCell p u) q A c l r := by
  obtain ⟨a, e, hm, hr⟩ := h
  exact ⟨a, e, hm.far h1 h2 u, hr⟩
theorem Mst.e {w : World} {q : Nat} {A : Option Addr} {c : Nat} {l : List Nat} {r : Rest} (h : Mst w q A c l r) : ∃ a, Blk w q 105 #[.slice A l.length c, .int .i64 ((a : Nat) : Int), .int .i64 r.e] := by
  obtain ⟨a, e, hm, rfl⟩ := h
  rw [restP_e]
  exact ⟨a, hm.blk⟩
set_option maxRecDepth 100000 in
set_option maxHeartbeats 4000000 in
theorem dget_any (q : Nat) (A : Option Addr) (c : Nat) (l : List Nat) (r : Rest) (hby : ∀ x ∈ l, x < 256) (hlen : l.length ≤ 140737488355328) (w : World) (h : Mst w q A c l r) (hq : q < w.heap.size) (hA : 0 < l.length → ∀ b, A = some b → b.block < w.heap.size) :
    Calls Try.prog 64 #[.pointer (some ⟨q, 0, none⟩)] w fun o w' => (∃ v, o = .returned (.agg #[.int .i64 (getV r).e, .int .i64 (getV r).p, v]) ∧ w'.ownsRow w.heap.size 3 1 v (getV r).l.length (ints (getV r).l)) ∧ Mst w' q A c l (getV r).r ∧ Only w w' q := by
  obtain ⟨i0, hi, hz0, hz1, hz2⟩ := info_parts infoI64
  have h0 : Mst ((w.alloc (.cells #[.int .i64 0, .int .i64 0, .slice none 0 0] 66)).alloc (.cells #[.int .i64 0, .int .i64 0, .slice none 0 0] 66)) q A c l r := h.below (Below.alloc (Below.alloc (Below.refl _ _) (Nat.le_refl _) _) (by simp) _)
  have hZ := (Blk.new w 66 #[.int .i64 0, .int .i64 0, .slice none 0 0]).alloc (.cells #[.int .i64 0, .int .i64 0, .slice none 0 0] 66)
  have hV := Blk.made w (.cells #[.int .i64 0, .int .i64 0, .slice none 0 0] 66) 66 #[.int .i64 0, .int .i64 0, .slice none 0 0]
  have hi1 := fun w' h' => di_any q A c l r hby hlen w' h'
  have h8 := fun r2 => count8_le r2
  rcases hq1 : numP r with ⟨n1, r1⟩
  rw [hq1] at hi1
  have hi2 := fun w' h' => di_any q A c l r1 hby hlen w' h'
  rcases hq2 : numP r1 with ⟨n2, r2⟩
  rw [hq2] at hi2
  have hi3 := fun w' h' => dc_any q A c l r2 hby hlen w' h'
  replace h8 := h8 r2
  rcases hq3 : countP 8 r2 with ⟨n3, r3⟩
  rw [hq3] at hi3 h8
  have hgv := gvP_eq hq1 hq2 hq3
  unfold getV
  rw [hgv]
  simp only at hi1 hi2 hi3 h8 ⊢
  clear hq1 hq2 hq3 hgv
  generalize zag n1 = E at *
  generalize zag n2 = P at *
  have hqz : w.heap.size ≠ q := by omega
  have hqv : w.heap.size + 1 ≠ q := by omega
  go_enter Try.func64, Try.ntmps64
  go_wp2_with (first | (go_at_call 86; (with_reducible refine (hi1 _ h0).mono ?_); rintro e w1 ⟨rfl, hr1, ho1⟩; have hs1 := ho1.size; (simp only [World.size_alloc] at hs1); have hV1 := Blk.only hV ho1 hqv; have cV1 := hV1.cell; have fV1 := hV1.frozen; have lV1 := hV1.lt; have hr1' := hr1.far (p := ⟨w.heap.size + 1, 0, none⟩) (by exact hqv.symm) (fun h0 b hb => by have := hA h0 b hb; show b.block ≠ w.heap.size + 1; omega) (.int .i64 E)) | (go_at_call 86; (with_reducible refine (hi2 _ hr1').mono ?_); rintro e w2 ⟨rfl, hr2, ho2⟩; have hs2 := ho2.size; (simp only [World.size_setCell] at hs2); have hV2 := Blk.only (hV1.set_ 0 (.int .i64 E)) ho2 hqv; have cV2 := hV2.cell; have fV2 := hV2.frozen; have lV2 := hV2.lt; have hr2' := hr2.far (p := ⟨w.heap.size + 1, 1, none⟩) (by exact hqv.symm) (fun h0 b hb => by have := hA h0 b hb; show b.block ≠ w.heap.size + 1; omega) (.int .i64 P)) | (go_at_call 90; (with_reducible refine (hi3 _ hr2').mono ?_); rintro e w3 ⟨rfl, hr3, ho3⟩))
  have hs3 := ho3.size
  simp only [World.size_setCell] at hs3
  have hV3 := Blk.only (hV2.set_ 1 (.int .i64 P)) ho3 hqv
  have hZ3 := Blk.only ((Blk.only ((Blk.only hZ ho1 hqz).far (p := ⟨w.heap.size + 1, 0, none⟩) (by show w.heap.size ≠ w.heap.size + 1; omega) (.int .i64 E)) ho2 hqz).far (p := ⟨w.heap.size + 1, 1, none⟩) (by show w.heap.size ≠ w.heap.size + 1; omega) (.int .i64 P)) ho3 hqz
  have hO3 : Only w w3 q := ((((((Only.refl w q).alloc _).alloc _).trans ho1).set_ (p := ⟨w.heap.size + 1, 0, none⟩) (.inr (by simp)) (.int .i64 E)).trans ho2 |>.set_ (p := ⟨w.heap.size + 1, 1, none⟩) (.inr (by simp)) (.int .i64 P)).trans ho3
  clear hi1 hi2 hi3 h0 hZ hr1 ho1 hr2 hr2' hr1' ho2 ho3 hV hV1 hV2 cV1 cV2 fV1 fV2 lV1 lV2
  have hsz : w.heap.size + 1 < w3.heap.size := hV3.lt
  go_loopw [5] (fun vi wr => ∃ (j : Nat) (v : Value), j ≤ n3 ∧ vi = .int .i64 (j : Int) ∧ Blk wr (w.heap.size + 1) 66 #[.int .i64 E, .int .i64 P, v] ∧ wr.ownsRow (w.heap.size + 2) 3 1 v j (ints (glP j r3).1) ∧ Mst wr q A c l (glP j r3).2 ∧ Blk wr w.heap.size 66 #[.int .i64 0, .int .i64 0, .slice none 0 0] ∧ Only w wr q) (fun vi _ => ((n3 : Int) - intOf vi).toNat)
  case atStart => exact ⟨0, _, by omega, rfl, hV3, World.ownsRow_nil _ _ _ _, hr3, hZ3, hO3⟩
  case round =>
    clear hV3 hr3 hZ3 hO3
    obtain ⟨j, v, hj, rfl, hV, hown, hr, hZ, hO⟩ := hrel
    obtain ⟨wo, rfl⟩ : ∃ wo : World, wo = wr := ⟨_, rfl⟩
    have cV := hV.cell
    have lV := hV.lt
    by_cases hlt' : j < n3
    · have hjl : (j : Int) < n3 := by omega
      have hgl : glP (j + 1) r3 = ((glP j r3).1 ++ [zag (numP (glP j r3).2).1], (numP (glP j r3).2).2) := rfl
      have hI := fun w' h' => di_any q A c l (glP j r3).2 hby hlen w' h'
      have hgl1 := glP_length j r3
      generalize (glP j r3).1 = L at *
      generalize (glP j r3).2 = R at *
      rcases hq : numP R with ⟨m, R'⟩
      rw [hq] at hI hgl
      simp only at hI hgl
      generalize zag m = y at *
      have hG := hide hgl
      clear hgl hq
      go_wp2_with (first | (go_at_call 86; (with_reducible refine (hI _ hr).mono ?_); rintro e w5 ⟨rfl, hr5, ho5⟩; have hs5 := ho5.size; have hV5 := Blk.only hV ho5 hqv; have cV5 := hV5.cell; have fV5 := hV5.frozen; have lV5 := hV5.lt; have hown5 := own_only hown ho5 (by omega)) | (at_builtin; refine wpList_append_own _ rfl _ _ 54 rfl (w.heap.size + 2) 3 i0 (.int .i64 0) 1 8 Try.underlying54 hi hz0 hz1 hz2 rfl (by decide) _ _ _ rfl (own_alloc hown5 _) _ 1 1 [.int .i64 y] rfl rfl ?c1 ?c2 ?c3 ?c4 ?c5 ?_))
      case c1 => exact cells_new _ #[.int .i64 y] _
      case c2 => intro u hu; simp at hu; subst hu; rfl
      case c3 => unfold maxLen; omega
      case c4 => omega
      case c5 => simp; omega
      intro v' w6 hown6 hgrow hnil
      have hb6 : Below (w.heap.size + 2) (w5.alloc (.cells #[.int .i64 y] 3)) w6 := own_below (Below.refl _ _) (own_alloc hown5 _) hgrow (Nat.le_refl _) (by simp; omega)
      obtain ⟨A6, k6, rfl, hk6⟩ := own_sl hown6
      have hV6 := (hV5.alloc (.cells #[.int .i64 y] 3)).below hb6 (by omega)
      have cV6 := hV6.cell
      have fV6 := hV6.frozen
      have lV6 := hV6.lt
      have hZ5 := Blk.only hZ ho5 hqz
      have hO5 := hO.trans ho5
      go_wp2
      go_roundw
      case rel =>
        refine ⟨j + 1, .slice A6 (j + 1) k6, by omega, by go_num, Blk.set_to hV6 rfl, ?_, ?_, ((hZ5.alloc _).below hb6 (by omega)).far (by show w.heap.size ≠ w.heap.size + 1; omega) _, (Only.low (hO5.alloc _) hb6 (by omega)).set_ (.inr (by show w.heap.size ≤ w.heap.size + 1; omega)) _⟩
        · rw [hG.out]
          simp only [ints_append]
          exact own_set hown6 (by show w.heap.size + 1 < w.heap.size + 2; omega) _
        · rw [hG.out]
          exact Mst.far (Mst.low (Mst.below hr5 (Below.alloc (Below.refl _ _) (Nat.le_refl _) (.cells #[.int .i64 y] 3))) hb6 (by omega) (fun h0 b hb => by have := hA h0 b hb; omega)) (p := ⟨w.heap.size + 1, 2, none⟩) (by exact hqv.symm) (fun h0 b hb => by have := hA h0 b hb; show b.block ≠ w.heap.size + 1; omega) _
      case measure => simp [intOf]; omega
    · obtain rfl : n3 = j := by omega
      have hgl1 := glP_length n3 r3
      generalize hgl : glP n3 r3 = GL at *
      obtain ⟨L, R⟩ := GL
      simp only at hr hown hgl1 ⊢
      obtain ⟨A6, k6, rfl, hk6⟩ := own_sl hown
      have cZ := hZ.cell
      have fZ := hZ.frozen
      have lZ := hZ.lt
      obtain ⟨a1, hB⟩ := hr.e
      have cB := hB.cell
      have lB := hB.lt
      by_cases he : R.e = 0
      · have he' : (R.e != 0) = false := by simpa using he
        have H := hide (⟨hown, hr, hO⟩ : _ ∧ _ ∧ _)
        clear hr
        go_wp2
        all_goals
          obtain ⟨hown, hr, hO⟩ := H.out
          refine bodyPost_cell Try.results64 rfl (Blk.three hZ) Try.underlying66 rfl (by kernel_rfl) rfl ⟨⟨_, rfl, own_low (own_set (own_set (own_set hown (by show w.heap.size < w.heap.size + 2; omega) _) (by show w.heap.size < w.heap.size + 2; omega) _) (by show w.heap.size < w.heap.size + 2; omega) _) (by omega)⟩, ?_, ((hO.set_ (.inr (Nat.le_refl _)) _).set_ (.inr (Nat.le_refl _)) _).set_ (.inr (Nat.le_refl _)) _⟩
          exact ((hr.far (by exact hqz.symm) (fun h0 b hb => by have := hA h0 b hb; show b.block ≠ w.heap.size; omega) _).far (by exact hqz.symm) (fun h0 b hb => by have := hA h0 b hb; show b.block ≠ w.heap.size; omega) _).far (by exact hqz.symm) (fun h0 b hb => by have := hA h0 b hb; show b.block ≠ w.heap.size; omega) _
      · have he' : (R.e != 0) = true := by simpa using he
        have H := hide (⟨hown, hr, hO⟩ : _ ∧ _ ∧ _)
        clear hr
        go_wp2
        all_goals
          obtain ⟨hown, hr, hO⟩ := H.out
          refine bodyPost_cell Try.results64 rfl (Blk.three hZ) Try.underlying66 rfl (by kernel_rfl) rfl ⟨⟨_, rfl, World.ownsRow_nil _ _ _ _⟩, ?_, ((hO.set_ (.inr (Nat.le_refl _)) _).set_ (.inr (Nat.le_refl _)) _).set_ (.inr (Nat.le_refl _)) _⟩
          exact ((hr.far (by exact hqz.symm) (fun h0 b hb => by have := hA h0 b hb; show b.block ≠ w.heap.size; omega) _).far (by exact hqz.symm) (fun h0 b hb => by have := hA h0 b hb; show b.block ≠ w.heap.size; omega) _).far (by exact hqz.symm) (fun h0 b hb => by have := hA h0 b hb; show b.block ≠ w.heap.size; omega) _
end Go.Proofs.Ythajbeooemngpaa
