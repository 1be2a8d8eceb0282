import Derived.Test.YthajbeooemngpaaStop
import Derived.Test.YthajbeooemngpaaIn
/-! The law: behind an error nothing is taken any more. -/
namespace Go.Proofs.Ythajbeooemngpaa
open Go.RowKit
set_option linter.unusedVariables false
set_option linter.unusedSimpArgs false
@[go_sem ↓] theorem run_neq_stamp (a b c a' b' c' : Int) (w : World) : (binOp .neq 93 (.agg #[.int .i64 a, .int .u32 b, .int .u32 c]) (.agg #[.int .i64 a', .int .u32 b', .int .u32 c'])).run Try.prog w = .ok (.bool (!stEq a b c a' b' c')) w := by
  by_cases h1 : a = a' <;> by_cases h2 : b = b' <;> by_cases h3 : c = c' <;> simp [go_sem, stEq, h1, h2, h3]
theorem zag_zero : zag 0 = 0 := by simp [zag]
theorem flagP_err {r : Rest} (h : r.e ≠ 0) : flagP r = (false, r) := by unfold flagP; rw [numP_err h]; rfl
theorem countP_err {most : Int} {r : Rest} (h : r.e ≠ 0) : countP most r = (0, r) := by unfold countP; rw [numP_err h, if_neg (fun h' => by rcases h' with h' | h' <;> simp only at h' <;> omega)]
theorem textP_err {most : Int} {r : Rest} (h : r.e ≠ 0) : textP most r = ([], r) := by unfold textP; rw [countP_err h, takeP_err h]
theorem stampP_err {r : Rest} (h : r.e ≠ 0) : stampP r = ((0, 0, 0), r) := by unfold stampP; rw [takeP_err h, if_pos rfl]
theorem endP_err {r : Rest} (h : r.e ≠ 0) : endP r = r := by unfold endP; rw [if_neg (fun h' => h h'.1)]
set_option maxRecDepth 100000 in
set_option maxHeartbeats 2000000 in
theorem law_wireStops (Ab : Option Addr) (cb : Nat) (bs : List Nat) (A : Option Addr) (n c : Nat) (l : List It) (A' : Option Addr) (n' c' : Nat) (l' : List It) (w : World)
    (hrb : Reads w w.heap.size 1 Ab bs.length (u8s bs)) (hby : ∀ x ∈ bs, x < 256) (hnil : Ab = none → cb = 0) (hlen : bs.length ≤ 140737488355328)
    (hr : Reads w w.heap.size 9 A n (itms l)) (hok : ∀ x ∈ l, x.ok) (hn : n ≤ 9223372036854775807) (hr' : Reads w w.heap.size 9 A' n' (itms l')) (hok' : ∀ x ∈ l', x.ok) (hn' : n' ≤ 9223372036854775807) :
    Calls Try.prog 13 #[.slice Ab bs.length cb, .slice A n c, .slice A' n' c'] w fun e w' => e = .returned (.bool true) ∧ Below w.heap.size w w' := by
  have hl : l.length = n := by have := hr.1; rw [itms_length] at this; omega
  have hl' : l'.length = n' := by have := hr'.1; rw [itms_length] at this; omega
  go_enter Try.func13, Try.ntmps13
  go_wp2_with (go_at_call 55; (with_reducible refine (read_any _ _ _ _ hrb hby hnil hlen).mono ?_); rintro e w1 ⟨g, b, rfl, hr1, hgw, hbw, hb1⟩)
  have hs1 := hb1.size
  have hlr := hr1.lt
  have hq0 := Blk.new w1 105 #[.slice none 0 0, .int .i64 0, .int .i64 (0)]
  have hr2 := hr1.below (Below.alloc (Below.refl _ _) (Nat.le_refl _) (.cells #[.slice none 0 0, .int .i64 0, .int .i64 (0)] 105))
  have hb2 := hb1.alloc hs1 (.cells #[.slice none 0 0, .int .i64 0, .int .i64 (0)] 105)
  have h1 : w1.heap.size ≠ g := by omega
  have h2 : w1.heap.size ≠ b := by omega
  clear hr1 hb1 hrb
  generalize hqe : w1.heap.size = q at *
  go_loopw [20] (fun vi wr => ∃ (j : Nat) (xs : List Nat) (e m : Int), j ≤ n ∧ vi = .int .i64 (j : Int) ∧ Rdr wr g b xs e ∧ Blk wr q 105 #[.slice none 0 0, .int .i64 0, .int .i64 (m)] ∧ Below w.heap.size w wr) (fun vi _ => ((n : Int) - intOf vi).toNat)
  case atStart => exact ⟨0, bs, 0, 0, by omega, rfl, hr2, hq0, hb2⟩
  case round =>
    clear hr2 hq0 hb2
    obtain ⟨j, xs, e, m, hj, rfl, hrd, hqd, hb⟩ := hrel
    obtain ⟨wo, rfl⟩ : ∃ wo : World, wo = wr := ⟨_, rfl⟩
    have hs := hb.size
    by_cases hlt : j < n
    · obtain ⟨ba, o, rfl, hbb, hc⟩ := hr.plain (by omega) (by omega)
      obtain ⟨x, hx⟩ : ∃ x, l[j]? = some x := ⟨l[j]'(by omega), List.getElem?_eq_getElem (by omega)⟩
      have hxo := hok x (List.mem_of_getElem? hx)
      have hcell : ∀ k u, x.cells[k]? = some u → wo.cell? ⟨ba, o + j * 9 + k, none⟩ = some u := fun k u hu => by
        rw [hb.cell (p := ⟨ba, _, none⟩) hbb, Nat.add_assoc]
        exact hc _ _ (itms_get l j x hx k u hu)
      have m0 := hcell 0 _ rfl
      have m1 := hcell 1 _ rfl
      have m2 := hcell 2 _ rfl
      have m3 := hcell 3 _ rfl
      have m4 := hcell 4 _ rfl
      have m5 := hcell 5 _ rfl
      have m6 := hcell 6 _ rfl
      have m7 := hcell 7 _ rfl
      have m8 := hcell 8 _ rfl
      rw [Nat.add_zero] at m0
      have hbw' : ba < wo.heap.size := by omega
      have hlj : (j : Int) < n := by omega
      have h0 := hrd.below (Below.alloc (Below.refl _ _) (Nat.le_refl _) (.cells x.cells.toArray 51))
      have hq0 := Blk.alloc hqd (.cells x.cells.toArray 51)
      have htk := takes_any g b q xs e m x _ h0 hq0 h1 h2 hxo
      clear hc hr hcell hok hx
      obtain ⟨xk, xn, xi, xf, xs', xa, xb, xc, xm⟩ := x
      simp only [It.cells] at *
      go_wp2_with (go_at_call 59; (with_reducible refine htk.mono ?_); rintro e w2 ⟨B, ys, e2, m2, rfl, hr2, hq2, ho2⟩)
      go_roundw
      case rel => exact ⟨j + 1, ys, e2, m2, by omega, by go_num, hr2, hq2, (hb.alloc hs _).trans (ho2.below hgw (by omega) (by simp; omega))⟩
      case measure => simp [intOf]; omega
    · obtain rfl : j = n := by omega
      clear hr hqd
      by_cases he : e = 0
      · subst he
        go_wp2_with (first | (go_at_call 53; (with_reducible refine (rderr_any _ _ _ _ _ hrd).mono ?_); rintro e w2 ⟨rfl, rfl⟩) | (go_at_call 26; (with_reducible refine (wawake_any _).mono ?_); rintro e w2 ⟨rfl, hb2⟩))
        go_ret
        exact ⟨rfl, hb.trans (hb2.mono hs)⟩
      · have he' : (e == 0) = false := by simpa using he
        have hef : (e != e) = false := by simp
        go_wp2_with (first | (go_at_call 53; (with_reducible refine (rderr_any _ _ _ _ _ hrd).mono ?_); rintro e w2 ⟨rfl, rfl⟩))
        go_loopw [36] (fun vi wr => ∃ (j : Nat), j ≤ n' ∧ vi = .int .i64 (j : Int) ∧ Rdr wr g b xs e ∧ Below w.heap.size w wr) (fun vi _ => ((n' : Int) - intOf vi).toNat)
        case atStart => exact ⟨0, by omega, rfl, hrd, hb⟩
        case round =>
          clear hrd hb hs
          obtain ⟨j, hj, rfl, hrd, hb'⟩ := hrel
          obtain ⟨wo, rfl⟩ : ∃ wo : World, wo = wr := ⟨_, rfl⟩
          have hs := hb'.size
          by_cases hlt : j < n'
          · obtain ⟨ba, o, rfl, hbb, hc⟩ := hr'.plain (by omega) (by omega)
            obtain ⟨x, hx⟩ : ∃ x, l'[j]? = some x := ⟨l'[j]'(by omega), List.getElem?_eq_getElem (by omega)⟩
            have hxo := hok' x (List.mem_of_getElem? hx)
            have hcell : ∀ k u, x.cells[k]? = some u → wo.cell? ⟨ba, o + j * 9 + k, none⟩ = some u := fun k u hu => by
              rw [hb'.cell (p := ⟨ba, _, none⟩) hbb, Nat.add_assoc]
              exact hc _ _ (itms_get l' j x hx k u hu)
            have m0 := hcell 0 _ rfl
            have m1 := hcell 1 _ rfl
            have m2 := hcell 2 _ rfl
            have m3 := hcell 3 _ rfl
            have m4 := hcell 4 _ rfl
            have m5 := hcell 5 _ rfl
            have m6 := hcell 6 _ rfl
            have m7 := hcell 7 _ rfl
            have m8 := hcell 8 _ rfl
            rw [Nat.add_zero] at m0
            have hbw' : ba < wo.heap.size := by omega
            have hlj : (j : Int) < n' := by omega
            have h0 := hrd.below (Below.alloc (Below.refl _ _) (Nat.le_refl _) (.cells x.cells.toArray 51))
            have hr'lt := hrd.lt
            clear hc hr' hcell hok' hx hrd
            obtain ⟨xk, xn, xi, xf, xs', xa, xb, xc, xm⟩ := x
            obtain ⟨o1, o2, o3, o4, o5, o6, o7⟩ := hxo
            simp only [It.cells] at *
            by_cases k0 : xk = 0
            · subst k0
              have hq := fun w1 (h1 : Rdr w1 g b xs e) => rdnum_any g b _ e w1 h1
              rw [numP_err (r := ⟨xs, e⟩) he] at hq
              dsimp only at hq
              go_wp2_with (first | (go_at_call 49; (with_reducible refine (hq _ h0).mono ?_); rintro e w1 ⟨rfl, hr1, ho1⟩) | (go_at_call 53; (with_reducible refine (rderr_any _ _ _ _ _ hr1).mono ?_); rintro e w2 ⟨rfl, rfl⟩))
              (go_roundw; (case rel => exact ⟨j + 1, by omega, by go_num, hr1, (hb'.alloc hs _).trans (ho1.below hgw (by simp; omega))⟩); (case measure => simp [intOf]; omega))
            · by_cases k1 : xk = 1
              · subst k1
                have hq := fun w1 (h1 : Rdr w1 g b xs e) => rdint_any g b _ e w1 h1
                rw [numP_err (r := ⟨xs, e⟩) he] at hq
                dsimp only at hq
                rw [zag_zero] at hq
                go_wp2_with (first | (go_at_call 50; (with_reducible refine (hq _ h0).mono ?_); rintro e w1 ⟨rfl, hr1, ho1⟩) | (go_at_call 53; (with_reducible refine (rderr_any _ _ _ _ _ hr1).mono ?_); rintro e w2 ⟨rfl, rfl⟩))
                (go_roundw; (case rel => exact ⟨j + 1, by omega, by go_num, hr1, (hb'.alloc hs _).trans (ho1.below hgw (by simp; omega))⟩); (case measure => simp [intOf]; omega))
              · by_cases k3 : xk = 3
                · subst k3
                  have hq := fun w1 (h1 : Rdr w1 g b xs e) => rdtext_any g b _ e xm w1 h1 o7
                  rw [textP_err (r := ⟨xs, e⟩) he, show strOf ([], (⟨xs, e⟩ : Rest)).1 = ByteArray.empty from rfl] at hq
                  dsimp only at hq
                  go_wp2_with (first | (go_at_call 56; (with_reducible refine (hq _ h0).mono ?_); rintro e w1 ⟨rfl, hr1, ho1⟩) | (go_at_call 53; (with_reducible refine (rderr_any _ _ _ _ _ hr1).mono ?_); rintro e w2 ⟨rfl, rfl⟩))
                  (go_roundw; (case rel => exact ⟨j + 1, by omega, by go_num, hr1, (hb'.alloc hs _).trans (ho1.below hgw (by simp; omega))⟩); (case measure => simp [intOf]; omega))
                · by_cases k4 : xk = 4
                  · subst k4
                    have hq := fun w1 (h1 : Rdr w1 g b xs e) => rdstamp_any g b _ e w1 h1
                    rw [stampP_err (r := ⟨xs, e⟩) he] at hq
                    dsimp only at hq
                    go_wp2_with (first | (go_at_call 52; (with_reducible refine (hq _ h0).mono ?_); rintro e w1 ⟨rfl, hr1, ho1⟩) | (go_at_call 53; (with_reducible refine (rderr_any _ _ _ _ _ hr1).mono ?_); rintro e w2 ⟨rfl, rfl⟩))
                    (go_roundw; (case rel => exact ⟨j + 1, by omega, by go_num, hr1, (hb'.alloc hs _).trans (ho1.below hgw (by simp; omega))⟩); (case measure => simp [intOf]; omega))
                  · have e0 : (xk == 0) = false := by simpa using k0
                    have e1 : (xk == 1) = false := by simpa using k1
                    have e3 : (xk == 3) = false := by simpa using k3
                    have e4 : (xk == 4) = false := by simpa using k4
                    have hq := fun w1 (h1 : Rdr w1 g b xs e) => rdflag_any g b _ e w1 h1
                    rw [flagP_err (r := ⟨xs, e⟩) he] at hq
                    have hq2 := fun w1 (h1 : Rdr w1 g b xs e) => rdcount_any g b _ e xm w1 h1 o7
                    rw [countP_err (r := ⟨xs, e⟩) he] at hq2
                    dsimp only at hq hq2
                    have hBs := Blk.new wo 51 #[.int .i64 xk, .int .u64 xn, .int .i64 xi, .bool xf, .string xs', .int .i64 xa, .int .u32 xb, .int .u32 xc, .int .i64 xm]
                    have hne : wo.heap.size ≠ g := by have := hr'lt; omega
                    go_wp2_with (first | (go_at_call 51; (with_reducible refine (hq _ h0).mono ?_); rintro e w3 ⟨rfl, hr3, ho3⟩; have hB3 := Blk.only hBs ho3 hne; have c3 := Blk.cell hB3) | (go_at_call 60; (with_reducible refine (hq2 _ hr3).mono ?_); rintro e w1 ⟨rfl, hr1, ho1⟩) | (go_at_call 53; (with_reducible refine (rderr_any _ _ _ _ _ hr1).mono ?_); rintro e w2 ⟨rfl, rfl⟩))
                    go_roundw
                    case rel => exact ⟨j + 1, by omega, by go_num, hr1, ((hb'.alloc hs _).trans (ho3.below hgw (by simp; omega))).trans (ho1.below hgw (by have := ho3.size; simp at this; omega))⟩
                    case measure => simp [intOf]; omega
          · obtain rfl : j = n' := by omega
            clear hr'
            have hq := fun w1 (h1 : Rdr w1 g b xs e) => rdend_any g b xs e w1 h1
            rw [endP_err (r := ⟨xs, e⟩) he] at hq
            go_wp2_with (first | (go_at_call 26; (with_reducible refine (wawake_any _).mono ?_); rintro e w2 ⟨rfl, hb2⟩) | (go_at_call 54; (with_reducible refine (hq _ (hrd.below hb2)).mono ?_); rintro e w3 ⟨rfl, hr3, ho3⟩))
            go_ret
            exact ⟨rfl, (hb'.trans (hb2.mono hs)).trans (ho3.below hgw (by have := hb2.size; omega))⟩
section
open Go.ChangeShapes Go.WideShapes Go.ChangeAt
variable {H : Type} {enc : TypeId × Value → H}
set_option maxRecDepth 100000 in
theorem wireStops_walk : LawWalkS enc Try.prog 13 Try.f13 := by
  intro W base args ds ps hval hA hlt _ hs
  rw [Try.params13] at hA hval hs
  obtain ⟨v0, v1, v2, d0, d1, d2, p0, p1, p2, rfl, rfl, rfl, h0, h1, h2⟩ := trodAll_three hA
  obtain ⟨Ab, cb, bs, rfl, hbc, hrb, hby, hnil, hbd⟩ := bytes_open2 Try.underlying23 Try.underlying5 (by kernel_rfl) (hval 0 _ v0 rfl rfl) h0 (fun x hx => hlt x (by simp [hx]))
  obtain ⟨A, n, c, l, rfl, hnc, hcm, hr, hl, -⟩ := items_open (hval 1 _ v1 rfl rfl) h1
  obtain ⟨A', n', c', l', rfl, hnc', hcm', hr', hl', -⟩ := items_open (hval 2 _ v2 rfl rfl) h2
  have hbb := bytes_bound hs (j := 0) Try.underlying23 (by kernel_rfl) rfl rfl hbd
  unfold maxLen at hcm hcm'
  exact law_wireStops Ab cb bs A n c l A' n' c' l' W hrb hby hnil (by omega) hr hl (by omega) hr' hl' (by omega)
set_option maxRecDepth 100000 in
theorem wireStops_lifted (os : Os) (started : os.Started) (H : Type) (enc : TypeId × Value → H) :
    ReturnsInHanded {} Try.checked os 13 .any (Rows.wireStopsSpec.pre6 enc Try.prog Try.f13 Rows.wireStopsRow.domain false) (Rows.wireStopsSpec.post enc Try.prog Try.f13 false true false false) :=
  law_lifted_sized (C := Try.checked) own started (by kernel_rfl) Try.func13 laidOut (by kernel_rfl) rfl Try.underlying4 rfl rfl
    (fun ds h => by obtain ⟨d0, d1, d2, rfl⟩ := list3 h; rfl)
    (ChangeSpec.witness6 (enc := enc) (C := Try.checked) false ⟨#[], #[.slice none 0 0, .slice none 0 0, .slice none 0 0], []⟩ 8 (by kernel_rfl) (by kernel_rfl) (by kernel_rfl) (by kernel_rfl))
    wireStops_walk
theorem wireStops_holds : Rows.WireStopsSaid :=
  OpenClaim.holds_of_wide 13 Try.f13 rfl rfl rfl rfl rfl rfl rfl ⟨rfl, rfl, rfl, rfl, rfl⟩ rfl rfl rfl rfl rfl (by kernel_rfl) Try.func13 (by kernel_rfl)
    (of_decide_eq_true (by kernel_rfl)) (by unfold Func.isWrapper; rw [if_neg (of_decide_eq_false (by kernel_rfl))]; exact ⟨rfl, rfl⟩)
    (fun os started H enc _ => wireStops_lifted os started H enc)
#print axioms wireStops_holds
end
end Go.Proofs.Ythajbeooemngpaa
