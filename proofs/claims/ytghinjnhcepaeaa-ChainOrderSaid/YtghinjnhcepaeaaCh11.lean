import Derived.Test.YtghinjnhcepaeaaCh10
/-! The document's chain: Cut. -/
namespace Go.Proofs.Ytghinjnhcepaeaa
open Go.RowKit
set_option linter.unusedVariables false
set_option linter.unusedSimpArgs false
theorem drop_no {l : List Ver} {j cut : Nat} (h : j < cut) : (j + 1 - cut = j - cut) ∧ vsV ((l.take (j + 1)).drop cut) = vsV ((l.take j).drop cut) :=
  ⟨by omega, by rw [List.drop_of_length_le (by rw [List.length_take]; omega), List.drop_of_length_le (by rw [List.length_take]; omega)]⟩
theorem drop_yes {l : List Ver} {j cut : Nat} {x : Ver} (hx : l[j]? = some x) (h : cut ≤ j) : (j - cut + 1 = j + 1 - cut) ∧ vsV ((l.take j).drop cut) ++ x.cells = vsV ((l.take (j + 1)).drop cut) := by
  have hj := (List.getElem?_eq_some_iff.1 hx).1
  refine ⟨by omega, ?_⟩
  rw [List.take_add_one, hx, List.drop_append, List.length_take, vsV_append]
  rw [show cut - min j l.length = 0 by omega]
  simp [vsV_cons, vsV, rowsV]
set_option maxRecDepth 100000 in
set_option maxHeartbeats 4000000 in
theorem rcut_any (A : Option Addr) (n c : Nat) (l : List Ver) (t : Ver) (w : World) (hr : Reads w w.heap.size 6 A n (vsV l)) (hn : n * 48 ≤ 140737488355328) (hs : Srt l) (hok : ∀ x ∈ l, x.ok) (ht : t.ok) :
    Calls Try.prog 20 #[.slice A n c, .agg #[.int .i64 t.a, .int .u32 t.b, .int .u32 t.c]] w fun e w' => (∃ u, e = .returned u ∧ w'.ownsRow w.heap.size 26 6 u (n - cutI l t.k) (vsV (cutV l t.k))) ∧ Below w.heap.size w w' := by
  have hl := vreads_len hr
  obtain ⟨i0, hi, hz0, hz1, hz2⟩ := info_parts infoR
  have hr1 := (hr.alloc (Nat.le_refl _) (.cells #[.int .i64 t.a, .int .u32 t.b, .int .u32 t.c] 24)).more (B' := (w.alloc (.cells #[.int .i64 t.a, .int .u32 t.b, .int .u32 t.c] 24)).heap.size) (by simp)
  have hQ := rlast_any A n c l t _ hr1 (by omega) hs hok ht
  obtain ⟨cut, hcut⟩ : ∃ cut, cut = cutI l t.k := ⟨_, rfl⟩
  have hcutn : cut ≤ n := by
    rw [hcut]; unfold cutI; have := cntLe_le l t.k; split <;> omega
  obtain ⟨at_, hat⟩ : ∃ a : Int, a = (cntLe l t.k : Int) - 1 := ⟨_, rfl⟩
  have hkeep : ∀ (j : Nat) (x : Ver), l[j]? = some x → (cut ≤ j ↔ (at_ < (j : Int) ∨ ((j : Int) = at_ ∧ x.kd ≠ 3))) := fun j x hx => by
    rw [hcut, hat]
    unfold cutI
    rcases hm : cntLe l t.k with _ | m
    · rw [stand_zero hm]; simp <;> omega
    · obtain ⟨y, hy⟩ : ∃ y, l[m]? = some y := ⟨l[m]'(by have := cntLe_le l t.k; omega), List.getElem?_eq_getElem _⟩
      rw [stand_some hm hy]
      by_cases e : y.kd = 3
      · rw [if_pos e]
        by_cases hjm : j = m
        · subst hjm; rw [hx] at hy; cases hy; simp [e] <;> omega
        · simp; omega
      · rw [if_neg e]
        by_cases hjm : j = m
        · subst hjm; rw [hx] at hy; cases hy; simp [e]
        · simp; omega
  unfold cutV
  rw [← hcut]
  rw [← hat] at hQ
  clear hat hcut
  go_enter Try.func20, Try.ntmps20
  go_wp2_with (go_at_call 28; (with_reducible refine (hQ).mono ?_); rintro e w' ⟨rfl, hb⟩; obtain ⟨X, rfl⟩ := World.ext_of_below hb; clear hb)
  refine abstr (fun W => Below w.heap.size w W ∧ Reads W W.heap.size 6 A n (vsV l)) ⟨by (repeat' (first | with_reducible exact Below.refl _ _ | with_reducible refine Below.ext ?_ ?_ _ | with_reducible refine Below.alloc ?_ ?_ _ | with_reducible refine Below.setCell ?_ ?_ _ | with_reducible refine Below.drew ?_ | with_reducible assumption | (simp [World.size_ext]; done) | (simp [World.size_ext]; omega))), Reads.grown hr1 _⟩ (fun W hW => ?_)
  obtain ⟨hbW, hrW⟩ := hW
  clear hr hr1 hQ hs ht
  generalize hB : W.heap.size = B at *
  go_loopw [6, 7] (fun s6 s7 wr => ∃ j : Nat, j ≤ n ∧ s7 = .int .i64 (j : Int) ∧ wr.ownsRow B 26 6 s6 (j - cut) (vsV ((l.take j).drop cut)) ∧ Below B W wr) (fun _ s7 _ => ((n : Int) - intOf s7).toNat)
  case atStart => exact ⟨0, by omega, rfl, by rw [Nat.zero_sub, List.take_zero, List.drop_nil]; exact World.ownsRow_nil _ _ _ _, Below.refl _ _⟩
  case round =>
    obtain ⟨j, hj, rfl, hown, hbel⟩ := hrel
    have hszw : B ≤ wr.heap.size := by have := hbel.size; omega
    by_cases hlt : j < n
    · obtain ⟨b, o, rfl, hbb, hc⟩ := hrW.plain (by omega) (by omega)
      have hcw : ∀ (j : Nat) (u : Value), (vsV l)[j]? = some u → wr.cell? ⟨b, o + j, none⟩ = some u := fun j u hu => (hbel.cell (p := ⟨b, _, none⟩) hbb).trans (hc j u hu)
      obtain ⟨x, hg⟩ : ∃ x, l[j]? = some x := ⟨l[j]'(by omega), List.getElem?_eq_getElem (by omega)⟩
      have m0 : (wr).cell? ⟨b, o + j * 6, none⟩ = some (.int .i64 (x).a) := hcw _ _ (vsV_get hg 0 _ rfl); have m1 : (wr).cell? ⟨b, o + j * 6 + 1, none⟩ = some (.int .u32 (x).b) := hcw _ _ (vsV_get hg 1 _ rfl); have m2 : (wr).cell? ⟨b, o + j * 6 + 2, none⟩ = some (.int .u32 (x).c) := hcw _ _ (vsV_get hg 2 _ rfl); have m3 : (wr).cell? ⟨b, o + j * 6 + 3, none⟩ = some (.int .i64 (x).kd) := hcw _ _ (vsV_get hg 3 _ rfl); have m4 : (wr).cell? ⟨b, o + j * 6 + 4, none⟩ = some (.int .i64 (x).num) := hcw _ _ (vsV_get hg 4 _ rfl); have m5 : (wr).cell? ⟨b, o + j * 6 + 5, none⟩ = some (.string (x).text) := hcw _ _ (vsV_get hg 5 _ rfl)
      have hbw : b < wr.heap.size := by omega
      have hji : (j : Int) < n := by omega
      have hkj := hkeep j x hg
      clear hc hcw hrW hok hkeep
      by_cases h1 : at_ < (j : Int)
      · have H := hide (drop_yes hg (hkj.2 (.inl h1)))
        go_wp2_with (at_builtin; go_must (refine wpList_append_own _ rfl (.tmp 33) (.tmp 38) 34 rfl (B) 26 i0 (.agg #[.int .i64 0, .int .u32 0, .int .u32 0, .int .i64 0, .int .i64 0, .string ⟨#[]⟩]) 6 48 Try.underlying34 hi hz0 hz1 hz2 rfl (by decide) u6 (j - cut) _ rfl (hown.alloc _) ⟨wr.heap.size, 0, none⟩ 1 1 (x.cells) rfl rfl ?c1 ?c2 ?c3 ?c4 ?c5 ?_))
        case c1 => first | exact fun j u hu => hu | exact cells_new_at _ (#[.int .i64 x.a, .int .u32 x.b, .int .u32 x.c, .int .i64 x.kd, .int .i64 x.num, .string x.text]) _ rfl
        case c2 => exact fun u hu => vsV_one (l := [x]) (by rw [vsV_cons]; exact List.mem_append_left _ hu)
        case c3 => unfold maxLen; omega
        case c4 => omega
        case c5 => first | omega | (simp; omega)
        intro v' w1 hown1 hg1 _
        have hbel1 := own_below (hbel.alloc hszw _) (hown.alloc _) hg1 (Nat.le_refl _) (by simp; omega)
        rw [H.out.1, H.out.2] at hown1
        clear hg1 hbel hown
        go_wp2
        go_roundw
        case rel => exact ⟨j + 1, by omega, by go_num, hown1, hbel1⟩
        case measure => simp [intOf]; omega
      · by_cases h2 : (j : Int) = at_
        · by_cases h3 : x.kd = 3
          · have H := hide (drop_no (l := l) (show j < cut by have : ¬ cut ≤ j := fun h => by { have := hkj.1 h; simp [h1, h3] at this }; omega))
            rw [h3] at m3
            subst h2
            go_wp2
            go_roundw
            case rel => exact ⟨j + 1, by omega, by go_num, by rw [H.out.1, H.out.2]; exact hown, hbel⟩
            case measure => simp [intOf]; omega
          · have H := hide (drop_yes hg (hkj.2 (.inr ⟨h2, h3⟩)))
            have h3' : (x.kd == 3) = false := by simpa using h3
            subst h2
            go_wp2_with (at_builtin; go_must (refine wpList_append_own _ rfl (.tmp 33) (.tmp 38) 34 rfl (B) 26 i0 (.agg #[.int .i64 0, .int .u32 0, .int .u32 0, .int .i64 0, .int .i64 0, .string ⟨#[]⟩]) 6 48 Try.underlying34 hi hz0 hz1 hz2 rfl (by decide) u6 (j - cut) _ rfl (hown.alloc _) ⟨wr.heap.size, 0, none⟩ 1 1 (x.cells) rfl rfl ?c1 ?c2 ?c3 ?c4 ?c5 ?_))
            case c1 => first | exact fun j u hu => hu | exact cells_new_at _ (#[.int .i64 x.a, .int .u32 x.b, .int .u32 x.c, .int .i64 x.kd, .int .i64 x.num, .string x.text]) _ rfl
            case c2 => exact fun u hu => vsV_one (l := [x]) (by rw [vsV_cons]; exact List.mem_append_left _ hu)
            case c3 => unfold maxLen; omega
            case c4 => omega
            case c5 => first | omega | (simp; omega)
            intro v' w1 hown1 hg1 _
            have hbel1 := own_below (hbel.alloc hszw _) (hown.alloc _) hg1 (Nat.le_refl _) (by simp; omega)
            rw [H.out.1, H.out.2] at hown1
            clear hg1 hbel hown
            go_wp2
            go_roundw
            case rel => exact ⟨j + 1, by omega, by go_num, hown1, hbel1⟩
            case measure => simp [intOf]; omega
        · have H := hide (drop_no (l := l) (show j < cut by have : ¬ cut ≤ j := fun h => by { have := hkj.1 h; simp [h1, h2] at this }; omega))
          have h2' : ((j : Int) == at_) = false := by simpa using h2
          go_wp2
          go_roundw
          case rel => exact ⟨j + 1, by omega, by go_num, by rw [H.out.1, H.out.2]; exact hown, hbel⟩
          case measure => simp [intOf]; omega
    · obtain rfl : j = n := by omega
      rw [List.take_of_length_le (by omega)] at hown
      clear hlt
      go_wp2
      go_ret
      exact ⟨⟨_, rfl, own_base hown (by rw [← hB]; exact hbW.size)⟩, hbW.trans (hbel.mono (by rw [← hB]; exact hbW.size))⟩
end Go.Proofs.Ytghinjnhcepaeaa
