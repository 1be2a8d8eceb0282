import Derived.Test.YtjhcgnmibnjocaaY8
import Derived.Test.YtjhcgnmibnjocaaGC
/-! The members but one. -/
namespace Go.Proofs.Ytjhcgnmibnjocaa
open Go.RowKit Go.Maps
set_option linter.unusedVariables false
set_option linter.unusedSimpArgs false
def neB (d x : Int) : Bool := !(x == d)
theorem okeep_any (q g : Nat) (d x : Int) (w : World) (hq : w.cell? ⟨q, 0, none⟩ = some (.pointer (some ⟨g, 0, none⟩))) (hr : w.cell? ⟨g, 0, none⟩ = some (.int .i64 d)) (hm : g < w.heap.size) :
    Calls Try.prog 92 #[.int .i64 x, .pointer (some ⟨q, 0, none⟩)] w fun e w' => e = .returned (.bool (!neB d x)) ∧ w' = w := by
  have hb : (!neB d x) = (x == d) := by simp [neB]
  rw [hb]
  go_enter Try.func92, Try.ntmps92
  go_wp2
  go_ret
  exact ⟨rfl, rfl⟩
set_option maxHeartbeats 1000000 in
theorem oindexf_any (q b n c : Nat) (l : List Int) (cs : Array Value) (g : Nat) (d : Int) (w : World) (hb : Blk w b 3 cs) (hcs : ∀ (t : Nat) (y : Int), l[t]? = some y → cs[t]? = some (Value.int .i64 y)) (hl : l.length = n) (hn : n ≤ 9223372036854775807)
    (hq : w.cell? ⟨q, 0, none⟩ = some (.pointer (some ⟨g, 0, none⟩))) (hr : w.cell? ⟨g, 0, none⟩ = some (.int .i64 d)) (hm : g < w.heap.size) :
    Calls Try.prog 116 #[.slice (some ⟨b, 0, none⟩) n c, .func (.func 92) #[] #[.pointer (some ⟨q, 0, none⟩)]] w fun e w' => ((∃ k : Nat, k < n ∧ e = .returned (.int .i64 (k : Int)) ∧ (∀ y, l[k]? = some y → neB d y = false) ∧ ∀ i y, i < k → l[i]? = some y → neB d y = true) ∨ (e = .returned (.int .i64 (-1)) ∧ ∀ (i : Nat) y, l[i]? = some y → neB d y = true)) ∧ w' = w := by
  have hK : ∀ x, _ := fun x => okeep_any q g d x w hq hr hm
  clear hq hr
  have c1 := hb.cell
  have l1 := hb.lt
  go_enter Try.func116, Try.ntmps116
  go_wp2
  go_loopw [8] (fun s wr => ∃ j : Nat, j ≤ n ∧ s = .int .i64 (j : Int) ∧ (∀ (i : Nat) (y : Int), i < j → l[i]? = some y → neB d y = true) ∧ wr = w) (fun s _ => ((n : Int) - intOf s).toNat)
  case atStart => exact ⟨0, by omega, rfl, fun i y hi => by omega, rfl⟩
  case round =>
    obtain ⟨j, hj, rfl, hno, rfl⟩ := hrel
    obtain ⟨wo, rfl⟩ : ∃ wo : World, wo = wr := ⟨_, rfl⟩
    by_cases hlt : j < n
    · have hg : l[j]? = some l[j] := List.getElem?_eq_getElem (by omega)
      have m1 : wo.cell? ⟨b, j, none⟩ = some (.int .i64 l[j]) := (c1 j).trans (hcs j _ hg)
      have hlj : (j : Int) < n := by omega
      generalize l[j] = x at *
      cases hx : neB d x with
      | false =>
        have H := hide (⟨hg, hno, hx⟩ : _ ∧ _ ∧ _)
        have hK := hK x
        rw [hx] at hK
        clear hno hg hcs hx c1
        go_wp2_with (go_at_call 92; (with_reducible refine hK.mono ?_); rintro e w1 ⟨rfl, rfl⟩)
        go_ret
        obtain ⟨hg, hno, hx⟩ := H.out
        exact ⟨.inl ⟨j, hlt, rfl, fun y hy => by rw [hg] at hy; cases hy; exact hx, hno⟩, rfl⟩
      | true =>
        have hK := hK x
        rw [hx] at hK
        have HN := hide (fun (i : Nat) (y : Int) (hi : i < j + 1) (h : l[i]? = some y) => show neB d y = true from by
          rcases Nat.lt_or_ge i j with h' | h'
          · exact hno i y h' h
          · obtain rfl : i = j := by omega
            rw [hg] at h; cases h; exact hx)
        clear hno hg hcs hx c1
        go_wp2_with (go_at_call 92; (with_reducible refine hK.mono ?_); rintro e w1 ⟨rfl, rfl⟩)
        go_roundw
        case rel => exact ⟨j + 1, by omega, by go_num, HN.out, by trivial⟩
        case measure => simp [intOf]; omega
    · obtain rfl : j = n := by omega
      have HN := hide hno
      clear hno
      go_wp2
      go_ret
      refine ⟨.inr ⟨rfl, fun i y h => HN.out i y ?_ h⟩, rfl⟩
      have := (List.getElem?_eq_some_iff.1 h).1
      omega
def okL (d : Int) (l : List Int) (j : Nat) : List Int := (l.take j).filter (neB d)
theorem okL_le (d : Int) (l : List Int) (j : Nat) : (okL d l j).length ≤ j := Nat.le_trans (List.length_filter_le _ _) (by rw [List.length_take]; omega)
theorem okL_yes {d : Int} {l : List Int} {j : Nat} {x : Int} (h : l[j]? = some x) (hx : neB d x = true) : okL d l (j + 1) = okL d l j ++ [x] := by
  unfold okL
  rw [List.take_add_one, h, List.filter_append]
  simp [hx]
theorem okL_no {d : Int} {l : List Int} {j : Nat} {x : Int} (h : l[j]? = some x) (hx : neB d x = false) : okL d l (j + 1) = okL d l j := by
  unfold okL
  rw [List.take_add_one, h, List.filter_append]
  simp [hx]
theorem okL_all {d : Int} {l : List Int} : ∀ {j : Nat}, j ≤ l.length → (∀ i y, i < j → l[i]? = some y → neB d y = true) → okL d l j = l.take j
  | 0, _, _ => by simp [okL]
  | j + 1, hj, h => by
    have hg : l[j]? = some l[j] := List.getElem?_eq_getElem (by omega)
    rw [okL_yes hg (h j _ (by omega) hg), okL_all (by omega) (fun i y hi => h i y (by omega)), List.take_add_one, hg]
    rfl
theorem okL_mono {d : Int} {l : List Int} : ∀ {i j : Nat}, i ≤ j → (okL d l j).length ≤ (okL d l i).length + (j - i)
  | i, 0, h => by obtain rfl : i = 0 := by omega
                  omega
  | i, j + 1, h => by
    rcases Nat.lt_or_ge j i with h' | h'
    · obtain rfl : i = j + 1 := by omega
      omega
    · have := okL_mono (d := d) (l := l) h'
      have h2 : (okL d l (j + 1)).length ≤ (okL d l j).length + 1 := by
        unfold okL
        rw [List.take_add_one, List.filter_append, List.length_append]
        have : (List.filter (neB d) l[j]?.toList).length ≤ 1 := by
          refine Nat.le_trans (List.length_filter_le _ _) ?_
          cases l[j]? <;> simp
        omega
      omega
set_option maxRecDepth 100000 in
set_option maxHeartbeats 4000000 in
theorem odelete_any (q b c n : Nat) (l : List Int) (g : Nat) (d : Int) (w : World) (hb : RowAt w b l c) (hnl : l.length = n) (hn : n * 8 ≤ 140737488355328)
    (hq : w.cell? ⟨q, 0, none⟩ = some (.pointer (some ⟨g, 0, none⟩))) (hqb : q ≠ b) (hql : q < w.heap.size) (hr : w.cell? ⟨g, 0, none⟩ = some (.int .i64 d)) (hAb : g ≠ b) (hm : g < w.heap.size) :
    Calls Try.prog 91 #[.slice (some ⟨b, 0, none⟩) n c, .func (.func 92) #[] #[.pointer (some ⟨q, 0, none⟩)]] w fun e w' => e = .returned (.slice (some ⟨b, 0, none⟩) (okL d l n).length c) ∧ RowAt w' b (okL d l n) c ∧ Only w w' b := by
  have hB := hb
  obtain ⟨cs, h1, h2, h3, h4, h5⟩ := hb
  have hcs : ∀ (t : Nat) (y : Int), l[t]? = some y → cs[t]? = some (Value.int .i64 y) := fun t y h => by
    have ht := (List.getElem?_eq_some_iff.1 h).1
    have := congrArg (fun z => z[t]?) h5
    simp only [ints_get h, List.getElem?_take, ht, if_true] at this
    simpa using this
  have hI := oindexf_any q b n c l cs g d w h1 hcs hnl (by omega) hq hr hm
  have hK : ∀ w', Only w w' b → ∀ x, _ := fun w' ho x => okeep_any q g d x w' ((ho.cell (p := ⟨q, 0, none⟩) hql hqb).trans hq) ((ho.cell (p := ⟨g, 0, none⟩) hm hAb).trans hr) (Nat.lt_of_lt_of_le hm ho.size)
  clear hq hr
  by_cases hall : ∀ (i : Nat) (y : Int), l[i]? = some y → neB d y = true
  · have hI' : Calls Try.prog 116 #[.slice (some ⟨b, 0, none⟩) n c, .func (.func 92) #[] #[.pointer (some ⟨q, 0, none⟩)]] w fun e w' => e = .returned (.int .i64 (-1)) ∧ w' = w := hI.mono fun e w' h => by
      obtain ⟨h | h, rfl⟩ := h
      · obtain ⟨k, hk, _, hno, _⟩ := h
        have := hno _ (List.getElem?_eq_getElem (by omega))
        rw [hall k _ (List.getElem?_eq_getElem (by omega))] at this
        cases this
      · exact ⟨h.1, rfl⟩
    have hkl : okL d l n = l := by rw [okL_all (by omega) (fun i y _ => hall i y), ← hnl, List.take_length]
    rw [hkl, hnl]
    clear hI hcs h5 h1 hkl
    have hB := hide hB
    go_enter Try.func91, Try.ntmps91
    go_wp2_with (go_at_call 116; (with_reducible refine hI'.mono ?_); rintro e w1 ⟨rfl, rfl⟩)
    go_ret
    exact ⟨rfl, hB.out, Only.refl _ _⟩
  · have hI' : Calls Try.prog 116 #[.slice (some ⟨b, 0, none⟩) n c, .func (.func 92) #[] #[.pointer (some ⟨q, 0, none⟩)]] w fun e w' => (∃ k : Nat, k < n ∧ e = .returned (.int .i64 (k : Int)) ∧ (∀ y, l[k]? = some y → neB d y = false) ∧ ∀ i y, i < k → l[i]? = some y → neB d y = true) ∧ w' = w := hI.mono fun e w' h => by
      obtain ⟨h | h, rfl⟩ := h
      · exact ⟨h, rfl⟩
      · exact absurd h.2 hall
    clear hI hall
    go_enter Try.func91, Try.ntmps91
    go_wp2_with (go_at_call 116; (with_reducible refine hI'.mono ?_); rintro e w1 ⟨⟨k, hk, rfl, hno, hyes⟩, rfl⟩; have hk1 : ((k : Int) == -1) = false := (by simp))
    have hlt : (okL d l n).length < n := by
      have h1 : (okL d l n).length ≤ (okL d l (k + 1)).length + (n - (k + 1)) := okL_mono (by omega)
      have h2 := okL_no (l := l) (j := k) (List.getElem?_eq_getElem (by omega)) (hno _ (List.getElem?_eq_getElem (by omega)))
      have h3 := okL_le d l k
      rw [h2] at h1
      omega
    have hF : okL d l (k + 1) = l.take k := by
      rw [okL_no (List.getElem?_eq_getElem (by omega)) (hno _ (List.getElem?_eq_getElem (by omega)))]
      exact okL_all (by omega) hyes
    go_loopw [5, 6] (fun vi vj wr => ∃ (j : Nat) (cs : Array Value), j ≤ n ∧ vj = .int .i64 (j : Int) ∧ vi = .int .i64 ((okL d l j).length : Int) ∧ (okL d l j).length < j ∧ Blk wr b 3 cs ∧ cs.size = c ∧ (∀ (t : Nat) (y : Int), (okL d l j)[t]? = some y → cs[t]? = some (Value.int .i64 y)) ∧ (∀ (t : Nat) (y : Int), j ≤ t → l[t]? = some y → cs[t]? = some (Value.int .i64 y)) ∧ Only w1 wr b) (fun _ vj _ => ((n : Int) - intOf vj).toNat)
    case atStart =>
      refine ⟨k + 1, cs, by omega, by go_num, by rw [hF, List.length_take]; congr 2; omega, by rw [hF, List.length_take]; omega, h1, h2, fun t y h => ?_, fun t y _ h => hcs t y h, Only.refl _ _⟩
      rw [hF, List.getElem?_take] at h
      split at h
      · exact hcs t y h
      · cases h
    case round =>
      obtain ⟨j, cr, hj, rfl, rfl, hij, hBr, hsz, hlo, hhi, ho⟩ := hrel
      obtain ⟨wo, rfl⟩ : ∃ wo : World, wo = wr := ⟨_, rfl⟩
      have cB := Blk.cell hBr
      have fB := Blk.frozen hBr
      have lB := Blk.lt hBr
      have hcn : c ≤ 9223372036854775807 := by unfold maxLen at h4; exact h4
      by_cases hjn : j < n
      · have hg : l[j]? = some l[j] := List.getElem?_eq_getElem (by omega)
        have m1 : wo.cell? ⟨b, j, none⟩ = some (.int .i64 l[j]) := (cB j).trans (hhi j _ (Nat.le_refl _) hg)
        have hlj : (j : Int) < n := by omega
        generalize l[j] = x at *
        cases hx : neB d x with
        | false =>
          have hKx := hK wo ho x
          rw [hx] at hKx
          have hN := okL_no hg hx
          have H := hide (⟨hN, hlo, fun (t : Nat) (y : Int) (ht : j + 1 ≤ t) => hhi t y (by omega)⟩ : _ ∧ _ ∧ _)
          clear hlo hhi hN hF hno hyes hcs hI' hK cB
          go_wp2_with (go_at_call 92; (with_reducible refine hKx.mono ?_); rintro e w1 ⟨rfl, rfl⟩)
          go_roundw
          case rel =>
            obtain ⟨hN, hlo, hhi⟩ := H.out
            exact ⟨j + 1, cr, by omega, by go_num, by rw [hN], by rw [hN]; omega, hBr, hsz, by rw [hN]; exact hlo, hhi, ho⟩
          case measure => simp [intOf]; omega
        | true =>
          have hKx := hK wo ho x
          rw [hx] at hKx
          have hN := okL_yes hg hx
          generalize hi : (okL d l j).length = i at *
          have hil : (i : Int) < n := by omega
          have hib : i < cr.size := by omega
          have H := hide (⟨hN, hlo, hhi⟩ : _ ∧ _ ∧ _)
          have m0 : wo.cell? ⟨b, i, none⟩ = some cr[i] := (cB i).trans (Array.getElem?_eq_getElem hib)
          generalize cr[i] = u0 at *
          clear hlo hhi hN hF hno hyes hcs hI' hK cB
          go_wp2_with (go_at_call 92; (with_reducible refine hKx.mono ?_); rintro e w1 ⟨rfl, rfl⟩)
          go_roundw
          case rel =>
            obtain ⟨hN, hlo, hhi⟩ := H.out
            have hjl : (okL d l (j + 1)).length = i + 1 := by rw [hN, List.length_append, hi]; rfl
            refine ⟨j + 1, cr.setIfInBounds i (.int .i64 x), by omega, by go_num, by rw [hjl]; go_num, by rw [hjl]; omega, Blk.set_ hBr i _, by simpa using hsz, fun t y h => ?_, fun t y ht h => ?_, ho.trans (Only.setCell _ b i _)⟩
            · rw [hN, List.getElem?_append] at h
              split at h
              · rw [Array.getElem?_setIfInBounds_ne (by omega)]
                exact hlo t y h
              · have ht : t - (okL d l j).length < 1 := (List.getElem?_eq_some_iff.1 h).1
                obtain rfl : t = i := by omega
                rw [hi, Nat.sub_self] at h
                cases h
                rw [Array.getElem?_setIfInBounds_self, if_pos hib]
            · rw [Array.getElem?_setIfInBounds_ne (by omega)]
              exact hhi t y (by omega) h
          case measure => simp [intOf]; omega
      · obtain rfl : j = n := by omega
        generalize hi : (okL d l j).length = i at *
        have hil : (i : Int) ≤ j := by omega
        have hic : (i : Int) ≤ c := by omega
        have hjc : (j : Int) ≤ c := by omega
        have hcl : ∀ ty, (Builtin.clear_ #[29] ty #[.slice (some ⟨b, i, none⟩) (j - i) (c - i)]).run Try.prog wo = .ok (.tuple #[]) (wo.setCells b i (List.replicate (j - i) (.int .i64 0))) := fun ty =>
          Lib.run_clear_slice wo _ _ ty (.int .i64 0) Try.underlying29 (fun w => by rfl) rfl rfl b i (j - i) (c - i) (by omega) (fun t ht => by rw [cB, Array.getElem?_eq_getElem (by omega)]; rfl) (fun t ht => fB _)
        have H := hide hlo
        clear hlo hhi hF hno hyes hcs hI' hK cB
        go_wp2
        refine bodyPost_ret (v := .slice (some ⟨b, 0, none⟩) i c) (by simp [results, Try.results91, go_sem] <;> rfl) rfl ?_
        obtain ⟨cs', k1, k2, k3⟩ := blk_setCells (List.replicate (j - i) (.int .i64 0)) i wo cr hBr
        refine ⟨by rw [hi], ⟨cs', k1, by omega, by omega, h4, ?_⟩, ho.trans (only_setCells _ i wo)⟩
        rw [hi]
        refine List.ext_getElem? fun t => ?_
        rw [List.getElem?_take]
        by_cases ht : t < i
        · have hg : (okL d l j)[t]? = some ((okL d l j)[t]'(by omega)) := List.getElem?_eq_getElem (by omega)
          rw [if_pos ht, ints_get hg, Array.getElem?_toList, k3 t ht]
          exact H.out t _ hg
        · rw [if_neg ht, List.getElem?_eq_none (by rw [ints_length]; omega)]
end Go.Proofs.Ytjhcgnmibnjocaa
