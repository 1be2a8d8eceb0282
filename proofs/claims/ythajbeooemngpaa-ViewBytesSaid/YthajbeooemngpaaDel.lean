import Derived.Test.YthajbeooemngpaaView2
/-! slices.IndexFunc, DeleteFunc at a control's own closure. -/
namespace Go.Proofs.Ythajbeooemngpaa
open Go.RowKit
set_option linter.unusedVariables false
set_option linter.unusedSimpArgs false
theorem only_setCells {g : Nat} : ∀ (vs : List Value) (o : Nat) (w : World), Only w (w.setCells g o vs) g
  | [], o, w => Only.refl w g
  | v :: vs, o, w => (Only.setCell w g o v).trans (only_setCells vs (o + 1) (w.setCell ⟨g, o, none⟩ v))
theorem blk_setCells {g : Nat} {t : TypeId} : ∀ (vs : List Value) (o : Nat) (w : World) (cs : Array Value), Blk w g t cs → ∃ cs', Blk (w.setCells g o vs) g t cs' ∧ cs'.size = cs.size ∧ ∀ i, i < o → cs'[i]? = cs[i]?
  | [], o, w, cs, h => ⟨cs, h, rfl, fun _ _ => rfl⟩
  | v :: vs, o, w, cs, h => by
    obtain ⟨cs', h1, h2, h3⟩ := blk_setCells vs (o + 1) (w.setCell ⟨g, o, none⟩ v) _ (h.set_ o v)
    refine ⟨cs', h1, by simpa using h2, fun i hi => (h3 i (by omega)).trans ?_⟩
    rw [Array.getElem?_setIfInBounds_ne (by omega)]
theorem keep_any (q : Nat) (A : Option Addr) (m c : Nat) (ms : List Int) (x : Int) (w : World) (hq : w.cell? ⟨q, 0, none⟩ = some (.slice A m c)) (hr : Reads w w.heap.size 1 A m (ints ms)) (hm : m ≤ 9223372036854775807) :
    Calls Try.prog 78 #[.int .i64 x, .pointer (some ⟨q, 0, none⟩)] w fun e w' => e = .returned (.bool (!hasB ms x)) ∧ w' = w := by
  have hH := has_any A m c ms x w hr hm
  clear hr
  go_enter Try.func78, Try.ntmps78
  go_wp2_with (go_at_call 75; (with_reducible refine hH.mono ?_); rintro e w1 ⟨rfl, rfl⟩)
  go_ret
  exact ⟨rfl, rfl⟩
set_option maxHeartbeats 1000000 in
theorem indexf_any (q b n c : Nat) (l : List Int) (cs : Array Value) (A : Option Addr) (m d : Nat) (ms : List Int) (w : World) (hb : Blk w b 3 cs) (hcs : ∀ (t : Nat) (y : Int), l[t]? = some y → cs[t]? = some (Value.int .i64 y)) (hl : l.length = n) (hn : n ≤ 9223372036854775807)
    (hq : w.cell? ⟨q, 0, none⟩ = some (.slice A m d)) (hr : Reads w w.heap.size 1 A m (ints ms)) (hm : m ≤ 9223372036854775807) :
    Calls Try.prog 93 #[.slice (some ⟨b, 0, none⟩) n c, .func (.func 78) #[] #[.pointer (some ⟨q, 0, none⟩)]] w fun e w' => ((∃ k : Nat, k < n ∧ e = .returned (.int .i64 (k : Int)) ∧ (∀ y, l[k]? = some y → hasB ms y = false) ∧ ∀ i y, i < k → l[i]? = some y → hasB ms y = true) ∨ (e = .returned (.int .i64 (-1)) ∧ ∀ (i : Nat) y, l[i]? = some y → hasB ms y = true)) ∧ w' = w := by
  have hK : ∀ x, _ := fun x => keep_any q A m d ms x w hq hr hm
  clear hq hr
  have c1 := hb.cell
  have l1 := hb.lt
  go_enter Try.func93, Try.ntmps93
  go_wp2
  go_loopw [8] (fun s wr => ∃ j : Nat, j ≤ n ∧ s = .int .i64 (j : Int) ∧ (∀ (i : Nat) (y : Int), i < j → l[i]? = some y → hasB ms y = true) ∧ wr = w) (fun s _ => ((n : Int) - intOf s).toNat)
  case atStart => exact ⟨0, by omega, rfl, fun i y hi => by omega, rfl⟩
  case round =>
    obtain ⟨j, hj, rfl, hno, rfl⟩ := hrel
    obtain ⟨wo, rfl⟩ : ∃ wo : World, wo = wr := ⟨_, rfl⟩
    by_cases hlt : j < n
    · have hg : l[j]? = some l[j] := List.getElem?_eq_getElem (by omega)
      have m1 : wo.cell? ⟨b, j, none⟩ = some (.int .i64 l[j]) := (c1 j).trans (hcs j _ hg)
      have hlj : (j : Int) < n := by omega
      generalize l[j] = x at *
      cases hx : hasB ms x with
      | false =>
        have H := hide (⟨hg, hno, hx⟩ : _ ∧ _ ∧ _)
        have hK := hK x
        rw [hx] at hK
        clear hno hg hcs hx c1
        go_wp2_with (go_at_call 78; (with_reducible refine hK.mono ?_); rintro e w1 ⟨rfl, rfl⟩)
        go_ret
        obtain ⟨hg, hno, hx⟩ := H.out
        exact ⟨.inl ⟨j, hlt, rfl, fun y hy => by rw [hg] at hy; cases hy; exact hx, hno⟩, rfl⟩
      | true =>
        have hK := hK x
        rw [hx] at hK
        have HN := hide (fun (i : Nat) (y : Int) (hi : i < j + 1) (h : l[i]? = some y) => show hasB ms y = true from by
          rcases Nat.lt_or_ge i j with h' | h'
          · exact hno i y h' h
          · obtain rfl : i = j := by omega
            rw [hg] at h; cases h; exact hx)
        clear hno hg hcs hx c1
        go_wp2_with (go_at_call 78; (with_reducible refine hK.mono ?_); rintro e w1 ⟨rfl, rfl⟩)
        go_roundw
        case rel => exact ⟨j + 1, by omega, by go_num, HN.out, by trivial⟩
        case measure => simp [intOf]; omega
    · obtain rfl : j = n := by omega
      have HN := hide hno
      clear hno
      go_wp2
      go_ret
      refine ⟨.inr ⟨rfl, fun i y h => HN.out i y ?_ h⟩, rfl⟩
      have := (List.getElem?_eq_some_iff.1 h).1
      omega
def keptL (ms l : List Int) (j : Nat) : List Int := (l.take j).filter (hasB ms)
theorem keptL_le (ms l : List Int) (j : Nat) : (keptL ms l j).length ≤ j := Nat.le_trans (List.length_filter_le _ _) (by rw [List.length_take]; omega)
theorem keptL_yes {ms l : List Int} {j : Nat} {x : Int} (h : l[j]? = some x) (hx : hasB ms x = true) : keptL ms l (j + 1) = keptL ms l j ++ [x] := by
  unfold keptL
  rw [List.take_add_one, h, List.filter_append]
  simp [hx]
theorem keptL_no {ms l : List Int} {j : Nat} {x : Int} (h : l[j]? = some x) (hx : hasB ms x = false) : keptL ms l (j + 1) = keptL ms l j := by
  unfold keptL
  rw [List.take_add_one, h, List.filter_append]
  simp [hx]
theorem keptL_all {ms l : List Int} : ∀ {j : Nat}, j ≤ l.length → (∀ i y, i < j → l[i]? = some y → hasB ms y = true) → keptL ms l j = l.take j
  | 0, _, _ => by simp [keptL]
  | j + 1, hj, h => by
    have hg : l[j]? = some l[j] := List.getElem?_eq_getElem (by omega)
    rw [keptL_yes hg (h j _ (by omega) hg), keptL_all (by omega) (fun i y hi => h i y (by omega)), List.take_add_one, hg]
    rfl
theorem keptL_mono {ms l : List Int} : ∀ {i j : Nat}, i ≤ j → (keptL ms l j).length ≤ (keptL ms l i).length + (j - i)
  | i, 0, h => by obtain rfl : i = 0 := by omega
                  omega
  | i, j + 1, h => by
    rcases Nat.lt_or_ge j i with h' | h'
    · obtain rfl : i = j + 1 := by omega
      omega
    · have := keptL_mono (ms := ms) (l := l) h'
      have h2 : (keptL ms l (j + 1)).length ≤ (keptL ms l j).length + 1 := by
        unfold keptL
        rw [List.take_add_one, List.filter_append, List.length_append]
        have : (List.filter (hasB ms) l[j]?.toList).length ≤ 1 := by
          refine Nat.le_trans (List.length_filter_le _ _) ?_
          cases l[j]? <;> simp
        omega
      omega
theorem Only.cell {w w' : World} {g : Nat} (h : Only w w' g) {p : Addr} (hp : p.block < w.heap.size) (hne : p.block ≠ g) : w'.cell? p = w.cell? p := by
  unfold World.cell?
  rw [h.block p.block hp hne]
theorem Reads.only {w w' : World} {g size n : Nat} {A : Option Addr} {xs : List Value} (h : Reads w w.heap.size size A n xs) (ho : Only w w' g) (hA : 0 < n → ∀ a, A = some a → a.block ≠ g) : Reads w' w'.heap.size size A n xs :=
  ⟨h.1, fun hn => by
    obtain ⟨ad, e, hb, hc⟩ := h.2 hn
    exact ⟨ad, e, Nat.lt_of_lt_of_le hb ho.size, fun j u hu => (ho.cell (by rw [block_of_add]; exact hb) (by rw [block_of_add]; exact hA hn _ e)).trans (hc j u hu)⟩⟩
set_option maxRecDepth 100000 in
set_option maxHeartbeats 4000000 in
theorem delete_any (q b c n : Nat) (l : List Int) (A : Option Addr) (m d : Nat) (ms : List Int) (w : World) (hb : RowAt w b l c) (hnl : l.length = n) (hn : n * 8 ≤ 140737488355328)
    (hq : w.cell? ⟨q, 0, none⟩ = some (.slice A m d)) (hqb : q ≠ b) (hql : q < w.heap.size) (hr : Reads w w.heap.size 1 A m (ints ms)) (hAb : 0 < m → ∀ a, A = some a → a.block ≠ b) (hm : m ≤ 9223372036854775807) :
    Calls Try.prog 77 #[.slice (some ⟨b, 0, none⟩) n c, .func (.func 78) #[] #[.pointer (some ⟨q, 0, none⟩)]] w fun e w' => e = .returned (.slice (some ⟨b, 0, none⟩) (keptL ms l n).length c) ∧ RowAt w' b (keptL ms l n) c ∧ Only w w' b := by
  have hB := hb
  obtain ⟨cs, h1, h2, h3, h4, h5⟩ := hb
  have hcs : ∀ (t : Nat) (y : Int), l[t]? = some y → cs[t]? = some (Value.int .i64 y) := fun t y h => by
    have ht := (List.getElem?_eq_some_iff.1 h).1
    have := congrArg (fun z => z[t]?) h5
    simp only [ints_get h, List.getElem?_take, ht, if_true] at this
    simpa using this
  have hI := indexf_any q b n c l cs A m d ms w h1 hcs hnl (by omega) hq hr hm
  have hK : ∀ w', Only w w' b → ∀ x, _ := fun w' ho x => keep_any q A m d ms x w' ((ho.cell (p := ⟨q, 0, none⟩) hql hqb).trans hq) (Reads.only hr ho hAb) hm
  clear hq hr
  by_cases hall : ∀ (i : Nat) (y : Int), l[i]? = some y → hasB ms y = true
  · have hI' : Calls Try.prog 93 #[.slice (some ⟨b, 0, none⟩) n c, .func (.func 78) #[] #[.pointer (some ⟨q, 0, none⟩)]] w fun e w' => e = .returned (.int .i64 (-1)) ∧ w' = w := hI.mono fun e w' h => by
      obtain ⟨h | h, rfl⟩ := h
      · obtain ⟨k, hk, _, hno, _⟩ := h
        have := hno _ (List.getElem?_eq_getElem (by omega))
        rw [hall k _ (List.getElem?_eq_getElem (by omega))] at this
        cases this
      · exact ⟨h.1, rfl⟩
    have hkl : keptL ms l n = l := by rw [keptL_all (by omega) (fun i y _ => hall i y), ← hnl, List.take_length]
    rw [hkl, hnl]
    clear hI hcs h5 h1 hkl
    have hB := hide hB
    go_enter Try.func77, Try.ntmps77
    go_wp2_with (go_at_call 93; (with_reducible refine hI'.mono ?_); rintro e w1 ⟨rfl, rfl⟩)
    go_ret
    exact ⟨rfl, hB.out, Only.refl _ _⟩
  · have hI' : Calls Try.prog 93 #[.slice (some ⟨b, 0, none⟩) n c, .func (.func 78) #[] #[.pointer (some ⟨q, 0, none⟩)]] w fun e w' => (∃ k : Nat, k < n ∧ e = .returned (.int .i64 (k : Int)) ∧ (∀ y, l[k]? = some y → hasB ms y = false) ∧ ∀ i y, i < k → l[i]? = some y → hasB ms y = true) ∧ w' = w := hI.mono fun e w' h => by
      obtain ⟨h | h, rfl⟩ := h
      · exact ⟨h, rfl⟩
      · exact absurd h.2 hall
    clear hI hall
    go_enter Try.func77, Try.ntmps77
    go_wp2_with (go_at_call 93; (with_reducible refine hI'.mono ?_); rintro e w1 ⟨⟨k, hk, rfl, hno, hyes⟩, rfl⟩; have hk1 : ((k : Int) == -1) = false := (by simp))
    have hlt : (keptL ms l n).length < n := by
      have h1 : (keptL ms l n).length ≤ (keptL ms l (k + 1)).length + (n - (k + 1)) := keptL_mono (by omega)
      have h2 := keptL_no (l := l) (j := k) (List.getElem?_eq_getElem (by omega)) (hno _ (List.getElem?_eq_getElem (by omega)))
      have h3 := keptL_le ms l k
      rw [h2] at h1
      omega
    have hF : keptL ms l (k + 1) = l.take k := by
      rw [keptL_no (List.getElem?_eq_getElem (by omega)) (hno _ (List.getElem?_eq_getElem (by omega)))]
      exact keptL_all (by omega) hyes
    go_loopw [5, 6] (fun vi vj wr => ∃ (j : Nat) (cs : Array Value), j ≤ n ∧ vj = .int .i64 (j : Int) ∧ vi = .int .i64 ((keptL ms l j).length : Int) ∧ (keptL ms l j).length < j ∧ Blk wr b 3 cs ∧ cs.size = c ∧ (∀ (t : Nat) (y : Int), (keptL ms l j)[t]? = some y → cs[t]? = some (Value.int .i64 y)) ∧ (∀ (t : Nat) (y : Int), j ≤ t → l[t]? = some y → cs[t]? = some (Value.int .i64 y)) ∧ Only w1 wr b) (fun _ vj _ => ((n : Int) - intOf vj).toNat)
    case atStart =>
      refine ⟨k + 1, cs, by omega, by go_num, by rw [hF, List.length_take]; congr 2; omega, by rw [hF, List.length_take]; omega, h1, h2, fun t y h => ?_, fun t y _ h => hcs t y h, Only.refl _ _⟩
      rw [hF, List.getElem?_take] at h
      split at h
      · exact hcs t y h
      · cases h
    case round =>
      obtain ⟨j, cr, hj, rfl, rfl, hij, hBr, hsz, hlo, hhi, ho⟩ := hrel
      obtain ⟨wo, rfl⟩ : ∃ wo : World, wo = wr := ⟨_, rfl⟩
      have cB := Blk.cell hBr
      have fB := Blk.frozen hBr
      have lB := Blk.lt hBr
      have hcn : c ≤ 9223372036854775807 := by unfold maxLen at h4; exact h4
      by_cases hjn : j < n
      · have hg : l[j]? = some l[j] := List.getElem?_eq_getElem (by omega)
        have m1 : wo.cell? ⟨b, j, none⟩ = some (.int .i64 l[j]) := (cB j).trans (hhi j _ (Nat.le_refl _) hg)
        have hlj : (j : Int) < n := by omega
        generalize l[j] = x at *
        cases hx : hasB ms x with
        | false =>
          have hKx := hK wo ho x
          rw [hx] at hKx
          have hN := keptL_no hg hx
          have H := hide (⟨hN, hlo, fun (t : Nat) (y : Int) (ht : j + 1 ≤ t) => hhi t y (by omega)⟩ : _ ∧ _ ∧ _)
          clear hlo hhi hN hF hno hyes hcs hI' hK cB
          go_wp2_with (go_at_call 78; (with_reducible refine hKx.mono ?_); rintro e w1 ⟨rfl, rfl⟩)
          go_roundw
          case rel =>
            obtain ⟨hN, hlo, hhi⟩ := H.out
            exact ⟨j + 1, cr, by omega, by go_num, by rw [hN], by rw [hN]; omega, hBr, hsz, by rw [hN]; exact hlo, hhi, ho⟩
          case measure => simp [intOf]; omega
        | true =>
          have hKx := hK wo ho x
          rw [hx] at hKx
          have hN := keptL_yes hg hx
          generalize hi : (keptL ms l j).length = i at *
          have hil : (i : Int) < n := by omega
          have hib : i < cr.size := by omega
          have H := hide (⟨hN, hlo, hhi⟩ : _ ∧ _ ∧ _)
          have m0 : wo.cell? ⟨b, i, none⟩ = some cr[i] := (cB i).trans (Array.getElem?_eq_getElem hib)
          generalize cr[i] = u0 at *
          clear hlo hhi hN hF hno hyes hcs hI' hK cB
          go_wp2_with (go_at_call 78; (with_reducible refine hKx.mono ?_); rintro e w1 ⟨rfl, rfl⟩)
          go_roundw
          case rel =>
            obtain ⟨hN, hlo, hhi⟩ := H.out
            have hjl : (keptL ms l (j + 1)).length = i + 1 := by rw [hN, List.length_append, hi]; rfl
            refine ⟨j + 1, cr.setIfInBounds i (.int .i64 x), by omega, by go_num, by rw [hjl]; go_num, by rw [hjl]; omega, Blk.set_ hBr i _, by simpa using hsz, fun t y h => ?_, fun t y ht h => ?_, ho.trans (Only.setCell _ b i _)⟩
            · rw [hN, List.getElem?_append] at h
              split at h
              · rw [Array.getElem?_setIfInBounds_ne (by omega)]
                exact hlo t y h
              · have ht : t - (keptL ms l j).length < 1 := (List.getElem?_eq_some_iff.1 h).1
                obtain rfl : t = i := by omega
                rw [hi, Nat.sub_self] at h
                cases h
                rw [Array.getElem?_setIfInBounds_self, if_pos hib]
            · rw [Array.getElem?_setIfInBounds_ne (by omega)]
              exact hhi t y (by omega) h
          case measure => simp [intOf]; omega
      · obtain rfl : j = n := by omega
        generalize hi : (keptL ms l j).length = i at *
        have hil : (i : Int) ≤ j := by omega
        have hic : (i : Int) ≤ c := by omega
        have hjc : (j : Int) ≤ c := by omega
        have hcl : ∀ ty, (Builtin.clear_ #[54] ty #[.slice (some ⟨b, i, none⟩) (j - i) (c - i)]).run Try.prog wo = .ok (.tuple #[]) (wo.setCells b i (List.replicate (j - i) (.int .i64 0))) := fun ty =>
          Lib.run_clear_slice wo _ _ ty (.int .i64 0) Try.underlying54 (fun w => by rfl) rfl rfl b i (j - i) (c - i) (by omega) (fun t ht => by rw [cB, Array.getElem?_eq_getElem (by omega)]; rfl) (fun t ht => fB _)
        have H := hide hlo
        clear hlo hhi hF hno hyes hcs hI' hK cB
        go_wp2
        refine bodyPost_ret (v := .slice (some ⟨b, 0, none⟩) i c) (by simp [results, Try.results77, go_sem] <;> rfl) rfl ?_
        obtain ⟨cs', k1, k2, k3⟩ := blk_setCells (List.replicate (j - i) (.int .i64 0)) i wo cr hBr
        refine ⟨by rw [hi], ⟨cs', k1, by omega, by omega, h4, ?_⟩, ho.trans (only_setCells _ i wo)⟩
        rw [hi]
        refine List.ext_getElem? fun t => ?_
        rw [List.getElem?_take]
        by_cases ht : t < i
        · have hg : (keptL ms l j)[t]? = some ((keptL ms l j)[t]'(by omega)) := List.getElem?_eq_getElem (by omega)
          rw [if_pos ht, ints_get hg, Array.getElem?_toList, k3 t ht]
          exact H.out t _ hg
        · rw [if_neg ht, List.getElem?_eq_none (by rw [ints_length]; omega)]
end Go.Proofs.Ythajbeooemngpaa
