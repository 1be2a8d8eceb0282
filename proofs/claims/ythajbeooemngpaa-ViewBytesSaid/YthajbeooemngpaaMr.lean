import Derived.Test.YthajbeooemngpaaRd3
/-! The document's reader: a number. -/
namespace Go.Proofs.Ythajbeooemngpaa
open Go.RowKit
set_option linter.unusedVariables false
set_option linter.unusedSimpArgs false
/-- What is left of bytes behind a place, and an error. -/
def restP (l : List Nat) (a : Nat) (e : Int) : Rest := if e = 0 then ⟨l.drop a, 0⟩ else ⟨[], e⟩
structure Mrd (w : World) (q : Nat) (A : Option Addr) (c : Nat) (l : List Nat) (a : Nat) (e : Int) : Prop where
  blk : Blk w q 105 #[.slice A l.length c, .int .i64 ((a : Nat) : Int), .int .i64 (e)]
  row : Reads w w.heap.size 1 A l.length (u8s l)
  ne : 0 < l.length → ∀ b, A = some b → b.block ≠ q
  le : a ≤ l.length
theorem Reads.onl {w w' : World} {g size n : Nat} {A : Option Addr} {xs : List Value} (h : Reads w w.heap.size size A n xs) (ho : Only w w' g) (hA : 0 < n → ∀ a, A = some a → a.block ≠ g) : Reads w' w'.heap.size size A n xs :=
  ⟨h.1, fun hn => by
    obtain ⟨ad, e, hb, hc⟩ := h.2 hn
    refine ⟨ad, e, Nat.lt_of_lt_of_le hb ho.size, fun j u hu => ?_⟩
    have : w'.cell? (ad.add j) = w.cell? (ad.add j) := by
      unfold World.cell?
      rw [ho.block (ad.add j).block (by rw [block_of_add]; exact hb) (by rw [block_of_add]; exact hA hn _ e)]
    exact this.trans (hc j u hu)⟩
theorem Mrd.to {w w' : World} {q : Nat} {A : Option Addr} {c : Nat} {l : List Nat} {a a' : Nat} {e e' : Int} (h : Mrd w q A c l a e) (ho : Only w w' q) (hb : Blk w' q 105 #[.slice A l.length c, .int .i64 ((a' : Nat) : Int), .int .i64 (e')]) (ha : a' ≤ l.length) : Mrd w' q A c l a' e' :=
  ⟨hb, Reads.onl h.row ho h.ne, h.ne, ha⟩
theorem Mrd.below {w w' : World} {q : Nat} {A : Option Addr} {c : Nat} {l : List Nat} {a : Nat} {e : Int} (h : Mrd w q A c l a e) (hb : Below w.heap.size w w') : Mrd w' q A c l a e :=
  ⟨h.blk.below hb h.blk.lt, (h.row.below hb).more hb.size, h.ne, h.le⟩
theorem Mrd.go {w : World} {q : Nat} {A : Option Addr} {c : Nat} {l : List Nat} {a : Nat} {e : Int} (h : Mrd w q A c l a e) (X : Ext) (a' : Nat) (ha : a' ≤ l.length) (v : Int) (hv : v = (a' : Int)) : Mrd ((w.ext X).setCell ⟨q, 1, none⟩ (.int .i64 v)) q A c l a' e ∧ Only w ((w.ext X).setCell ⟨q, 1, none⟩ (.int .i64 v)) q := by
  subst hv
  have ho : Only w ((w.ext X).setCell ⟨q, 1, none⟩ (.int .i64 (a' : Int))) q := ((Only.refl w q).ext X).set_ (.inl rfl) _
  exact ⟨h.to ho ((h.blk.ext X).set_ 1 _) ha, ho⟩
theorem Mrd.fail {w : World} {q : Nat} {A : Option Addr} {c : Nat} {l : List Nat} {a : Nat} {e : Int} (h : Mrd w q A c l a e) (X : Ext) (e' : Int) : Mrd ((w.ext X).setCell ⟨q, 2, none⟩ (.int .i64 e')) q A c l a e' ∧ Only w ((w.ext X).setCell ⟨q, 2, none⟩ (.int .i64 e')) q := by
  have ho : Only w ((w.ext X).setCell ⟨q, 2, none⟩ (.int .i64 e')) q := ((Only.refl w q).ext X).set_ (.inl rfl) _
  exact ⟨h.to ho ((h.blk.ext X).set_ 2 _) h.le, ho⟩
theorem Mrd.at1 {w : World} {q : Nat} {A : Option Addr} {c : Nat} {l : List Nat} {a : Nat} {e : Int} (h : Mrd w q A c l a e) (a' : Nat) (ha : a' ≤ l.length) (v : Int) (hv : v = (a' : Int)) : Mrd (w.setCell ⟨q, 1, none⟩ (.int .i64 v)) q A c l a' e := by
  subst hv
  exact h.to (Only.setCell w q 1 _) (h.blk.set_ 1 _) ha
theorem restP_err {l : List Nat} {a : Nat} {e : Int} (h : e ≠ 0) : restP l a e = ⟨[], e⟩ := by unfold restP; rw [if_neg h]
theorem restP_ok (l : List Nat) (a : Nat) : restP l a 0 = ⟨l.drop a, 0⟩ := by unfold restP; rw [if_pos rfl]
theorem u8s_at {l : List Nat} {j x : Nat} (h : l[j]? = some x) : (u8s l)[j]? = some (.int .u8 (x : Int)) := by simp [u8s, h]
set_option maxRecDepth 100000 in
set_option maxHeartbeats 4000000 in
theorem dnum_any (q : Nat) (A : Option Addr) (c : Nat) (l : List Nat) (a : Nat) (e : Int) (w : World) (h : Mrd w q A c l a e) (hby : ∀ x ∈ l, x < 256) (hlen : l.length ≤ 140737488355328) :
    Calls Try.prog 85 #[.pointer (some ⟨q, 0, none⟩)] w fun e' w' => e' = .returned (.int .u64 ((numP (restP l a e)).1 : Nat)) ∧ (∃ a' e'', Mrd w' q A c l a' e'' ∧ restP l a' e'' = (numP (restP l a e)).2) ∧ Only w w' q := by
  have c1 := h.blk.cell
  have f1 := h.blk.frozen
  have l1 := h.blk.lt
  have hle := h.le
  by_cases h0 : e = 0
  · subst h0
    by_cases hat : a < l.length
    · have hg : l[a]? = some l[a] := List.getElem?_eq_getElem hat
      obtain ⟨b, o, rfl, hbb, hc⟩ := h.row.plain (by omega) (by omega)
      have m1 := hc _ _ (u8s_at hg)
      have hx := hby _ (List.getElem_mem hat)
      have hd : l.drop a = l[a] :: l.drop (a + 1) := List.drop_eq_getElem_cons hat
      rw [restP_ok, hd]
      have hat' : (a : Int) < l.length := by omega
      have hat2 : decide ((l.length : Int) ≤ a) = false := by simp; omega
      have hdl : (l.drop (a + 1)).length = l.length - (a + 1) := List.length_drop
      generalize l[a] = x at *
      by_cases hlow : x < 248
      · rw [numP_low _ hlow]
        have hlow' : (x : Int) < 248 := by omega
        have H := hide h
        clear h hc hd hdl hg
        go_enter Try.func85, Try.ntmps85
        go_wp2
        refine wp_region_ext_lit (by kernel_rfl) (by kernel_rfl) ?_; (repeat (quiet_step (fail))); refine wpQuiet_nil ?_; intro _ hw'; obtain ⟨Y, hw''⟩ := hw'; subst hw''
        go_wp2
        refine wp_region_ext_lit (by kernel_rfl) (by kernel_rfl) ?_; (repeat (quiet_step (fail))); refine wpQuiet_nil ?_; intro _ hw'; obtain ⟨Y, hw''⟩ := hw'; subst hw''
        go_wp2
        go_ret
        have hm := fun X => H.out.go X (a + 1) (by omega) ((a : Int) + 1) (by omega)
        exact ⟨rfl, ⟨a + 1, 0, (hm _).1, by rw [restP_ok]⟩, (hm _).2⟩
      · have hlow' : decide ((x : Int) < 248) = false := by simp; omega
        have kx : IntKind.i64.wrap (x : Int) = (x : Int) := IntWalk.i64_in _ (by omega)
        have kk : (x : Int) - 247 = ((x - 247 : Nat) : Int) := by omega
        have ks : IntKind.i64.wrap ((x : Int) - 247) = ((x - 247 : Nat) : Int) := by rw [kk]; exact IntWalk.i64_in _ (by omega)
        have kl : IntKind.i64.wrap ((l.length : Int) - (a : Int)) = (l.length : Int) - (a : Int) := IntWalk.i64_in _ (by omega)
        have kl2 : IntKind.i64.wrap ((l.length : Int) - (a : Int) - 1) = (l.length : Int) - (a : Int) - 1 := IntWalk.i64_in _ (by omega)
        have hk8 : x - 247 ≤ 8 := by omega
        have hk1 : 1 ≤ x - 247 := by omega
        by_cases hs : l.length - (a + 1) < x - 247
        · rw [numP_short2 hlow (by omega)]
          have hs' : (l.length : Int) - (a : Int) - 1 < ((x - 247 : Nat) : Int) := by omega
          have H := hide h
          generalize x - 247 = k at *
          clear h hc hd hdl hg kk hlow
          go_enter Try.func85, Try.ntmps85
          go_wp2
          refine wp_region_ext_lit (by kernel_rfl) (by kernel_rfl) ?_; (repeat (quiet_step (fail))); refine wpQuiet_nil ?_; intro _ hw'; obtain ⟨Y, hw''⟩ := hw'; subst hw''
          go_wp2
          refine wp_region_ext_lit (by kernel_rfl) (by kernel_rfl) ?_; (repeat (quiet_step (fail))); refine wpQuiet_nil ?_; intro _ hw'; obtain ⟨Y, hw''⟩ := hw'; subst hw''
          go_wp2
          refine wp_region_ext_lit (by kernel_rfl) (by kernel_rfl) ?_; (repeat (quiet_step (fail))); refine wpQuiet_nil ?_; intro _ hw'; obtain ⟨Y, hw''⟩ := hw'; subst hw''
          go_wp2
          go_ret
          have hm := fun X => H.out.fail X 9
          exact ⟨rfl, ⟨a, 9, (hm _).1, by rw [restP_err (by decide)]⟩, (hm _).2⟩
        · have HR := hide (numP_long hlow (by omega : x - 247 ≤ (l.drop (a + 1)).length))
          generalize numP ⟨x :: l.drop (a + 1), 0⟩ = R at *
          have htg : ∀ j y : Nat, (l.drop (a + 1))[j]? = some y → w.cell? ⟨b, o + (a + (j + 1)), none⟩ = some (.int .u8 (y : Int)) ∧ y < 256 ∧ a + (j + 1) < l.length := fun j y hy => by
            rw [List.getElem?_drop] at hy
            have h1 := List.mem_of_getElem? hy
            have h2 := (List.getElem?_eq_some_iff.1 hy).1
            exact ⟨by rw [show a + (j + 1) = a + 1 + j by omega]; exact hc _ _ (u8s_at hy), hby _ h1, by omega⟩
          have htb : ∀ y ∈ l.drop (a + 1), y < 256 := fun y hy => hby y (List.mem_of_mem_drop hy)
          have hdd : (l.drop (a + 1)).drop (x - 247) = l.drop (a + (x - 247) + 1) := by rw [List.drop_drop]; congr 1; omega
          have hs' : ¬(l.length : Int) - (a : Int) - 1 < ((x - 247 : Nat) : Int) := by omega
          have hd2 : decide ((l.length : Int) - (a : Int) - 1 < ((x - 247 : Nat) : Int)) = false := decide_eq_false hs'
          have hak : a + (x - 247) + 1 ≤ l.length := by omega
          have H := hide h
          generalize l.drop (a + 1) = t at *
          generalize x - 247 = k at *
          clear h hc hd hg kk hlow
          go_enter Try.func85, Try.ntmps85
          go_wp2
          refine wp_region_ext_lit (by kernel_rfl) (by kernel_rfl) ?_; (repeat (quiet_step (fail))); refine wpQuiet_nil ?_; intro _ hw'; obtain ⟨Y, hw''⟩ := hw'; subst hw''
          go_wp2
          refine wp_region_ext_lit (by kernel_rfl) (by kernel_rfl) ?_; (repeat (quiet_step (fail))); refine wpQuiet_nil ?_; intro _ hw'; obtain ⟨Y, hw''⟩ := hw'; subst hw''
          go_wp2
          refine wp_region_ext_lit (by kernel_rfl) (by kernel_rfl) ?_; (repeat (quiet_step (fail))); refine wpQuiet_nil ?_; intro _ hw'; obtain ⟨Y, hw''⟩ := hw'; subst hw''
          go_wp2
          go_loopw [5, 6] (fun vn vi wr => ∃ j m : Nat, j ≤ k ∧ vi = .int .i64 ((j : Int) + 1) ∧ vn = .int .u64 (m : Int) ∧ Hid (m = num (t.take j)) ∧ Below w.heap.size w wr) (fun _ vi _ => ((k : Int) + 1 - intOf vi).toNat)
          case atStart => exact ⟨0, 0, by omega, rfl, rfl, rfl, by (repeat' (first | with_reducible exact Below.refl _ _ | with_reducible refine Below.ext ?_ ?_ _ | with_reducible refine Below.alloc ?_ ?_ _ | with_reducible refine Below.setCell ?_ ?_ _ | with_reducible refine Below.drew ?_ | with_reducible assumption | (simp [World.size_ext]; done) | (simp [World.size_ext]; omega)))⟩
          case round =>
            obtain ⟨j, m, hj, rfl, rfl, hm, hb⟩ := hrel
            obtain ⟨wo, rfl⟩ : ∃ wo : World, wo = wr := ⟨_, rfl⟩
            have hs0 := hb.size
            have hM := H.out.below hb
            have cM := hM.blk.cell
            have fM := hM.blk.frozen
            have lM := hM.blk.lt
            by_cases hlt : j < k
            · obtain ⟨y, hy0⟩ : ∃ y, t[j]? = some y := ⟨_, List.getElem?_eq_getElem (by omega)⟩
              obtain ⟨h1, h2, h3⟩ := htg j y hy0
              have m2 : wo.cell? ⟨b, o + (a + (j + 1)), none⟩ = some (.int .u8 (y : Int)) := by rw [hb.cell (p := ⟨b, _, none⟩) hbb]; exact h1
              have hts : num (t.take (j + 1)) = num (t.take j) * 256 + y := by rw [List.take_add_one, hy0, ← num_snoc]; rfl
              have hm7 := num_take_lt htb (i := j) (by omega)
              rw [← hm.out] at hts hm7
              have HT := hide hts
              have hbw : b < wo.heap.size := by omega
              have q1 : (j : Int) + 1 ≤ k := by omega
              have q2 : IntKind.i64.wrap ((a : Int) + ((j : Int) + 1)) = (a : Int) + ((j : Int) + 1) := IntWalk.i64_in _ (by omega)
              have q3 : (0 : Int) ≤ (a : Int) + ((j : Int) + 1) := by omega
              have q4 : ((a : Int) + ((j : Int) + 1)).toNat = a + (j + 1) := by omega
              have q5 : (a : Int) + ((j : Int) + 1) < l.length := by omega
              have q6 : a + (j + 1) < l.length := h3
              have q7 : IntKind.u64.wrap ((m : Int) * 256) = (m : Int) * 256 := by show ((m : Int) * 256) % 18446744073709551616 = _; omega
              have q8 : IntKind.u64.wrap (y : Int) = (y : Int) := by show (y : Int) % 18446744073709551616 = _; omega
              have q9 : IntKind.u64.wrap ((m : Int) * 256 + (y : Int)) = (m : Int) * 256 + (y : Int) := by show ((m : Int) * 256 + (y : Int)) % 18446744073709551616 = _; omega
              clear hts hm htg htb hy0 h1 hM HR
              go_wp2
              refine wp_region_ext_lit (by kernel_rfl) (by kernel_rfl) ?_; (repeat (quiet_step (fail))); refine wpQuiet_nil ?_; intro _ hw'; obtain ⟨Y, hw''⟩ := hw'; subst hw''
              go_wp2
              go_roundw
              case rel => exact ⟨j + 1, m * 256 + y, by omega, by go_num, by congr 1, HT.out.symm, by (repeat' (first | with_reducible exact Below.refl _ _ | with_reducible refine Below.ext ?_ ?_ _ | with_reducible refine Below.alloc ?_ ?_ _ | with_reducible refine Below.setCell ?_ ?_ _ | with_reducible refine Below.drew ?_ | with_reducible assumption | (simp [World.size_ext]; done) | (simp [World.size_ext]; omega)))⟩
              case measure => simp [intOf]; omega
            · obtain rfl : j = k := by omega
              have hm2 := hm.out
              subst hm2
              clear hm htg
              have hN := num_lt64 (l := t.take j) (fun y hy => htb y (List.mem_of_mem_take hy)) (by rw [List.length_take]; omega)
              have hU : U64 ((num (t.take j) : Nat) : Int) := by unfold U64; omega
              have hnum := rnum_any wo.heap.size (.slice none 0 0) [] ((num (t.take j) : Nat) : Int) wo (Row.nil _ _) (Nat.le_refl _) hU (by simp)
              rw [Int.toNat_natCast, List.nil_append] at hnum
              generalize num (t.take j) = N at *
              have hBL := numB_length N
              have q1 : ¬(j : Int) + 1 ≤ j := by omega
              by_cases hbad : N < 248 ∨ longN N ≠ j
              · have hR : R = (0, ⟨[], 10⟩) := by rw [HR.out, if_pos hbad]
                have hne : (((numB N).length : Int) != (j : Int) + 1) = true := by
                  rw [bne_iff_ne]
                  intro h'
                  rw [hBL] at h'
                  rcases hbad with h1 | h1
                  · rw [if_pos h1] at h'; omega
                  · by_cases h2 : N < 248
                    · rw [if_pos h2] at h'; omega
                    · rw [if_neg h2] at h'; omega
                have HR2 := hide hR
                have HM := hide hM
                clear HR hR hM htb hBL
                go_wp2_with (go_at_call 67; (with_reducible refine hnum.mono ?_); rintro e w5 ⟨v5, rfl, hu5, hc5⟩; obtain ⟨A5, d5, rfl, _, _, _, _⟩ := hu5.slice; have hb5 := Chg.below hc5 (Row.nil wo wo.heap.size) (Nat.le_refl _); have hM5 := HM.out.below hb5; have cM5 := hM5.blk.cell; have fM5 := hM5.blk.frozen; have lM5 := hM5.blk.lt)
                go_ret
                rw [HR2.out]
                have ho2 : Only w w5 q := Only.of_below (hb.trans (hb5.mono hs0))
                exact ⟨rfl, ⟨a, 10, hM5.to (Only.setCell w5 q 2 _) (hM5.blk.set_ 2 _) hM5.le, by rw [restP_err (by decide)]⟩, ho2.set_ (p := ⟨q, 2, none⟩) (.inl rfl) _⟩
              · have hR : R = (N, ⟨t.drop j, 0⟩) := by rw [HR.out, if_neg hbad]
                have hne : (((numB N).length : Int) != (j : Int) + 1) = false := by
                  rw [bne_eq_false_iff_eq, hBL, if_neg (by omega)]
                  omega
                have r1 : IntKind.i64.wrap ((a : Int) + (j : Int)) = (a : Int) + (j : Int) := IntWalk.i64_in _ (by omega)
                have r2 : IntKind.i64.wrap ((a : Int) + (j : Int) + 1) = (a : Int) + (j : Int) + 1 := IntWalk.i64_in _ (by omega)
                have HR2 := hide hR
                have HM := hide hM
                clear HR hR hM htb hBL
                go_wp2_with (go_at_call 67; (with_reducible refine hnum.mono ?_); rintro e w5 ⟨v5, rfl, hu5, hc5⟩; obtain ⟨A5, d5, rfl, _, _, _, _⟩ := hu5.slice; have hb5 := Chg.below hc5 (Row.nil wo wo.heap.size) (Nat.le_refl _); have hM5 := HM.out.below hb5; have cM5 := hM5.blk.cell; have fM5 := hM5.blk.frozen; have lM5 := hM5.blk.lt)
                go_ret
                rw [HR2.out]
                have ho2 : Only w w5 q := Only.of_below (hb.trans (hb5.mono hs0))
                exact ⟨rfl, ⟨a + j + 1, 0, hM5.at1 (a + j + 1) hak _ (by omega), by rw [restP_ok, ← hdd]⟩, ho2.set_ (p := ⟨q, 1, none⟩) (.inl rfl) _⟩
    · have hat2 : decide ((l.length : Int) ≤ a) = true := by simp; omega
      have hd : l.drop a = [] := List.drop_eq_nil_of_le (by omega)
      rw [restP_ok, hd, numP_short]
      have H := hide h
      clear h hd
      go_enter Try.func85, Try.ntmps85
      go_wp2
      refine wp_region_ext_lit (by kernel_rfl) (by kernel_rfl) ?_; (repeat (quiet_step (fail))); refine wpQuiet_nil ?_; intro _ hw'; obtain ⟨Y, hw''⟩ := hw'; subst hw''
      go_wp2
      go_ret
      have hm := fun X => H.out.fail X 9
      exact ⟨rfl, ⟨a, 9, (hm _).1, by rw [restP_err (by decide)]⟩, (hm _).2⟩
  · rw [restP_err h0, numP_err h0]
    have h0' : (e != 0) = true := by simpa using h0
    have H := hide h
    clear h
    go_enter Try.func85, Try.ntmps85
    go_wp2
    go_ret
    exact ⟨rfl, ⟨a, e, H.out, by rw [restP_err h0]⟩, Only.refl _ _⟩
end Go.Proofs.Ythajbeooemngpaa
