import Derived.Test.YtghinjnhcepaeaaCh15
/-! The chain that is made of any versions. -/
namespace Go.Proofs.Ytghinjnhcepaeaa
open Go.RowKit
set_option linter.unusedVariables false
set_option linter.unusedSimpArgs false
def ML (l : List Ver) (j : Nat) : List Ver := (l.take j).foldl stepL []
theorem ML_succ {l : List Ver} {j : Nat} {x : Ver} (h : l[j]? = some x) : ML l (j + 1) = stepL (ML l j) x := by
  unfold ML
  rw [List.take_add_one, h, List.foldl_append]
  rfl
theorem ML_good {l : List Ver} (hok : ∀ x ∈ l, x.ok) : ∀ j, Good (ML l j)
  | 0 => Good.nil
  | j + 1 => by
    rcases Nat.lt_or_ge j l.length with h | h
    · have hx := List.getElem?_eq_getElem h
      rw [ML_succ hx]
      exact (ML_good hok j).step (hok _ (List.getElem_mem h))
    · have := ML_good hok j
      unfold ML at *
      rw [List.take_of_length_le h] at this
      rwa [List.take_of_length_le (by omega)]
theorem ML_length (l : List Ver) : ∀ j, (ML l j).length ≤ j
  | 0 => Nat.le_refl _
  | j + 1 => by
    rcases Nat.lt_or_ge j l.length with h | h
    · rw [ML_succ (List.getElem?_eq_getElem h)]
      exact Nat.le_trans (stepL_length _ _) (by have := ML_length l j; omega)
    · have := ML_length l j
      unfold ML at *
      rw [List.take_of_length_le h] at this
      rw [List.take_of_length_le (by omega)]
      omega
theorem ML_all {l : List Ver} {j : Nat} (h : l.length ≤ j) : ML l j = ML l l.length := by
  unfold ML
  rw [List.take_of_length_le h, List.take_of_length_le (Nat.le_refl _)]
set_option maxRecDepth 100000 in
set_option maxHeartbeats 8000000 in
theorem made_any (A : Option Addr) (n c : Nat) (l : List Ver) (w : World) (hr : Reads w w.heap.size 6 A n (vsV l)) (hn : n ≤ 9223372036854775807) (hok : ∀ x ∈ l, x.ok) :
    Calls Try.prog 12 #[.slice A n c] w fun e w' => (∃ u v, e = .returned (.tuple #[u, v, .bool true]) ∧ Chn w' u (ML l 60) ∧ Chn w' v (ML l 60)) ∧ Below w.heap.size w w' := by
  have hl := vreads_len hr
  generalize hB : w.heap.size = B at *
  go_enter Try.func12, Try.ntmps12
  go_wp2
  go_loopw [5, 6, 15] (fun s5 s6 s15 wr => ∃ j : Nat, j ≤ n ∧ j ≤ 60 ∧ s15 = .int .i64 (j : Int) ∧ Chn wr s5 (ML l j) ∧ Chn wr s6 (ML l j) ∧ Below B w wr) (fun _ _ s15 _ => ((n : Int) - intOf s15).toNat)
  case atStart => exact ⟨0, by omega, by omega, rfl, Chn.nil _, Chn.nil _, Below.refl _ _⟩
  case round =>
    obtain ⟨j, hj, hj60, rfl, hC, hR, hbel⟩ := hrel
    have hszw : B ≤ wr.heap.size := by have := hbel.size; omega
    by_cases hlt : j < n
    · obtain ⟨b, o, rfl, hbb, hc⟩ := hr.plain (by omega) (by omega)
      have hcw : ∀ (j : Nat) (u : Value), (vsV l)[j]? = some u → wr.cell? ⟨b, o + j, none⟩ = some u := fun j u hu => (hbel.cell (p := ⟨b, _, none⟩) hbb).trans (hc j u hu)
      obtain ⟨x, hg⟩ : ∃ x, l[j]? = some x := ⟨l[j]'(by omega), List.getElem?_eq_getElem (by omega)⟩
      have hxo := hok x (List.mem_of_getElem? hg)
      have m0 : (wr).cell? ⟨b, o + j * 6, none⟩ = some (.int .i64 (x).a) := hcw _ _ (vsV_get hg 0 _ rfl); have m1 : (wr).cell? ⟨b, o + j * 6 + 1, none⟩ = some (.int .u32 (x).b) := hcw _ _ (vsV_get hg 1 _ rfl); have m2 : (wr).cell? ⟨b, o + j * 6 + 2, none⟩ = some (.int .u32 (x).c) := hcw _ _ (vsV_get hg 2 _ rfl); have m3 : (wr).cell? ⟨b, o + j * 6 + 3, none⟩ = some (.int .i64 (x).kd) := hcw _ _ (vsV_get hg 3 _ rfl); have m4 : (wr).cell? ⟨b, o + j * 6 + 4, none⟩ = some (.int .i64 (x).num) := hcw _ _ (vsV_get hg 4 _ rfl); have m5 : (wr).cell? ⟨b, o + j * 6 + 5, none⟩ = some (.string (x).text) := hcw _ _ (vsV_get hg 5 _ rfl)
      have hbw : b < wr.heap.size := by omega
      have hji : (j : Int) < n := by omega
      by_cases h60 : j = 60
      · subst h60
        have H := hide (⟨hC, hR⟩ : _ ∧ _)
        clear hc hcw hr hok hC hR hg hxo
        go_wp2
        refine bodyPost_ret (v := .tuple #[u5, u6, .bool true]) (by simp [results, Try.results12, go_sem] <;> rfl) rfl ⟨⟨_, _, rfl, H.out.1.below ?_, H.out.2.below ?_⟩, hbel.alloc hszw _⟩
        · exact Below.alloc (Below.refl _ _) (Nat.le_refl _) _
        · exact Below.alloc (Below.refl _ _) (Nat.le_refl _) _
      · have hj6 : (j : Int) < 60 := by omega
        have hO := Blk.new wr 26 (#[.int .i64 x.a, .int .u32 x.b, .int .u32 x.c, .int .i64 x.kd, .int .i64 x.num, .string x.text])
        have hG := ML_good hok j
        have hLn := ML_length l j
        have hP := fun s w h => put_g (s := s) x w h hG hxo (by omega)
        have hQ := fun s w h => rput_g (s := s) x w h hG hxo (by omega)
        have hrl : (resL (ML l j) x).length * 48 ≤ 140737488355328 := by
          unfold resL; split
          · rw [putL_length]; omega
          · simp
        have H := hide (ML_succ hg)
        clear hc hcw hr hok hg
        by_cases he : errL (ML l j) x = 0
        · rw [he] at hP hQ
          have hst : stepL (ML l j) x = resL (ML l j) x := by unfold stepL resL; rw [if_pos he, if_pos he]
          rw [hst] at H
          generalize ML l j = L at *
          go_wp2_with (first | (go_at_call 10; (with_reducible refine (vto_any x _).mono ?_); rintro e w1 ⟨rfl, hb1⟩; have hO1 := Blk.below hO hb1 hO.lt; have co1 := hO1.cell; have lo1 := hO1.lt; have hb01 : Below wr.heap.size wr w1 := (Below.alloc (Below.refl _ _) (Nat.le_refl _) _).trans (hb1.mono (by simp))) | (go_at_call 21; (with_reducible refine (hP u5 w1 (hC.below hb01)).mono ?_); rintro e w2 ⟨⟨u, rfl, hu⟩, hb2⟩; have hO2 := hO1.below hb2 lo1; have co2 := hO2.cell; have lo2 := hO2.lt; have hb02 := hb01.trans (hb2.mono hb01.size)) | (go_at_call 26; (with_reducible refine (hQ u6 w2 (hR.below hb02)).mono ?_); rintro e w3 ⟨⟨y, rfl, hy⟩, hb3⟩; have hO3 := hO2.below hb3 lo2; have co3 := hO3.cell; have lo3 := hO3.lt; have hb03 := hb02.trans (hb3.mono hb02.size)) | (go_at_call 18; (with_reducible refine (back_g w3 (hu.below hb3) hrl).mono ?_); rintro e w4 ⟨⟨z, rfl, hz⟩, hb4⟩; have hb04 := hb03.trans (hb4.mono hb03.size)) | (go_at_call 17; (with_reducible refine (same_g w4 hz (hy.below hb4) (by omega)).mono ?_); rintro e w5 ⟨rfl, hb5⟩; have hb05 : Below wr.heap.size wr w5 := hb04.trans (hb5.mono hb04.size)))
          go_roundw
          case rel => exact ⟨j + 1, by omega, by omega, by go_num, by rw [H.out]; exact hu.below (hb3.trans ((hb4.trans (hb5.mono hb4.size)).mono hb3.size)), by rw [H.out]; exact hy.below (hb4.trans (hb5.mono hb4.size)), hbel.trans ((hb05).mono hszw)⟩
          case measure => simp [intOf]; omega
        · have he' : (errL (ML l j) x == 0) = false := by simpa using he
          have hst : stepL (ML l j) x = ML l j := by unfold stepL; rw [if_neg he]
          rw [hst] at H
          generalize ML l j = L at *
          generalize errL L x = er at *
          go_wp2_with (first | (go_at_call 10; (with_reducible refine (vto_any x _).mono ?_); rintro e w1 ⟨rfl, hb1⟩; have hO1 := Blk.below hO hb1 hO.lt; have co1 := hO1.cell; have lo1 := hO1.lt; have hb01 : Below wr.heap.size wr w1 := (Below.alloc (Below.refl _ _) (Nat.le_refl _) _).trans (hb1.mono (by simp))) | (go_at_call 21; (with_reducible refine (hP u5 w1 (hC.below hb01)).mono ?_); rintro e w2 ⟨⟨u, rfl, hu⟩, hb2⟩; have hO2 := hO1.below hb2 lo1; have co2 := hO2.cell; have lo2 := hO2.lt; have hb02 := hb01.trans (hb2.mono hb01.size)) | (go_at_call 26; (with_reducible refine (hQ u6 w2 (hR.below hb02)).mono ?_); rintro e w3 ⟨⟨y, rfl, hy⟩, hb3⟩; have hO3 := hO2.below hb3 lo2; have co3 := hO3.cell; have lo3 := hO3.lt; have hb03 := hb02.trans (hb3.mono hb02.size)) | (go_at_call 18; (with_reducible refine (back_g w3 (hu.below hb3) hrl).mono ?_); rintro e w4 ⟨⟨z, rfl, hz⟩, hb4⟩; have hb04 := hb03.trans (hb4.mono hb03.size)) | (go_at_call 17; (with_reducible refine (same_g w4 hz (hy.below hb4) (by omega)).mono ?_); rintro e w5 ⟨rfl, hb5⟩; have hb05 : Below wr.heap.size wr w5 := hb04.trans (hb5.mono hb04.size)))
          go_roundw
          case rel => exact ⟨j + 1, by omega, by omega, by go_num, by rw [H.out]; exact hC.below hb05, by rw [H.out]; exact hR.below hb05, hbel.trans (hb05.mono hszw)⟩
          case measure => simp [intOf]; omega
    · obtain rfl : j = n := by omega
      have hM : ML l j = ML l 60 := by rw [ML_all (j := 60) (by omega), hl]
      rw [hM] at hC hR
      go_wp2
      refine bodyPost_ret (v := .tuple #[u5, u6, .bool true]) (by simp [results, Try.results12, go_sem] <;> rfl) rfl ⟨⟨_, _, rfl, hC, hR⟩, hbel⟩
end Go.Proofs.Ytghinjnhcepaeaa
