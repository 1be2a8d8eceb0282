import Derived.Test.YthajbeooemngpaaPack2
import Derived.Test.YthajbeooemngpaaWire2
/-! Samples as bytes: the program and the document. -/
namespace Go.Proofs.Ythajbeooemngpaa
open Go.RowKit
set_option linter.unusedVariables false
set_option linter.unusedSimpArgs false
def tm (l : List (Int × Int)) (i : Nat) : Int := ((l[i]?).map (·.1)).getD 0
def nm (l : List (Int × Int)) (i : Nat) : Int := ((l[i]?).map (·.2)).getD 0
def pt (l : List (Int × Int)) : Nat → Int
  | 0 => 0
  | i + 1 => tm l i
def pn (l : List (Int × Int)) : Nat → Int
  | 0 => 0
  | i + 1 => nm l i
def pg (l : List (Int × Int)) : Nat → Int
  | 0 => 0
  | i + 1 => tm l i - pt l i
/-- What of the i-th sample is packed: how fast its time changes, and its number. -/
def dd (l : List (Int × Int)) (i : Nat) : Int := tm l i - pt l i - pg l i
def dn (l : List (Int × Int)) (i : Nat) : Int := wrap64 (nm l i - pn l i)
def packB (l : List (Int × Int)) : Nat → List Nat
  | 0 => numB l.length
  | k + 1 => packB l k ++ (numB (zig (dd l k)) ++ numB (zig (dn l k)))
def fineP (l : List (Int × Int)) : Bool := decide (l.length ≤ 65536) && goodP l
theorem okP_at {l : List (Int × Int)} (h : goodP l = true) {i : Nat} (hi : i < l.length) : okP l i = true := by
  unfold goodP at h
  rw [List.all_eq_true] at h
  exact h i (by simpa using hi)
theorem tm_get {l : List (Int × Int)} {i : Nat} {p : Int × Int} (h : l[i]? = some p) : tm l i = p.1 := by unfold tm; rw [h]; rfl
theorem nm_get {l : List (Int × Int)} {i : Nat} {p : Int × Int} (h : l[i]? = some p) : nm l i = p.2 := by unfold nm; rw [h]; rfl
theorem tm_bd {l : List (Int × Int)} (h : goodP l = true) {i : Nat} (hi : i < l.length) : 0 ≤ tm l i ∧ tm l i ≤ 4611686018427387904 ∧ 0 ≤ pt l i ∧ pt l i ≤ tm l i := by
  have hp : l[i]? = some l[i] := List.getElem?_eq_getElem hi
  have ho := okP_at h hi
  rw [tm_get hp]
  cases i with
  | zero =>
    rw [okP_zero hp] at ho
    simp at ho
    simp only [pt]
    omega
  | succ m =>
    have hq : l[m]? = some l[m] := List.getElem?_eq_getElem (by omega)
    have ho' := okP_at h (i := m) (by omega)
    rw [okP_succ hp hq] at ho
    simp at ho
    have : 0 ≤ l[m].1 := by
      cases m with
      | zero => rw [okP_zero hq] at ho'; simp at ho'; omega
      | succ k =>
        rw [okP_succ hq (List.getElem?_eq_getElem (by omega) : l[k]? = some l[k])] at ho'
        simp at ho'
        omega
    simp only [pt]
    rw [tm_get hq]
    omega
theorem pg_bd {l : List (Int × Int)} (h : goodP l = true) {i : Nat} (hi : i < l.length) : 0 ≤ pg l i ∧ pg l i ≤ 4611686018427387904 := by
  cases i with
  | zero => simp [pg]
  | succ m =>
    have := tm_bd h (i := m) (by omega)
    simp only [pg]
    omega
theorem dd_bd {l : List (Int × Int)} (h : goodP l = true) {i : Nat} (hi : i < l.length) : I64 (dd l i) := by
  have := tm_bd h hi
  have := pg_bd h hi
  unfold dd I64
  omega
theorem wrap_bd (a : Int) : I64 (wrap64 a) := by unfold wrap64 I64; omega
theorem packB_length (l : List (Int × Int)) (hl : l.length < 18446744073709551616) (hg : goodP l = true) : ∀ k, k ≤ l.length → (packB l k).length ≤ 9 + 18 * k
  | 0, _ => numB_le _ hl
  | k + 1, hk => by
    have h1 := packB_length l hl hg k (by omega)
    have h2 := numB_le _ (zig_lt _ (dd_bd hg (i := k) (by omega)))
    have h3 := numB_le _ (zig_lt _ (wrap_bd (nm l k - pn l k)))
    simp only [packB, List.length_append]
    unfold dn
    omega
theorem pn_bd {l : List (Int × Int)} (h : I64s l) (i : Nat) : I64 (pn l i) := by
  cases i with
  | zero => simp [pn, I64]
  | succ m =>
    simp only [pn]
    unfold nm
    cases e : l[m]? with
    | none => simp [I64]
    | some p => simpa [I64] using (h p (List.mem_of_getElem? e)).2
set_option maxRecDepth 100000 in
set_option maxHeartbeats 2000000 in
theorem ppack_any (A : Option Addr) (n c : Nat) (l : List (Int × Int)) (w : World) (hr : Reads w w.heap.size 2 A n (smps l)) (h64 : I64s l) (hn : n * 16 ≤ 140737488355328) :
    Calls Try.prog 15 #[.slice A n c] w fun e w' => ((fineP l = true ∧ ∃ u, e = .returned (.tuple #[u, .int .i64 0]) ∧ Row w' w.heap.size u (packB l n)) ∨ (fineP l = false ∧ e = .returned (.tuple #[.slice none 0 0, .int .i64 1]))) ∧ Below w.heap.size w w' := by
  have hl : l.length = n := by have := hr.1; rw [smps_length] at this; omega
  have hpr := pright_any A n c l w hr hn
  have hfp : (decide (n ≤ 65536) && goodP l) = fineP l := by unfold fineP; rw [hl]
  rw [hfp] at hpr
  by_cases hf : fineP l = true
  · rw [hf] at hpr
    have hlen : n ≤ 65536 := by unfold fineP at hf; rw [hl] at hf; simp at hf; exact hf.1
    have hg : goodP l = true := by unfold fineP at hf; simp at hf; exact hf.2
    have hUn : U64 (n : Int) := by unfold U64; omega
    go_enter Try.func15, Try.ntmps15
    go_wp2_with (first | (go_at_call 19; (with_reducible refine (hpr).mono ?_); rintro e w1 ⟨rfl, hb1⟩) | (go_at_call 23; (with_reducible refine (new_any _).mono ?_); rintro e w2 ⟨rfl, hw2, hb2⟩) | (go_at_call 45; (with_reducible refine (num_any _ _ _ _ _ _ hw2 hUn (by simp)).mono ?_); rintro e w3 ⟨rfl, v3, hw3, hg3⟩))
    have hb3 : Below w.heap.size w w3 := (hb1.trans (hb2.mono hb1.size)).trans ((hg3.below hw2).mono hb1.size)
    rw [show [] ++ numB ((n : Int)).toNat = packB l 0 by simp [packB, hl]] at hw3
    have hs1 := hb1.size
    clear hg3 hw2 hb2
    go_loopw [5, 6, 7, 21] (fun vt vn vs vi wr => ∃ (j : Nat) (v : Value), j ≤ n ∧ vi = .int .i64 (j : Int) ∧ vt = .int .i64 (pt l j) ∧ vn = .int .i64 (pn l j) ∧ vs = .int .i64 (pg l j) ∧ Wrt wr w1.heap.size w1.heap.size 124 v (packB l j) ∧ Below w.heap.size w wr) (fun _ _ _ vi _ => ((n : Int) - intOf vi).toNat)
    case atStart => exact ⟨0, v3, by omega, rfl, rfl, rfl, rfl, hw3, hb3⟩
    case round =>
      clear hw3 hb3 hb1
      obtain ⟨j, v, hj, rfl, rfl, rfl, rfl, hw, hb⟩ := hrel
      obtain ⟨wo, rfl⟩ : ∃ wo : World, wo = wr := ⟨_, rfl⟩
      have hs := hb.size
      have hgl := hw.blk.lt
      have hk := packB_length l (by omega) hg j (by omega)
      by_cases hlt : j < n
      · obtain ⟨b, o, rfl, hbb, hc⟩ := hr.plain (by omega) (by omega)
        have hgj : l[j]? = some l[j] := List.getElem?_eq_getElem (by omega)
        have m1 : wo.cell? ⟨b, o + j * 2, none⟩ = some (.int .i64 l[j].1) := by rw [hb.cell (p := ⟨b, _, none⟩) hbb]; exact hc _ _ (smps_get l j _ hgj).1
        have m2 : wo.cell? ⟨b, o + j * 2 + 1, none⟩ = some (.int .i64 l[j].2) := by rw [hb.cell (p := ⟨b, _, none⟩) hbb, Nat.add_assoc]; exact hc _ _ (smps_get l j _ hgj).2
        have hbw : b < wo.heap.size := by omega
        have hlj : (j : Int) < n := by omega
        have ht := tm_get hgj
        have hnn := nm_get hgj
        have t1 := tm_bd hg (i := j) (by omega)
        have t2 := pg_bd hg (i := j) (by omega)
        have t3 := pn_bd h64 j
        have t4 := (h64 l[j] (List.getElem_mem _))
        have hU1 := dd_bd hg (i := j) (by omega)
        have hU2 : I64 (dn l j) := wrap_bd _
        have HB : Hid (packB l (j + 1) = packB l j ++ (numB (zig (dd l j)) ++ numB (zig (dn l j)))) := rfl
        have e1 : dd l j = l[j].1 - pt l j - pg l j := by unfold dd; rw [ht]
        have e2 : dn l j = wrap64 (l[j].2 - pn l j) := by unfold dn; rw [hnn]
        have HS : Hid (pt l (j + 1) = l[j].1 ∧ pn l (j + 1) = l[j].2 ∧ pg l (j + 1) = l[j].1 - pt l j) := ⟨ht, hnn, by rw [← ht]; rfl⟩
        rw [ht] at t1
        generalize l[j] = p at *
        generalize pt l j = T at *
        generalize pn l j = N at *
        generalize pg l j = G at *
        have HD := hide (numB_le _ (zig_lt _ hU1))
        clear hc hr h64 hpr hfp hf hg hgj ht hnn hl
        unfold I64 at t3
        have hU1' : I64 (p.1 - T - G) := e1 ▸ hU1
        have hU2' : I64 (wrap64 (p.2 - N)) := e2 ▸ hU2
        have hwA := hw.below (Below.alloc (Below.refl _ _) (Nat.le_refl _) (.cells #[.int .i64 p.1, .int .i64 p.2] 36))
        have hlA : (packB l j).length + 9 ≤ 140737488355328 := by omega
        have hlB : (packB l j ++ numB (zig (p.1 - T - G))).length + 9 ≤ 140737488355328 := by rw [List.length_append, ← e1]; have := HD.out; omega
        have hBs := Blk.new wo 36 #[.int .i64 p.1, .int .i64 p.2]
        have hne1 := hw.row.far (Nat.le_refl _)
        have hne2 : wo.heap.size ≠ w1.heap.size := by omega
        clear t3
        go_wp2_with (first | ((go_at_call 46; (with_reducible refine (int_any _ _ _ _ _ _ hwA hU1' hlA).mono ?_); rintro e w4 ⟨rfl, v4, hw4, hg4⟩); have hB4 := Blk.chw hBs hg4 hne2 hne1; have c4 := hB4.cell; have f4 := hB4.frozen; have l4 := hB4.lt; have hne4 := hg4.old (Blk.lt hBs) hne1) | ((go_at_call 46; (with_reducible refine (int_any _ _ _ _ _ _ hw4 hU2' hlB).mono ?_); rintro e w5 ⟨rfl, v5, hw5, hg5⟩); have hB5 := Blk.chw hB4 hg5 hne2 hne4; have c5 := hB5.cell; have f5 := hB5.frozen; have l5 := hB5.lt; clear c4 f4))
        refine wp_region_ext_lit (by kernel_rfl) (by kernel_rfl) ?_
        (repeat (first | ((with_reducible refine wpQuiet_step (fun K hK => ?_)); go_simp; first | ((with_reducible refine hK _ ?_); clear hK K) | (apply Exists.intro; (with_reducible refine ⟨fun _ => ?_, hK _ ?_⟩); skip; clear hK K)) | ((with_reducible refine quiet_skipN ?_ (fun K hK => ?_)); (rfl); go_simp; (with_reducible refine hK _ ?_); clear hK K)))
        (with_reducible refine wpQuiet_nil ?_); intro _ hw'; obtain ⟨Y, hw''⟩ := hw'; subst hw''
        go_wp2
        go_roundw
        case rel =>
          have hb5 : Below w.heap.size w w5 := ((hb.alloc (by omega) _).trans ((hg4.below hwA).mono hs1)).trans ((hg5.below hw4).mono hs1)
          have hs5 := hb5.size
          refine ⟨j + 1, v5, by omega, by go_num, by rw [HS.out.1], by rw [HS.out.2.1], ?_, ?_, by (repeat' (first | with_reducible exact Below.refl _ _ | with_reducible refine Below.ext ?_ ?_ _ | with_reducible refine Below.alloc ?_ ?_ _ | with_reducible refine Below.setCell ?_ ?_ _ | with_reducible refine Below.drew ?_ | with_reducible assumption | (simp [World.size_ext]; done) | (simp [World.size_ext]; omega)))⟩
          · rw [HS.out.2.2, IntWalk.i64_in _ (by omega)]
          · rw [HB.out, e1, e2, ← List.append_assoc]
            exact hw5.below (World.below_ext _ _)
        case measure => simp [intOf]; omega
      · obtain rfl : j = n := by omega
        have hlB : (packB l j).length + 9 ≤ 140737488355328 := by omega
        clear hr
        go_wp2_with (first | (go_at_call 25; (with_reducible refine (bytes_any _ _ _ _ _ hw hlB).mono ?_); rintro e w6 ⟨u, rfl, hu6, hb6⟩))
        refine bodyPost_ret (v := .tuple #[u, .int .i64 0]) (by simp [results, Try.results15, go_sem] <;> rfl) rfl ⟨.inl ⟨hf, u, rfl, hu6.base hs⟩, hb.trans (hb6.mono hs)⟩
  · have hff : fineP l = false := by simpa using hf
    rw [hff] at hpr
    go_enter Try.func15, Try.ntmps15
    go_wp2_with (first | (go_at_call 19; (with_reducible refine (hpr).mono ?_); rintro e w1 ⟨rfl, hb1⟩))
    refine bodyPost_ret (v := .tuple #[.slice none 0 0, .int .i64 1]) (by simp [results, Try.results15, go_sem] <;> rfl) rfl ⟨.inr ⟨hff, rfl⟩, hb1⟩
end Go.Proofs.Ythajbeooemngpaa
