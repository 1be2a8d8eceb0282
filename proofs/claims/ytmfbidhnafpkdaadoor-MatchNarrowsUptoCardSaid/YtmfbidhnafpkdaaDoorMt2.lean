import Derived.Test.YtmfbidhnafpkdaaDoorMt
/-! The document's: rules as a text. -/
namespace Go.Proofs.YtmfbidhnafpkdaaDoor
open Go.RowKit
set_option linter.unusedVariables false
set_option linter.unusedSimpArgs false
set_option maxRecDepth 100000 in
theorem rsignO_any (op : Int) (w : World) :
    Calls Tryd.prog 34 #[.int .i64 op] w fun e w' => e = .returned (.string (sgO op)) ∧ w' = w := by
  by_cases h : 1 ≤ op ∧ op ≤ 4
  · have e : sgO op = sgT op.toNat := if_pos h
    have e2 : op = ((op.toNat : Nat) : Int) := by omega
    rw [e]
    conv => arg 3; rw [e2]
    exact rsign_any op.toNat (by omega) w
  · have e : sgO op = ⟨#[]⟩ := if_neg h
    rw [e]
    have h1 : (op == 1) = false := by simp; omega
    have h2 : (op == 2) = false := by simp; omega
    have h3 : (op == 3) = false := by simp; omega
    have h4 : (op == 4) = false := by simp; omega
    clear h e
    go_enter Tryd.func34, Tryd.ntmps34
    go_wp2
    go_ret
    exact ⟨rfl, rfl⟩
theorem rsignO_b (op : Int) (w : World) : Calls Tryd.prog 34 #[.int .i64 op] w fun e w' => e = .returned (.string (sgO op)) ∧ Below w.heap.size w w' :=
  (rsignO_any op w).mono fun e w' h => ⟨h.1, by rw [h.2]; exact Below.refl _ _⟩
theorem ba_app (a b : ByteArray) : a ++ b = ⟨(a.data.toList ++ b.data.toList).toArray⟩ := by
  apply ByteArray.ext
  apply Array.toList_inj.1
  simp
theorem rt_one (jb : List UInt8) (x : Rul) : (⟨(123 :: jb).toArray⟩ : ByteArray) ++ x.a ++ sgO x.op ++ ⟨(qL x.b.data.toList).toArray⟩ = ⟨(123 :: (jb ++ rulB x)).toArray⟩ := by
  rw [ba_app, ba_app, ba_app]
  simp [rulB]
theorem rt_com (jb : List UInt8) : (⟨(123 :: jb).toArray⟩ : ByteArray) ++ (⟨#[44]⟩ : ByteArray) = ⟨(123 :: (jb ++ [44])).toArray⟩ := by
  rw [ba_app]
  simp
theorem rt_end (l : List Rul) : (⟨(123 :: rj l).toArray⟩ : ByteArray) ++ (⟨#[125]⟩ : ByteArray) = rtB l := by
  rw [ba_app]
  simp [rtB]
theorem rt_size (jb : List UInt8) : (⟨(123 :: jb).toArray⟩ : ByteArray).size = jb.length + 1 := by
  rw [Lib.size_eq]; simp
set_option maxRecDepth 100000 in
set_option maxHeartbeats 8000000 in
theorem rrtext_any (v : Value) (l : List Rul) (w : World) (h : Rz w v l) (hsh : ShortR l) :
    Calls Tryd.prog 20 #[v] w fun e w' => e = .returned (.string (rtB l)) ∧ Below w.heap.size w w' := by
  obtain ⟨A, c, rfl⟩ := h.shape
  have hn1 := h.n.2
  obtain ⟨q, hq⟩ : ∃ q, w.heap.size = q := ⟨_, rfl⟩
  have hB : Below q w w := by rw [← hq]; exact Below.refl _ _
  have hall := hsh.all
  rw [hq]
  go_enter Tryd.func20, Tryd.ntmps20
  go_wp2
  go_loopw [3, 4] (fun s3 s4 wr => ∃ (i : Nat) (s : ByteArray), i ≤ l.length ∧ s4 = .int .i64 (i : Int) ∧ s3 = .string s ∧ s = ⟨(123 :: rj (l.take i)).toArray⟩ ∧ Below q w wr) (fun _ s4 _ => ((l.length : Int) - intOf s4).toNat)
  case atStart => exact ⟨0, _, by omega, rfl, rfl, by simp [rj], hB⟩
  case round =>
    clear hB
    obtain ⟨i, s, hi, rfl, rfl, hs, hbel⟩ := hrel
    have hszw : q ≤ wr.heap.size := by rw [← hq]; exact hbel.size
    have hjl := rj_take_len l i
    have hss : s.size = (rj (l.take i)).length + 1 := by rw [hs, rt_size]
    by_cases hlt : i < l.length
    · obtain ⟨x, hx⟩ : ∃ x, l[i]? = some x := ⟨_, List.getElem?_eq_getElem hlt⟩
      have hlw := h.below (by rw [hq]; exact hbel)
      obtain ⟨b, o, rfl, hbb, m0, m1, m2⟩ := hlw.at_ hx
      have hii : (i : Int) < l.length := by omega
      have hQ := fun w => rquote_any x.b (hsh.each x (List.mem_of_getElem? hx)) w
      have hS := fun w => rsignO_b x.op w
      have hsl := sgO_len x.op
      have hsz := Lib.size_eq (sgO x.op)
      have hrl : (rulB x).length = x.a.size + (sgO x.op).size + (qL x.b.data.toList).length := by
        have := Lib.size_eq x.a
        simp only [rulB, List.length_append]
        omega
      have hjl1 := rj_take_len l (i + 1)
      rcases Nat.eq_zero_or_pos i with hi0 | hi0
      · have d0 : decide (0 < i) = false := decide_eq_false (by omega)
        have e0 : rj (l.take (i + 1)) = rulB x := by subst hi0; exact rj_one hx
        have e1 : s ++ x.a ++ sgO x.op ++ ⟨(qL x.b.data.toList).toArray⟩ = ⟨(123 :: rj (l.take (i + 1))).toArray⟩ := by
          rw [hs, rt_one, e0]
          subst hi0
          simp [rj]
        have hfl := congrArg List.length e0
        have hs1 : s.size = 1 := by rw [hss]; subst hi0; rfl
        have g1 : ¬ (9223372036854775807 < s.size + x.a.size) := by omega
        have g2 : ¬ (9223372036854775807 < s.size + x.a.size + (sgO x.op).size) := by omega
        have g3 : ¬ (9223372036854775807 < s.size + x.a.size + (sgO x.op).size + (qL x.b.data.toList).length) := by omega
        have H := hide e1
        generalize qL x.b.data.toList = qq at *
        generalize sgO x.op = sg at *
        clear e1 e0 hfl hs1 hs hss hjl hx hlw hi0 hsl hsz hrl hjl1
        go_wp2
        refine wp_region_ext_lit (by kernel_rfl) (by kernel_rfl) ?_
        (repeat (first | ((with_reducible refine wpQuiet_step (fun K hK => ?_)); go_simp; first | ((with_reducible refine hK _ ?_); clear hK K) | (apply Exists.intro; (with_reducible refine ⟨fun _ => ?_, hK _ ?_⟩); first | (go_at_call 40; exact Calls.ext_of (hQ _)) | (go_at_call 34; exact Calls.ext_of (hS _)); clear hK K)) | ((with_reducible refine quiet_skipN ?_ (fun K hK => ?_)); (rfl); go_simp; (with_reducible refine hK _ ?_); clear hK K)))
        (with_reducible refine wpQuiet_nil ?_); intro _ hw'; obtain ⟨X, hw''⟩ := hw'; subst hw''
        go_wp2
        go_roundw
        case rel => exact ⟨i + 1, _, by omega, by go_num, rfl, H.out, hbel.trans ((World.below_ext _ X).mono hszw)⟩
        case measure => first | (simp [intOf]; done) | (simp [intOf]; omega)
      · have d0 : decide (0 < i) = true := decide_eq_true hi0
        have e0 : rj (l.take (i + 1)) = rj (l.take i) ++ 44 :: rulB x := rj_succ hx hi0
        have e1 : s ++ (⟨#[44]⟩ : ByteArray) ++ x.a ++ sgO x.op ++ ⟨(qL x.b.data.toList).toArray⟩ = ⟨(123 :: rj (l.take (i + 1))).toArray⟩ := by
          rw [hs, rt_com, rt_one, e0]
          simp
        have hfl := congrArg List.length e0
        simp only [List.length_append, List.length_cons] at hfl
        have g0 : ¬ (9223372036854775807 < s.size + 1) := by omega
        have g1 : ¬ (9223372036854775807 < s.size + 1 + x.a.size) := by omega
        have g2 : ¬ (9223372036854775807 < s.size + 1 + x.a.size + (sgO x.op).size) := by omega
        have g3 : ¬ (9223372036854775807 < s.size + 1 + x.a.size + (sgO x.op).size + (qL x.b.data.toList).length) := by omega
        have H := hide e1
        generalize qL x.b.data.toList = qq at *
        generalize sgO x.op = sg at *
        clear e1 e0 hfl hs hss hjl hx hlw hi0 hsl hsz hrl hjl1
        go_wp2
        refine wp_region_ext_lit (by kernel_rfl) (by kernel_rfl) ?_
        (repeat (first | ((with_reducible refine wpQuiet_step (fun K hK => ?_)); go_simp; first | ((with_reducible refine hK _ ?_); clear hK K) | (apply Exists.intro; (with_reducible refine ⟨fun _ => ?_, hK _ ?_⟩); first | (go_at_call 40; exact Calls.ext_of (hQ _)) | (go_at_call 34; exact Calls.ext_of (hS _)); clear hK K)) | ((with_reducible refine quiet_skipN ?_ (fun K hK => ?_)); (rfl); go_simp; (with_reducible refine hK _ ?_); clear hK K)))
        (with_reducible refine wpQuiet_nil ?_); intro _ hw'; obtain ⟨X, hw''⟩ := hw'; subst hw''
        go_wp2
        go_roundw
        case rel => exact ⟨i + 1, _, by omega, by go_num, rfl, H.out, hbel.trans ((World.below_ext _ X).mono hszw)⟩
        case measure => first | (simp [intOf]; done) | (simp [intOf]; omega)
    · obtain rfl : i = l.length := by omega
      rw [List.take_length] at hs hss
      have e1 : s ++ (⟨#[125]⟩ : ByteArray) = rtB l := by rw [hs, rt_end]
      have g1 : ¬ (9223372036854775807 < s.size + 1) := by omega
      have H := hide e1
      clear e1 hs hss hjl h
      go_wp2
      go_ret
      exact ⟨by rw [← H.out]; rfl, hbel⟩
end Go.Proofs.YtmfbidhnafpkdaaDoor
