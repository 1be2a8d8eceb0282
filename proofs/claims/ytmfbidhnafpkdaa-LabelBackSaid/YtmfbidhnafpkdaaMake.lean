import Derived.Test.YtmfbidhnafpkdaaStb
import Derived.Test.YtmfbidhnafpkdaaRt
/-! The set of labels, as far as the merge is right. -/
namespace Go.Proofs.Ytmfbidhnafpkdaa
open Go.RowKit
set_option linter.unusedVariables false
set_option linter.unusedSimpArgs false
theorem nilins_any (w : World) : Calls Try.prog 51 #[.slice none 0 0, .int .i64 0, .int .i64 0, .func (.func 36) #[] #[]] w fun e w' => e = .returned (.tuple #[]) ∧ Below w.heap.size w w' := by
  go_enter Try.func51, Try.ntmps51
  go_wp2
  go_loopw [8] (fun s8 wr => s8 = .int .i64 1 ∧ wr = w) (fun s8 _ => 0)
  case atStart => exact ⟨rfl, rfl⟩
  case round =>
    obtain ⟨rfl, rfl⟩ := hrel
    go_wp2
    refine bodyPost_end (v := .tuple #[]) (by simp [results, Try.results51, go_sem] <;> rfl) rfl ⟨rfl, ?_⟩
    exact Below.refl _ _
theorem nilstb_any (w : World) : Calls Try.prog 45 #[.slice none 0 0, .int .i64 0, .func (.func 36) #[] #[]] w fun e w' => e = .returned (.tuple #[]) ∧ Below w.heap.size w w' := by
  go_enter Try.func45, Try.ntmps45
  go_wp2
  go_loopw [7, 8] (fun s7 s8 wr => s7 = .int .i64 0 ∧ s8 = .int .i64 20 ∧ wr = w) (fun _ _ _ => 0)
  case atStart => exact ⟨rfl, rfl, rfl⟩
  case round =>
    obtain ⟨rfl, rfl, rfl⟩ := hrel
    go_wp2_with (go_at_call 51; (with_reducible refine (nilins_any _).mono ?_); rintro e w1 ⟨rfl, hb1⟩)
    go_loopw [6] (fun s6 U => s6 = .int .i64 20 ∧ U = w1) (fun _ _ => 0)
    case atStart => exact ⟨rfl, rfl⟩
    case round =>
      obtain ⟨rfl, rfl⟩ := hrel
      go_wp2
      refine bodyPost_end (v := .tuple #[]) (by simp [results, Try.results45, go_sem] <;> rfl) rfl ⟨rfl, ?_⟩
      exact hb1
set_option maxHeartbeats 1000000 in
theorem sort_of (v : Value) (P : List Par) (w : World) (base : Nat) (h : w.ownsRow base 49 2 v P.length (psV P)) (hbase : base ≤ w.heap.size) (hn : P.length ≤ 4398046511104) (hM : 20 < P.length → ∀ g c, MergeOk g P.length c) :
    Calls Try.prog 35 #[v, .func (.func 36) #[] #[]] w
      fun e w' => e = .returned (.tuple #[]) ∧ (∃ Q, Pz w' v Q ∧ Seg 0 P.length P Q ∧ SrtS Q 0 P.length) ∧ Below base w w' := by
  rcases Row2.own h with ⟨rfl, rfl, _⟩ | ⟨g, c, rfl, hg, hc, hm, hrow⟩
  · go_enter Try.func35, Try.ntmps35
    go_wp2_with (go_at_call 45; (with_reducible refine (nilstb_any _).mono ?_); rintro e w1 ⟨rfl, hb1⟩)
    refine bodyPost_end (v := .tuple #[]) (by simp [results, Try.results35, go_sem] <;> rfl) rfl ⟨rfl, ?_⟩
    exact ⟨⟨[], Pz.nil _, Seg.refl _ _ _, SrtS.none _ (by simp)⟩, hb1.mono hbase⟩
  · have hS := stable_of g P.length c P w hrow hn (fun h20 => hM h20 g c)
    have hlg := hrow.lt
    clear hrow h
    go_enter Try.func35, Try.ntmps35
    go_wp2_with (go_at_call 45; (with_reducible refine hS.mono ?_); rintro e w1 ⟨rfl, ⟨Q, hr, hs, hS⟩, ho⟩)
    refine bodyPost_end (v := .tuple #[]) (by simp [results, Try.results35, go_sem] <;> rfl) rfl ⟨rfl, ?_⟩
    exact ⟨⟨Q, hr.pz hc hm, hs, hS⟩, ho.below hg hbase⟩
def dupAt (l : List Par) (i : Nat) : Bool := match i with
  | 0 => false
  | k + 1 => match l[k]?, l[k + 1]? with
    | some y, some x => decide (cmpB y.a x.a = 0)
    | _, _ => false
def dupT (l : List Par) (n : Nat) : Bool := (List.range n).any (dupAt l)
def dupL (l : List Par) : Bool := dupT l l.length
theorem dupT_up {l : List Par} {i : Nat} (h : dupT l i = false) (h1 : dupAt l i = false) : dupT l (i + 1) = false := by
  unfold dupT at *
  rw [List.range_succ, List.any_append, h]
  simp [h1]
theorem dupL_yes {l : List Par} {i : Nat} (hi : i < l.length) (h1 : dupAt l i = true) : dupL l = true := by
  unfold dupL dupT
  rw [List.any_eq_true]
  exact ⟨i, List.mem_range.2 hi, h1⟩
def mkE (Q : List Par) : Int := if dupL Q then 7 else if rightL Q then 0 else 40
def mkR (Q : List Par) : List Par := if dupL Q then [] else if rightL Q then Q else []
set_option maxRecDepth 100000 in
set_option maxHeartbeats 8000000 in
theorem make_of (v : Value) (l : List Par) (w : World) (h : Pz w v l) (hok : ∀ x ∈ l, x.ok) (hn : l.length * 32 ≤ 140737488355328) (hM : 20 < l.length → ∀ g c, MergeOk g l.length c) :
    Calls Try.prog 16 #[v] w fun e w' => (∃ Q u, Q.Perm l ∧ SrtS Q 0 l.length ∧ e = .returned (.tuple #[u, .int .i64 (mkE Q)]) ∧ Pz w' u (mkR Q)) ∧ Below w.heap.size w w' := by
  have hC := pclone_any v l w h hn
  obtain ⟨A, c, rfl⟩ := h.shape
  obtain ⟨q, hq⟩ : ∃ q, w.heap.size = q := ⟨_, rfl⟩
  rw [hq] at hC ⊢
  clear h
  go_enter Try.func16, Try.ntmps16
  go_wp2_with (first
    | (go_at_call 34; (with_reducible refine hC.mono ?_); rintro e w1 ⟨⟨u, rfl, ho⟩, hb1⟩; have hq1 : q ≤ w1.heap.size := (by rw [← hq]; exact hb1.size))
    | (go_at_call 35; (with_reducible refine (sort_of _ l w1 q ho hq1 (by omega) hM).mono ?_); rintro e w2 ⟨rfl, ⟨Q, hp, hsg, hsrt⟩, hb2⟩; obtain ⟨A2, c2, rfl⟩ := hp.shape))
  have hb := hb1.trans hb2
  have hok2 : ∀ x ∈ Q, x.ok := fun x hx => hok x (hsg.perm.mem_iff.1 hx)
  have hHH := hide (⟨hsg.perm, hsrt⟩ : _ ∧ _)
  have hlQ : Q.length ≤ 4398046511104 := by have := hsg.len; omega
  clear hb1 hb2 hC hM ho hsg hsrt hok
  go_loopw [13] (fun s13 wr => ∃ i : Nat, i ≤ Q.length ∧ s13 = .int .i64 (i : Int) ∧ dupT Q i = false ∧ Pz wr (.slice A2 Q.length c2) Q ∧ Below q w wr) (fun s13 _ => ((Q.length : Int) - intOf s13).toNat)
  case atStart => exact ⟨0, by omega, rfl, rfl, hp, hb⟩
  case round =>
    clear hp hb
    obtain ⟨i, hi, rfl, hno, h1, hb⟩ := hrel
    have hqw : q ≤ wr.heap.size := by rw [← hq]; exact hb.size
    by_cases hlt : i < Q.length
    · obtain ⟨x, hx⟩ : ∃ x, Q[i]? = some x := ⟨_, List.getElem?_eq_getElem hlt⟩
      obtain ⟨b, o, rfl, hbb, m0, m1⟩ := h1.at_ hx
      have hii : (i : Int) < Q.length := by omega
      rcases Nat.eq_zero_or_pos i with hi0 | hi0
      · have hd1 : dupAt Q i = false := by subst hi0; rfl
        have d0 : decide (0 < i) = false := decide_eq_false (by omega)
        clear hi0
        have HN := hide (dupT_up hno hd1)
        have H := hide (⟨h1, hx⟩ : _ ∧ _)
        clear h1 hx hno hd1
        go_wp2
        refine wp_region_ext_lit (by kernel_rfl) (by kernel_rfl) ?_
        (repeat (first | ((with_reducible refine wpQuiet_step (fun K hK => ?_)); go_simp; first | ((with_reducible refine hK _ ?_); clear hK K) | (apply Exists.intro; (with_reducible refine ⟨fun _ => ?_, hK _ ?_⟩); fail; clear hK K)) | ((with_reducible refine quiet_skipN ?_ (fun K hK => ?_)); (rfl); go_simp; (with_reducible refine hK _ ?_); clear hK K)))
        (with_reducible refine wpQuiet_nil ?_); intro _ hw'; obtain ⟨X, hw''⟩ := hw'; subst hw''
        go_wp2
        go_roundw
        case rel => exact ⟨_, Nat.succ_le_of_lt hlt, by go_num, HN.out, H.out.1.below (by (repeat' (first | with_reducible exact Below.refl _ _ | with_reducible refine Below.ext ?_ ?_ _ | with_reducible refine Below.alloc ?_ ?_ _ | with_reducible refine Below.setCell ?_ ?_ _ | with_reducible refine Below.drew ?_ | with_reducible assumption | (simp [World.size_ext]; done) | (simp [World.size_ext]; omega)))), hb.trans ((by (repeat' (first | with_reducible exact Below.refl _ _ | with_reducible refine Below.ext ?_ ?_ _ | with_reducible refine Below.alloc ?_ ?_ _ | with_reducible refine Below.setCell ?_ ?_ _ | with_reducible refine Below.drew ?_ | with_reducible assumption | (simp [World.size_ext]; done) | (simp [World.size_ext]; omega))) : Below wr.heap.size wr _).mono hqw)⟩
        case measure => simp [intOf]; omega
      · obtain ⟨k, hik⟩ : ∃ k, i = k + 1 := ⟨i - 1, by omega⟩
        obtain ⟨y, hy⟩ : ∃ y, Q[k]? = some y := ⟨_, List.getElem?_eq_getElem (by omega)⟩
        obtain ⟨_, n0, n1⟩ := h1.get hy
        have hO : dupAt Q i = decide (cmpB y.a x.a = 0) := by
          subst hik
          simp only [dupAt, hx, hy]
        have hsub : (i : Int) - 1 = (k : Int) := by omega
        have hkn' : (k : Int) < Q.length := by omega
        have d0 : decide (0 < i) = true := decide_eq_true (by omega)
        have hwk : IntKind.i64.wrap (k : Int) = (k : Int) := by rw [IntKind.wrap_i64]; omega
        have hls := cmpB_eq y.a x.a
        clear hy hik hi0
        by_cases hc : cmpB y.a x.a = 0
        · rw [decide_eq_true hc] at hls hO
          have hD := hide (dupL_yes hlt hO)
          clear hO hc h1 hx hno
          go_wp2
          refine wp_region_ext_lit (by kernel_rfl) (by kernel_rfl) ?_
          (repeat (first | ((with_reducible refine wpQuiet_step (fun K hK => ?_)); go_simp; first | ((with_reducible refine hK _ ?_); clear hK K) | (apply Exists.intro; (with_reducible refine ⟨fun _ => ?_, hK _ ?_⟩); fail; clear hK K)) | ((with_reducible refine quiet_skipN ?_ (fun K hK => ?_)); (rfl); go_simp; (with_reducible refine hK _ ?_); clear hK K)))
          (with_reducible refine wpQuiet_nil ?_); intro _ hw'; obtain ⟨X, hw''⟩ := hw'; subst hw''
          go_wp2
          refine bodyPost_ret (v := .tuple #[.slice none 0 0, .int .i64 7]) (by simp [results, Try.results16, go_sem] <;> rfl) rfl ⟨⟨Q, .slice none 0 0, hHH.out.1, hHH.out.2, ?_, ?_⟩, hb.trans ((by (repeat' (first | with_reducible exact Below.refl _ _ | with_reducible refine Below.ext ?_ ?_ _ | with_reducible refine Below.alloc ?_ ?_ _ | with_reducible refine Below.setCell ?_ ?_ _ | with_reducible refine Below.drew ?_ | with_reducible assumption | (simp [World.size_ext]; done) | (simp [World.size_ext]; omega))) : Below wr.heap.size wr _).mono hqw)⟩
          · rw [mkE, if_pos hD.out]
          · rw [mkR, if_pos hD.out]; exact Pz.nil _
        · rw [decide_eq_false hc] at hls hO
          have hd1 : dupAt Q i = false := hO
          clear hO hc
          have HN := hide (dupT_up hno hd1)
          have H := hide (⟨h1, hx⟩ : _ ∧ _)
          clear h1 hx hno hd1
          go_wp2
          refine wp_region_ext_lit (by kernel_rfl) (by kernel_rfl) ?_
          (repeat (first | ((with_reducible refine wpQuiet_step (fun K hK => ?_)); go_simp; first | ((with_reducible refine hK _ ?_); clear hK K) | (apply Exists.intro; (with_reducible refine ⟨fun _ => ?_, hK _ ?_⟩); fail; clear hK K)) | ((with_reducible refine quiet_skipN ?_ (fun K hK => ?_)); (rfl); go_simp; (with_reducible refine hK _ ?_); clear hK K)))
          (with_reducible refine wpQuiet_nil ?_); intro _ hw'; obtain ⟨X, hw''⟩ := hw'; subst hw''
          go_wp2
          go_roundw
          case rel => exact ⟨_, Nat.succ_le_of_lt hlt, by go_num, HN.out, H.out.1.below (by (repeat' (first | with_reducible exact Below.refl _ _ | with_reducible refine Below.ext ?_ ?_ _ | with_reducible refine Below.alloc ?_ ?_ _ | with_reducible refine Below.setCell ?_ ?_ _ | with_reducible refine Below.drew ?_ | with_reducible assumption | (simp [World.size_ext]; done) | (simp [World.size_ext]; omega)))), hb.trans ((by (repeat' (first | with_reducible exact Below.refl _ _ | with_reducible refine Below.ext ?_ ?_ _ | with_reducible refine Below.alloc ?_ ?_ _ | with_reducible refine Below.setCell ?_ ?_ _ | with_reducible refine Below.drew ?_ | with_reducible assumption | (simp [World.size_ext]; done) | (simp [World.size_ext]; omega))) : Below wr.heap.size wr _).mono hqw)⟩
          case measure => simp [intOf]; omega
    · obtain rfl : i = Q.length := by omega
      have hD := hide (show dupL Q = false from hno)
      have hR := pright_any _ Q wr h1 hok2
      cases hr : rightL Q with
      | true =>
        rw [hr] at hR
        have hr' := hide hr
        have h1' := hide h1
        clear h1 hno hok2 hr
        go_wp2_with (go_at_call 20; (with_reducible refine hR.mono ?_); rintro e w3 ⟨rfl, hb3⟩)
        refine bodyPost_ret (v := .tuple #[.slice A2 Q.length c2, .int .i64 0]) (by simp [results, Try.results16, go_sem] <;> rfl) rfl ⟨⟨Q, .slice A2 Q.length c2, hHH.out.1, hHH.out.2, ?_, ?_⟩, hb.trans (hb3.mono hqw)⟩
        · rw [mkE, if_neg (by rw [hD.out]; simp), if_pos hr'.out]
        · rw [mkR, if_neg (by rw [hD.out]; simp), if_pos hr'.out]; exact h1'.out.below hb3
      | false =>
        rw [hr] at hR
        have hr' := hide hr
        have h1' := hide h1
        clear h1 hno hok2 hr
        go_wp2_with (go_at_call 20; (with_reducible refine hR.mono ?_); rintro e w3 ⟨rfl, hb3⟩)
        refine bodyPost_ret (v := .tuple #[.slice none 0 0, .int .i64 40]) (by simp [results, Try.results16, go_sem] <;> rfl) rfl ⟨⟨Q, .slice none 0 0, hHH.out.1, hHH.out.2, ?_, ?_⟩, hb.trans (hb3.mono hqw)⟩
        · rw [mkE, if_neg (by rw [hD.out]; simp), if_neg (by rw [hr'.out]; simp)]
        · rw [mkR, if_neg (by rw [hD.out]; simp), if_neg (by rw [hr'.out]; simp)]; exact Pz.nil _
end Go.Proofs.Ytmfbidhnafpkdaa
