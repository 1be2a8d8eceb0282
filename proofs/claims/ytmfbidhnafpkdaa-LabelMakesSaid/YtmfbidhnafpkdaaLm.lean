import Derived.Test.YtmfbidhnafpkdaaRs
import Derived.Test.YtmfbidhnafpkdaaLo
import Derived.Test.YtmfbidhnafpkdaaMrg
/-! LabelMakes: the set of any labels, or why there is none, and each label's value, are the document's; what is handed in stays. Of any labels, and any name. -/
namespace Go.Proofs.Ytmfbidhnafpkdaa
open Go.RowKit
set_option linter.unusedVariables false
set_option linter.unusedSimpArgs false
theorem pmake_any (v : Value) (l : List Par) (w : World) (h : Pz w v l) (hok : ∀ x ∈ l, x.ok) (hn : l.length * 32 ≤ 140737488355328) :
    Calls Try.prog 16 #[v] w fun e w' => (∃ Q u, Q.Perm l ∧ SrtS Q 0 l.length ∧ e = .returned (.tuple #[u, .int .i64 (mkE Q)]) ∧ Pz w' u (mkR Q)) ∧ Below w.heap.size w w' :=
  make_of v l w h hok hn (fun _ g c => mergeOk g l.length c (by omega))
theorem mkR_len (Q : List Par) : (mkR Q).length ≤ Q.length := by
  unfold mkR
  (repeat' split) <;> simp
set_option maxRecDepth 100000 in
set_option maxHeartbeats 8000000 in
theorem rmake_any (v : Value) (l : List Par) (w : World) (h : Pz w v l) (hok : ∀ x ∈ l, x.ok) (hn : l.length * 32 ≤ 140737488355328) :
    Calls Try.prog 17 #[v] w fun e w' => (∃ Q u, Q.Perm l ∧ SrtS Q 0 Q.length ∧ e = .returned (.tuple #[u, .int .i64 (mkE Q)]) ∧ Pz w' u (mkR Q)) ∧ Below w.heap.size w w' := by
  have hC := rsorted_any v l w h hn
  obtain ⟨A, c, rfl⟩ := h.shape
  obtain ⟨q, hq⟩ : ∃ q, w.heap.size = q := ⟨_, rfl⟩
  rw [hq] at hC ⊢
  clear h
  go_enter Try.func17, Try.ntmps17
  go_wp2_with (go_at_call 38; (with_reducible refine hC.mono ?_); rintro e w2 ⟨⟨u, Q, rfl, hp, hperm, hsrt⟩, hb⟩; obtain ⟨A2, c2, rfl⟩ := hp.shape)
  have hok2 : ∀ x ∈ Q, x.ok := fun x hx => hok x (hperm.mem_iff.1 hx)
  have hlQ : Q.length ≤ 4398046511104 := by have := hperm.length_eq; omega
  have hHH := hide (⟨hperm, hsrt⟩ : _ ∧ _)
  clear hC hperm hsrt hok
  go_loopw [5] (fun s5 wr => ∃ i : Nat, 1 ≤ i ∧ i ≤ Q.length + 1 ∧ s5 = .int .i64 (i : Int) ∧ dupT Q i = false ∧ Pz wr (.slice A2 Q.length c2) Q ∧ Below q w wr) (fun s5 _ => ((Q.length : Int) + 1 - intOf s5).toNat)
  case atStart => exact ⟨1, by omega, by omega, rfl, rfl, hp, hb⟩
  case round =>
    clear hp hb
    obtain ⟨i, hi1, hi, rfl, hno, h1, hb⟩ := hrel
    have hqw : q ≤ wr.heap.size := by rw [← hq]; exact hb.size
    by_cases hlt : i < Q.length
    · obtain ⟨x, hx⟩ : ∃ x, Q[i]? = some x := ⟨_, List.getElem?_eq_getElem hlt⟩
      obtain ⟨b, o, rfl, hbb, m0, m1⟩ := h1.at_ hx
      have hii : (i : Int) < Q.length := by omega
      obtain ⟨k, hik⟩ : ∃ k, i = k + 1 := ⟨i - 1, by omega⟩
      obtain ⟨y, hy⟩ : ∃ y, Q[k]? = some y := ⟨_, List.getElem?_eq_getElem (by omega)⟩
      obtain ⟨_, n0, n1⟩ := h1.get hy
      have hO : dupAt Q i = decide (cmpB x.a y.a = 0) := by
        have hsw := cmpB_cmp.swap x.a y.a
        subst hik
        simp only [dupAt, hx, hy]
        rw [Bool.eq_iff_iff]
        simp only [decide_eq_true_eq]
        omega
      have hsub : (i : Int) - 1 = (k : Int) := by omega
      have hkn' : (k : Int) < Q.length := by omega
      have hwk : IntKind.i64.wrap (k : Int) = (k : Int) := by rw [IntKind.wrap_i64]; omega
      have hls := cmpB_eq x.a y.a
      clear hy hx hik
      by_cases hc : cmpB x.a y.a = 0
      · rw [decide_eq_true hc] at hls hO
        have hD := hide (dupL_yes hlt hO)
        clear hO hc h1 hno
        go_wp2
        refine wp_region_ext_lit (by kernel_rfl) (by kernel_rfl) ?_
        (repeat (first | ((with_reducible refine wpQuiet_step (fun K hK => ?_)); go_simp; first | ((with_reducible refine hK _ ?_); clear hK K) | (apply Exists.intro; (with_reducible refine ⟨fun _ => ?_, hK _ ?_⟩); fail; clear hK K)) | ((with_reducible refine quiet_skipN ?_ (fun K hK => ?_)); (rfl); go_simp; (with_reducible refine hK _ ?_); clear hK K)))
        (with_reducible refine wpQuiet_nil ?_); intro _ hw'; obtain ⟨X, hw''⟩ := hw'; subst hw''
        go_wp2
        refine bodyPost_ret (v := .tuple #[.slice none 0 0, .int .i64 7]) (by simp [results, Try.results17, go_sem] <;> rfl) rfl ⟨⟨Q, .slice none 0 0, hHH.out.1, hHH.out.2, ?_, ?_⟩, hb.trans ((by (repeat' (first | with_reducible exact Below.refl _ _ | with_reducible refine Below.ext ?_ ?_ _ | with_reducible refine Below.alloc ?_ ?_ _ | with_reducible refine Below.setCell ?_ ?_ _ | with_reducible refine Below.drew ?_ | with_reducible assumption | (simp [World.size_ext]; done) | (simp [World.size_ext]; omega))) : Below _ _ _).mono hqw)⟩
        · rw [mkE, if_pos hD.out]
        · rw [mkR, if_pos hD.out]; exact Pz.nil _
      · rw [decide_eq_false hc] at hls hO
        have hd1 : dupAt Q i = false := hO
        clear hO hc
        have HN := hide (dupT_up hno hd1)
        have H := hide h1
        clear h1 hno hd1
        go_wp2
        refine wp_region_ext_lit (by kernel_rfl) (by kernel_rfl) ?_
        (repeat (first | ((with_reducible refine wpQuiet_step (fun K hK => ?_)); go_simp; first | ((with_reducible refine hK _ ?_); clear hK K) | (apply Exists.intro; (with_reducible refine ⟨fun _ => ?_, hK _ ?_⟩); fail; clear hK K)) | ((with_reducible refine quiet_skipN ?_ (fun K hK => ?_)); (rfl); go_simp; (with_reducible refine hK _ ?_); clear hK K)))
        (with_reducible refine wpQuiet_nil ?_); intro _ hw'; obtain ⟨X, hw''⟩ := hw'; subst hw''
        go_wp2
        go_roundw
        case rel => exact ⟨i + 1, by omega, by omega, by go_num, HN.out, H.out.below (by (repeat' (first | with_reducible exact Below.refl _ _ | with_reducible refine Below.ext ?_ ?_ _ | with_reducible refine Below.alloc ?_ ?_ _ | with_reducible refine Below.setCell ?_ ?_ _ | with_reducible refine Below.drew ?_ | with_reducible assumption | (simp [World.size_ext]; done) | (simp [World.size_ext]; omega)))), hb.trans ((by (repeat' (first | with_reducible exact Below.refl _ _ | with_reducible refine Below.ext ?_ ?_ _ | with_reducible refine Below.alloc ?_ ?_ _ | with_reducible refine Below.setCell ?_ ?_ _ | with_reducible refine Below.drew ?_ | with_reducible assumption | (simp [World.size_ext]; done) | (simp [World.size_ext]; omega))) : Below _ _ _).mono hqw)⟩
        case measure => simp [intOf]; omega
    · have hD : dupL Q = false := by
        unfold dupL
        rcases Nat.lt_or_ge Q.length i with h' | h'
        · have : i = Q.length + 1 := by omega
          subst this
          unfold dupT at *
          rw [List.range_succ, List.any_append] at hno
          simp only [Bool.or_eq_false_iff] at hno
          exact hno.1
        · obtain rfl : i = Q.length := by omega
          exact hno
      have hii : ¬ ((i : Int) < Q.length) := by omega
      have hD := hide hD
      have hR := rright_any _ Q wr h1 hok2
      cases hr : rightL Q with
      | true =>
        rw [hr] at hR
        have hr' := hide hr
        have h1' := hide h1
        clear h1 hno hok2 hr
        go_wp2_with (go_at_call 21; (with_reducible refine hR.mono ?_); rintro e w3 ⟨rfl, hb3⟩)
        refine bodyPost_ret (v := .tuple #[.slice A2 Q.length c2, .int .i64 0]) (by simp [results, Try.results17, go_sem] <;> rfl) rfl ⟨⟨Q, .slice A2 Q.length c2, hHH.out.1, hHH.out.2, ?_, ?_⟩, hb.trans (hb3.mono hqw)⟩
        · rw [mkE, if_neg (by rw [hD.out]; simp), if_pos hr'.out]
        · rw [mkR, if_neg (by rw [hD.out]; simp), if_pos hr'.out]; exact h1'.out.below hb3
      | false =>
        rw [hr] at hR
        have hr' := hide hr
        have h1' := hide h1
        clear h1 hno hok2 hr
        go_wp2_with (go_at_call 21; (with_reducible refine hR.mono ?_); rintro e w3 ⟨rfl, hb3⟩)
        refine bodyPost_ret (v := .tuple #[.slice none 0 0, .int .i64 40]) (by simp [results, Try.results17, go_sem] <;> rfl) rfl ⟨⟨Q, .slice none 0 0, hHH.out.1, hHH.out.2, ?_, ?_⟩, hb.trans (hb3.mono hqw)⟩
        · rw [mkE, if_neg (by rw [hD.out]; simp), if_neg (by rw [hr'.out]; simp)]
        · rw [mkR, if_neg (by rw [hD.out]; simp), if_neg (by rw [hr'.out]; simp)]; exact Pz.nil _
set_option maxRecDepth 100000 in
set_option maxHeartbeats 16000000 in
theorem law_makes (AL : Option Addr) (cL : Nat) (l : List Par) (nm : ByteArray) (w : World) (ha : Pz w (.slice AL l.length cL) l) (hok : ∀ x ∈ l, x.ok) (hn : l.length * 32 ≤ 140737488355328) :
    Calls Try.prog 4 #[.slice AL l.length cL, .string nm] w fun e w' => e = .returned (.bool true) ∧ Below w.heap.size w w' := by
  have ht := lto_any _ l w ha hn
  generalize hrl : rightL l = rl
  generalize hgl : getL l nm = gl
  have hrl := hide hrl
  have hgl := hide hgl
  go_enter Try.func4, Try.ntmps4
  go_wp2_with (first
    | (go_at_call 15; (with_reducible refine ht.mono ?_); rintro e w1 ⟨⟨u1, rfl, ho1⟩, hb1⟩; have hx1 := Pz.own ho1; obtain ⟨B1, d1, rfl⟩ := hx1.shape; have hm1 := pmake_any _ l w1 hx1 hok hn)
    | (go_at_call 16; (with_reducible refine hm1.mono ?_); rintro e w2 ⟨⟨Q, xv, hpQ, hsQ, rfl, hX⟩, hb2⟩; have hb02 := hb1.trans (hb2.mono hb1.size); have ht2 := rmake_any _ l w2 (ha.below hb02) hok hn; obtain ⟨AX, cX, rfl⟩ := hX.shape; have hx2 := hx1.below hb2)
    | (go_at_call 17; (with_reducible refine ht2.mono ?_); rintro e w3 ⟨⟨R, yv, hpR, hsR, rfl, hY⟩, hb3⟩; obtain ⟨hE2, hX2⟩ := mk_same (hpQ.trans hpR.symm) (by rw [hpQ.length_eq]; exact hsQ) hsR; rw [← hE2]; rw [← hX2] at hY; obtain ⟨AY, cY, rfl⟩ := hY.shape; have hml : (mkR Q).length ≤ l.length := (by have h1 := mkR_len Q; have h2 := hpQ.length_eq; omega); have hX3 := hX.below hb3; have hx3 := hx2.below hb3; have hb03 := hb02.trans (hb3.mono hb02.size); clear hE2 hX2 hpR hsR hpQ hsQ; generalize mkE Q = E at *; generalize mkR Q = XX at *)
    | (go_at_call 10; (with_reducible refine (lawake_any _).mono ?_); rintro e w4 ⟨rfl, hb4⟩; have hX4 := hX3.below hb4; have hx4 := hx3.below hb4; have hY4 := hY.below hb4; have hb04 := hb03.trans (hb4.mono hb03.size); have hf1 := lfrom_any _ XX w4 hX4 (by omega))
    | (go_at_call 19; (with_reducible refine hf1.mono ?_); rintro e w5 ⟨⟨u5, rfl, ho5⟩, hb5⟩; have hz5 := Pz.own ho5; obtain ⟨B5, d5, rfl⟩ := hz5.shape; have hb05 := hb04.trans (hb5.mono hb04.size); have hs1 := rsame_any _ _ XX XX w5 hz5 (hY4.below hb5); rw [decide_eq_true rfl] at hs1; have hx5 := hx4.below hb5)
    | (go_at_call 18; (with_reducible refine hs1.mono ?_); rintro e w6 ⟨rfl, hb6⟩; have hb06 := hb05.trans (hb6.mono hb05.size); have hx6 := hx5.below hb6; have hf2 := lfrom_any _ l w6 hx6 hn)
    | (go_at_call 19; (with_reducible refine hf2.mono ?_); rintro e w7 ⟨⟨u7, rfl, ho7⟩, hb7⟩; have hz7 := Pz.own ho7; obtain ⟨B7, d7, rfl⟩ := hz7.shape; have hb07 := hb06.trans (hb7.mono hb06.size); have hs2 := rsame_any _ _ l l w7 hz7 (ha.below hb07); rw [decide_eq_true rfl] at hs2; have hx7 := hx6.below hb7)
    | (go_at_call 18; (with_reducible refine hs2.mono ?_); rintro e w8 ⟨rfl, hb8⟩; have hb08 := hb07.trans (hb8.mono hb07.size); have hx8 := hx7.below hb8; have hp8 := pright_any _ l w8 hx8 hok; rw [hrl.out] at hp8)
    | (go_at_call 20; (with_reducible refine hp8.mono ?_); rintro e w9 ⟨rfl, hb9⟩; have hb09 := hb08.trans (hb9.mono hb08.size); have hx9 := hx8.below hb9; have hp9 := rright_any _ l w9 (ha.below hb09) hok; rw [hrl.out] at hp9)
    | (go_at_call 21; (with_reducible refine hp9.mono ?_); rintro e w10 ⟨rfl, hb10⟩; have hb010 := hb09.trans (hb10.mono hb09.size); have hx10 := hx9.below hb10; have hg10 := pget_any _ l nm w10 hx10; rw [hgl.out] at hg10)
    | (go_at_call 22; (with_reducible refine hg10.mono ?_); rintro e w11 ⟨rfl, hb11⟩; have hb011 := hb010.trans (hb11.mono hb010.size); have hg11 := rget_any _ l nm w11 (ha.below hb011); rw [hgl.out] at hg11)
    | (go_at_call 23; (with_reducible refine hg11.mono ?_); rintro e w12 ⟨rfl, hb12⟩; have hb012 := hb011.trans (hb12.mono hb011.size)))
  all_goals
    go_ret
    exact ⟨rfl, hb012⟩
section
open Go.ChangeShapes Go.WideShapes Go.ChangeAt Go.Joins
variable {H : Type} {enc : TypeId × Value → H}
set_option maxRecDepth 100000 in
theorem labelMakes_walk : LawWalkS enc Try.prog 4 Try.f4 := by
  intro W base args ds ps hval hA hlt _ hs
  rw [Try.params4] at hA hval hs
  obtain ⟨v0, v1, d0, d1, p0, p1, rfl, rfl, rfl, h0, h1⟩ := trodAll_two hA
  obtain ⟨l, hl, hok, hk⟩ := pars_open (hval 0 _ v0 rfl rfl) h0
  have hb := pars_weight (weights_at hs (j := 0) rfl rfl) hk
  obtain ⟨nm, rfl, _⟩ := str_open (hval 1 _ v1 rfl rfl) h1
  obtain ⟨AL, cL, rfl⟩ := hl.shape
  exact law_makes AL cL l nm W hl hok (by omega)
set_option maxRecDepth 100000 in
theorem labelMakes_lifted (os : Os) (started : os.Started) (H : Type) (enc : TypeId × Value → H) :
    ReturnsInHanded {} Try.checked os 4 .any (Rows.labelMakesSpec.pre6 enc Try.prog Try.f4 Rows.labelMakesRow.domain false) (Rows.labelMakesSpec.post enc Try.prog Try.f4 false true false false) :=
  law_lifted_sized (C := Try.checked) own started (by kernel_rfl) Try.func4 laidOut (by kernel_rfl) rfl Try.underlying4 rfl rfl
    (fun ds h => by obtain ⟨d0, d1, rfl⟩ := list2 h; rfl)
    (ChangeSpec.witness6 (enc := enc) (C := Try.checked) false ⟨#[], #[.slice none 0 0, .string ⟨#[]⟩], []⟩ 8 (by kernel_rfl) (by kernel_rfl) (by kernel_rfl) (by kernel_rfl))
    labelMakes_walk
theorem labelMakes_holds : Rows.LabelMakesSaid :=
  OpenClaim.holds_of_wide 4 Try.f4 rfl rfl rfl rfl rfl rfl rfl ⟨rfl, rfl, rfl, rfl, rfl⟩ rfl rfl rfl rfl rfl (by kernel_rfl) Try.func4 (by kernel_rfl)
    (of_decide_eq_true (by kernel_rfl)) (by unfold Func.isWrapper; rw [if_neg (of_decide_eq_false (by kernel_rfl))]; exact ⟨rfl, rfl⟩)
    (fun os started H enc _ => labelMakes_lifted os started H enc)
#print axioms labelMakes_holds
end
end Go.Proofs.Ytmfbidhnafpkdaa
