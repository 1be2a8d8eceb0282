import Derived.Test.YtamnononemallaaGreatDoorGD
/-! The rules with which a text begins: the document's Parse. -/
namespace Go.Proofs.YtamnononemallaaGreatDoor
open Go.RowKit
set_option linter.unusedVariables false
set_option linter.unusedSimpArgs false
theorem stB_one (l : List UInt8) (n : Nat) (c : UInt8) : stB l n [c] = decide (l[n]? = some c) := by
  unfold stB
  by_cases h : n < l.length
  · have e : l.drop n = l[n] :: l.drop (n + 1) := List.drop_eq_getElem_cons h
    rw [decide_eq_true (by simp; omega), e, List.getElem?_eq_getElem h]
    rw [Bool.eq_iff_iff]
    simp [List.isPrefixOf]
    exact eq_comm
  · rw [decide_eq_false (by simp; omega), List.getElem?_eq_none (by omega)]
    simp
theorem stand1_any (s : ByteArray) (c : UInt8) (n : Nat) (k : Int) (hk : (n : Int) = k) (hn : n ≤ maxLen) (hs : s.size ≤ maxLen) (b : Bool) (hb : decide (s.data.toList[n]? = some c) = b) (w : World) :
    Calls Tryz.prog 64 #[.string s, .int .i64 k, .string ⟨#[c]⟩] w fun e w' => e = .returned (.bool b) ∧ w' = w := by
  subst hk hb
  have := stands_any s ⟨#[c]⟩ n hn hs (show (1 : Nat) ≤ maxLen from by unfold maxLen; decide) w
  rw [show (⟨#[c]⟩ : ByteArray).data.toList = [c] from rfl, stB_one] at this
  exact this
theorem sgnD_up (k : Nat) (l : List UInt8) : sgnD (k + 1) l = if (sgB (k + 1)).isPrefixOf l = true then k + 1 else sgnD k l := rfl
set_option maxRecDepth 100000 in
set_option maxHeartbeats 40000000 in
theorem rparse_main (s : ByteArray) (hs : s.size ≤ 3000000000000) (w : World) (h1 : s.data.toList[0]? = some 123) (h2 : ¬ s.data.toList[1]? = some 125) (hps : psq s.data.toList = psqO (prq (fun r => some (ltN r)) (fun o => decide (o.length ≤ 16)) s.data.toList.length (s.data.toList.drop 1) 1 [])) :
    Calls Tryz.prog 32 #[.string s] w fun e w' => (∃ u, e = .returned (.tuple #[u, .int .i64 ((psq s.data.toList).2 : Nat)]) ∧ Rz w' u (psq s.data.toList).1) ∧ Below w.heap.size w w' := by
  obtain ⟨i0, hi, hz0, hz1, hz2⟩ := info_parts infoR6
  have hsm : s.size ≤ maxLen := by unfold maxLen; omega
  have h0 : 0 < s.size := by
    rw [Lib.size_eq]
    exact (List.getElem?_eq_some_iff.1 h1).1
  have hA1 := fun w => stand1_any s 123 0 0 rfl (Nat.zero_le _) hsm true (decide_eq_true h1) w
  have hA2 := fun w => stand1_any s 125 1 1 rfl (by unfold maxLen; decide) hsm false (decide_eq_false h2) w
  rw [hps]
  obtain ⟨R, hR⟩ : ∃ R, prq (fun r => some (ltN r)) (fun o => decide (o.length ≤ 16)) s.data.toList.length (s.data.toList.drop 1) 1 [] = R := ⟨_, rfl⟩
  rw [hR]
  obtain ⟨q, hq⟩ : ∃ q, w.heap.size = q := ⟨_, rfl⟩
  clear hps h1 h2
  go_enter Tryz.func32, Tryz.ntmps32
  go_wp2_with (first | (go_at_call 64; (with_reducible refine (hA1 _).mono ?_); rintro e w ⟨rfl, rfl⟩) | (go_at_call 64; (with_reducible refine (hA2 _).mono ?_); rintro e w ⟨rfl, rfl⟩))
  clear hA1 hA2
  go_loopw [4, 5] (fun s4 s5 wr => ∃ (f at_ : Nat) (out : List Rul), 1 ≤ at_ ∧ at_ ≤ s.size ∧ out.length + 1 ≤ at_ ∧ s.size < f + at_ ∧ s5 = .int .i64 (at_ : Int) ∧
      prq (fun r => some (ltN r)) (fun o => decide (o.length ≤ 16)) f (s.data.toList.drop at_) at_ out = R ∧ (∀ x ∈ out, x.a.size ≤ s.size ∧ x.b.size ≤ s.size ∧ 0 ≤ x.op ∧ x.op ≤ 4) ∧ wr.ownsRow q 143 3 s4 out.length (rsV out) ∧ Below q w wr) (fun _ s5 _ => ((s.size : Int) - intOf s5).toNat)
  case atStart => exact ⟨s.data.toList.length, 1, [], by omega, by omega, by simp, by have := Lib.size_eq s; omega, rfl, hR, (fun x hx => by cases hx), World.ownsRow_nil _ _ _ _, by rw [← hq]; exact Below.refl _ _⟩
  case round =>
    clear hR
    obtain ⟨f, at_, out, ha1, has, hoa, hf, rfl, hR, hok, hown, hb⟩ := hrel
    have hqw : q ≤ wr.heap.size := by rw [← hq]; exact hb.size
    obtain ⟨A, c, rfl⟩ := (Rz.own hown).shape
    obtain ⟨f, rfl⟩ : ∃ f', f = f' + 1 := ⟨f - 1, by omega⟩
    rw [prq] at hR
    by_cases hl : out.length ≤ 16
    case neg =>
      rw [decide_eq_false hl, if_neg (by simp)] at hR
      subst hR
      have hli : ¬ ((out.length : Int) ≤ 16) := by omega
      clear hok hf
      go_wp2
      refine bodyPost_ret (v := .tuple #[.slice none 0 0, .int .i64 0]) (by simp [results, Tryz.results32, go_sem] <;> rfl) rfl ⟨⟨_, rfl, Rz.nil _⟩, ?_⟩
      first | exact hb | (rw [hq]; exact hb)
    rw [decide_eq_true hl, if_pos rfl] at hR
    have hli : ((out.length : Int) ≤ 16) := by omega
    have hL := fun w => letters_any s at_ has hs w
    obtain ⟨k0, hk0⟩ : ∃ k0, ltN (s.data.toList.drop at_) = k0 := ⟨_, rfl⟩
    have hkl := ltN_le (s.data.toList.drop at_)
    rw [List.length_drop, hk0] at hkl
    rw [hk0] at hL hR
    dsimp only at hR
    have hak : at_ + k0 ≤ s.size := by have := Lib.size_eq s; omega
    have hLs := hide (⟨hR, hok, hf, hoa⟩ : _ ∧ _ ∧ _ ∧ _)
    clear hkl hR hok hf hoa hl
    go_wp2_with (go_at_call 65; (with_reducible refine (hL _).mono ?_); rintro e wr ⟨rfl, rfl⟩)
    clear hL
    go_loopw [7, 8] (fun s7 s8 w5 => ∃ k : Nat, k ≤ 4 ∧ s8 = .int .i64 ((k : Int) + 1) ∧ s7 = .int .i64 (sgnD k (s.data.toList.drop (at_ + k0)) : Nat) ∧ w5 = wr) (fun _ s8 _ => ((5 : Int) - intOf s8).toNat)
    case atStart => exact ⟨0, by omega, rfl, rfl, rfl⟩
    case round =>
      obtain ⟨k, hk4, rfl, rfl, rfl⟩ := hrel
      by_cases hk : k < 4
      · have e1 : (k : Int) + 1 ≤ 4 := by omega
        have hG : ∀ w, Calls Tryz.prog 66 #[.int .i64 ((k : Int) + 1)] w fun e w' => e = .returned (.string (sgT (k + 1))) ∧ w' = w := fun w => rsign_any (k + 1) (by omega) w
        have hst := stB_occ s.data.toList (sgB (k + 1)) (at_ + k0) (by have := Lib.size_eq s; omega)
        have hD : ∀ w, Calls Tryz.prog 64 #[.string s, .int .i64 ((at_ : Int) + k0), .string (sgT (k + 1))] w fun e w' => e = .returned (.bool ((sgB (k + 1)).isPrefixOf (s.data.toList.drop (at_ + k0)))) ∧ w' = w := fun w => by
          have := stands_any s (sgT (k + 1)) (at_ + k0) (by unfold maxLen; omega) hsm (by
            rw [Lib.size_eq, sgT_list]
            have : k = 0 ∨ k = 1 ∨ k = 2 ∨ k = 3 := by omega
            rcases this with e | e | e | e <;> rw [e] <;> (unfold maxLen; decide)) w
          rw [sgT_list, hst] at this
          rw [show (at_ : Int) + k0 = ((at_ + k0 : Nat) : Int) from by omega]
          exact this
        have hup := sgnD_up k (s.data.toList.drop (at_ + k0))
        clear hst
        cases hp : (sgB (k + 1)).isPrefixOf (s.data.toList.drop (at_ + k0)) with
        | true =>
          rw [hp, if_pos rfl] at hup
          rw [hp] at hD
          have hup := hide hup
          clear hp
          go_wp2_with (first | (go_at_call 66; (with_reducible refine (hG _).mono ?_); rintro e w2 ⟨rfl, rfl⟩) | (go_at_call 64; (with_reducible refine (hD _).mono ?_); rintro e w3 ⟨rfl, rfl⟩))
          go_roundw
          case rel => exact ⟨k + 1, by omega, by go_num, by rw [hup.out]; go_num, by trivial⟩
          case measure => first | (simp [intOf]; done) | (simp [intOf]; omega)
        | false =>
          rw [hp, if_neg (by simp)] at hup
          rw [hp] at hD
          have hup := hide hup
          clear hp
          go_wp2_with (first | (go_at_call 66; (with_reducible refine (hG _).mono ?_); rintro e w2 ⟨rfl, rfl⟩) | (go_at_call 64; (with_reducible refine (hD _).mono ?_); rintro e w3 ⟨rfl, rfl⟩))
          go_roundw
          case rel => exact ⟨k + 1, by omega, by go_num, by rw [hup.out], by trivial⟩
          case measure => first | (simp [intOf]; done) | (simp [intOf]; omega)
      · obtain rfl : k = 4 := by omega
        obtain ⟨hR, hok, hf, hoa⟩ := hLs.out
        have ho4 : sgnD 4 (s.data.toList.drop (at_ + k0)) ≤ 4 := sgnD_le _ 4
        obtain ⟨o, ho⟩ : ∃ o, sgnD 4 (s.data.toList.drop (at_ + k0)) = o := ⟨_, rfl⟩
        rw [ho] at ho4 ⊢
        have e1 : ¬ ((4 : Int) + 1 ≤ 4) := by omega
        have e1' : ¬ ((5 : Int) ≤ 4) := by omega
        rcases Nat.eq_zero_or_pos o with hoz | hoz
        · subst hoz
          have hRn : R = none := by
            rw [← hR]
            unfold stq
            rw [List.drop_drop, show sgn _ = 0 from ho, if_pos rfl]
          subst hRn
          clear hLs hR hok hf hoa ho
          go_wp2
          refine bodyPost_ret (v := .tuple #[.slice none 0 0, .int .i64 0]) (by simp [results, Tryz.results32, go_sem] <;> rfl) rfl ⟨⟨_, rfl, Rz.nil _⟩, ?_⟩
          first | exact hb | (rw [hq]; exact hb)
        have hst := stq_at (T := s.data.toList) (a := at_) (i := at_ + k0) (o := o) (Nat.le_add_right _ _) (rec := prq (fun r => some (ltN r)) (fun o => decide (o.length ≤ 16)) f) (out := out) ho (by omega)
        rw [Nat.add_sub_cancel_left] at hst
        rw [hst] at hR
        clear hst
        have hgl : (sgB o).length ≤ s.size - (at_ + k0) := by
          have := sgn_len (l := s.data.toList.drop (at_ + k0)) (by rw [show sgn _ = o from ho]; omega)
          rw [show sgn _ = o from ho, List.length_drop, ← Lib.size_eq] at this
          exact this
        obtain ⟨g, hgg⟩ : ∃ g, (sgB o).length = g := ⟨_, rfl⟩
        have hgz : (sgT o).size = g := by rw [Lib.size_eq, sgT_list, hgg]
        rw [hgg] at hgl hR
        have hig : at_ + k0 + g ≤ s.size := by omega
        have hgi : (at_ : Int) + k0 + g ≤ s.size := by omega
        have hG := fun w => rsign_any o ⟨hoz, ho4⟩ w
        have hU := fun w => runq_any (s.extract (at_ + k0 + g) s.size) (by rw [ByteArray.size_extract]; omega) w
        have hex2 : (s.extract (at_ + k0 + g) s.size).data.toList = s.data.toList.drop (at_ + k0 + g) := by rw [Lib.extract_data, List.take_of_length_le (by have := Lib.size_eq s; rw [List.length_drop]; omega)]
        rw [hex2] at hU
        have hon : ((o : Int) == 0) = false := by rw [beq_eq_false_iff_ne]; omega
        cases hu : uqL (s.data.toList.drop (at_ + k0 + g)) with
        | none =>
          rw [hu] at hU hR
          dsimp only [uqT, uqN] at hU hR
          subst hR
          clear hLs hok hf hoa ho hex2 hu hgl hgg hig
          go_wp2_with (first | (go_at_call 66; (with_reducible refine (hG _).mono ?_); rintro e w2 ⟨rfl, rfl⟩) | (go_at_call 67; (with_reducible refine (hU _).mono ?_); rintro e w3 ⟨rfl, hb3⟩))
          refine bodyPost_ret (v := .tuple #[.slice none 0 0, .int .i64 0]) (by simp [results, Tryz.results32, go_sem] <;> rfl) rfl ⟨⟨_, rfl, Rz.nil _⟩, ?_⟩
          first | exact hb.trans (hb3.mono hqw) | (rw [hq]; exact hb.trans (hb3.mono hqw))
        | some p =>
          obtain ⟨v, n⟩ := p
          obtain ⟨hn1, hn2⟩ := uqL_len hu
          rw [List.length_drop] at hn1
          have hvl : v.length ≤ s.size := by
            obtain ⟨_, _, e5⟩ := uqL_inv hu
            have := qB_len1 v
            have := Lib.size_eq s
            simp only [qL, List.length_cons, List.length_append, List.length_nil] at e5
            omega
          rw [hu] at hU hR
          dsimp only [uqT, uqN] at hU hR
          obtain ⟨vv, hvv⟩ : ∃ vv, (⟨v.toArray⟩ : ByteArray) = vv := ⟨_, rfl⟩
          rw [hvv] at hU hR
          have hvz : vv.size ≤ s.size := by
            rw [← hvv]
            show v.toArray.size ≤ _
            simpa using hvl
          obtain ⟨nm, hnm⟩ : ∃ nm, s.extract at_ (at_ + k0) = nm := ⟨_, rfl⟩
          have hnd : (⟨((s.data.toList.drop at_).take k0).toArray⟩ : ByteArray) = nm := by
            have := Lib.extract_data s at_ (at_ + k0)
            rw [Nat.add_sub_cancel_left] at this
            rw [← hnm, ← this, Lib.mk_data]
          rw [hnd] at hR
          have hnz : nm.size ≤ s.size := by rw [← hnm, ByteArray.size_extract]; omega
          have hen : at_ + k0 + g + n ≤ s.size := by have := Lib.size_eq s; omega
          obtain ⟨x, hx⟩ : ∃ x : Rul, x = ⟨nm, (o : Int), vv⟩ := ⟨_, rfl⟩
          rw [← hx] at hR
          have hok' : ∀ y ∈ out ++ [x], y.a.size ≤ s.size ∧ y.b.size ≤ s.size ∧ 0 ≤ y.op ∧ y.op ≤ 4 := fun y hy => by
            rcases List.mem_append.1 hy with h | h
            · exact hok y h
            · rw [List.mem_singleton.1 h, hx]; exact ⟨hnz, hvz, by show (0 : Int) ≤ o; omega, by show (o : Int) ≤ 4; omega⟩
          have eA := hide (rsV_snoc out x)
          have hn0 : ((n : Int) == 0) = false := by rw [beq_eq_false_iff_ne]; omega
          have hi4 : (at_ : Int) ≤ (at_ : Int) + k0 := by omega
          have hi5 : (at_ : Int) + k0 ≤ s.size := by omega
          have hot : out.length ≤ 3000000000000 := by omega
          have hxc : x.cells = [.string nm, .int .i64 o, .string vv] := by rw [hx]; rfl
          have H := hide (⟨hok', hf, hen, hR, hn2⟩ : _ ∧ _ ∧ _ ∧ _ ∧ _)
          clear hLs hok hf hex2 ho hgl hig hgg hu hn1 hn2 hvl hvv hvz hnd hnz hok' hR hx
          go_wp2_with (first
            | (go_at_call 66; (with_reducible refine (hG _).mono ?_); rintro e w2 ⟨rfl, rfl⟩)
            | (go_at_call 67; (with_reducible refine (hU _).mono ?_); rintro e w3 ⟨rfl, hb2⟩; have hown2 := own_keep4 hown hb2; have hb02 := hb.trans (hb2.mono hqw); have hq2 : q ≤ w3.heap.size := Nat.le_trans hqw hb2.size)
            | (at_builtin; go_must (refine wpList_append_own _ rfl (.tmp 51) (.tmp 61) 22 rfl (q) 143 i0 (.agg #[.string ⟨#[]⟩, .int .i64 0, .string ⟨#[]⟩]) 3 40 Tryz.underlying22 hi hz0 hz1 hz2 rfl (by decide) _ (_) _ rfl ((hown2.alloc _)) ⟨w3.heap.size, 0, none⟩ 1 1 (x.cells) rfl rfl ?c1 ?c2 ?c3 ?c4 ?c5 ?_)))
          case c1 => first | exact fun j u hu => hu | (rw [hxc]; exact cells_new_at _ #[.string nm, .int .i64 o, .string vv] _ rfl) | (rw [hxc]; exact cells_new_at _ #[.string nm, .int .i64 o, .string vv] _ (by simp)) | exact cells_new_at _ #[.string nm, .int .i64 o, .string vv] _ rfl | exact cells_new_at _ #[.string nm, .int .i64 o, .string vv] _ (by simp)
          case c2 => exact fun u hu => rsV_one (l := [x]) (by rw [rsV_cons]; exact List.mem_append_left _ hu)
          case c3 => unfold maxLen; omega
          case c4 => omega
          case c5 => first | omega | (simp; omega)
          intro v' W1 hown1 hg1 _
          have hB1 := own_below (hb02.alloc hq2 _) (hown2.alloc _) hg1 (Nat.le_refl _) (by simp; omega)
          obtain ⟨o2, ho2⟩ : ∃ o2, out ++ [x] = o2 := ⟨_, rfl⟩
          have ho2l : o2.length = out.length + 1 := by rw [← ho2]; simp
          rw [← hxc, eA.out, ho2, ← ho2l] at hown1
          have hH := H.out
          rw [ho2] at hH
          obtain ⟨hok2, hf2, hen2, hR2, hn2⟩ := hH
          have hqW : q ≤ W1.heap.size := by rw [← hq]; exact hB1.size
          have hP1 := Rz.own hown1
          obtain ⟨A', c', rfl⟩ := hP1.shape
          obtain ⟨e, hee⟩ : ∃ e, at_ + k0 + g + n = e := ⟨_, rfl⟩
          have hT := hide (⟨hR2, hf2, hoa, hn2, hok2, ho2l⟩ : _ ∧ _ ∧ _ ∧ _ ∧ _ ∧ _)
          have hei : ((e : Nat) : Int) = (at_ : Int) + k0 + g + n := by omega
          clear hg1 hown2 hb02 hb2 hq2 hxc hU eA H ho2 hR2 hf2 hoa hn2 hn0 hot hon ho4 ho2l
          have hem : e ≤ maxLen := by unfold maxLen; omega
          have hR3 := hT.out.1
          rw [hee] at hR3
          have hhd : (s.data.toList.drop e) = match s.data.toList[e]? with | none => [] | some z => z :: s.data.toList.drop (e + 1) := by
            by_cases he : e < s.size
            · rw [drop_at he, List.getElem?_eq_getElem (by rw [← Lib.size_eq]; exact he)]
              rfl
            · rw [drop_end (by omega), List.getElem?_eq_none (by rw [← Lib.size_eq]; omega)]
          rw [hhd] at hR3
          clear hhd
          by_cases hz1 : s.data.toList[e]? = some 125
          · have hC1 := fun w => stand1_any s 125 e ((at_ : Int) + k0 + g + n) hei hem hsm true (decide_eq_true hz1) w
            have hR1 := rright_any _ o2 W1 hP1 (fun y hy => by have := hok2 y hy; unfold Rul.ok maxLen; omega)
            rw [hz1] at hR3
            dsimp only at hR3
            rw [if_pos rfl] at hR3
            cases hrr : rightR o2 with
            | false =>
              rw [hrr] at hR3 hR1
              have hRn : R = none := by rw [← hR3]; rfl
              subst hRn
              clear hR3 hok2 hz1 hrr hown1 hen2
              go_wp2_with (first | (go_at_call 66; (with_reducible refine (hG _).mono ?_); rintro e w2 ⟨rfl, rfl⟩) | (go_at_call 64; (with_reducible refine (hC1 _).mono ?_); rintro e w3 ⟨rfl, rfl⟩) | (go_at_call 36; (with_reducible refine hR1.mono ?_); rintro e w3 ⟨rfl, hb3⟩))
              refine bodyPost_ret (v := .tuple #[.slice none 0 0, .int .i64 0]) (by simp [results, Tryz.results32, go_sem] <;> rfl) rfl ⟨⟨_, rfl, Rz.nil _⟩, ?_⟩
              first | exact hB1.trans (hb3.mono hqW) | (rw [hq]; exact hB1.trans (hb3.mono hqW))
            | true =>
              rw [hrr, if_pos rfl] at hR3
              rw [hrr] at hR1
              subst hR3
              clear hok2 hz1 hrr hown1 hen2
              go_wp2_with (first | (go_at_call 66; (with_reducible refine (hG _).mono ?_); rintro e w2 ⟨rfl, rfl⟩) | (go_at_call 64; (with_reducible refine (hC1 _).mono ?_); rintro e w3 ⟨rfl, rfl⟩) | (go_at_call 36; (with_reducible refine hR1.mono ?_); rintro e w3 ⟨rfl, hb3⟩))
              refine bodyPost_ret (v := .tuple #[.slice A' o2.length c', .int .i64 ((at_ : Int) + k0 + g + n + 1)]) (by simp [results, Tryz.results32, go_sem] <;> rfl) rfl ⟨⟨.slice A' o2.length c', ?_, hP1.below hb3⟩, ?_⟩
              · show _ = Ending.returned (.tuple #[_, .int .i64 ((e + 1 : Nat) : Int)])
                rw [show ((e + 1 : Nat) : Int) = (at_ : Int) + k0 + g + n + 1 from by omega]
              · first | exact hB1.trans (hb3.mono hqW) | (rw [hq]; exact hB1.trans (hb3.mono hqW))
          have hC1 := fun w => stand1_any s 125 e ((at_ : Int) + k0 + g + n) hei hem hsm false (decide_eq_false hz1) w
          by_cases hz2 : s.data.toList[e]? = some 44
          · have hC2 := fun w => stand1_any s 44 e ((at_ : Int) + k0 + g + n) hei hem hsm true (decide_eq_true hz2) w
            rw [hz2] at hR3
            dsimp only at hR3
            rw [if_neg (by decide), if_pos rfl] at hR3
            have hes : e + 1 ≤ s.size := by
              have := (List.getElem?_eq_some_iff.1 hz2).1
              rw [← Lib.size_eq] at this
              omega
            have hHH := hide (⟨hR3, hes, hee⟩ : _ ∧ _ ∧ _)
            clear hok2 hz1 hz2 hR3 hes hen2 hee
            go_wp2_with (first | (go_at_call 66; (with_reducible refine (hG _).mono ?_); rintro e w2 ⟨rfl, rfl⟩) | (go_at_call 64; (with_reducible refine (hC1 _).mono ?_); rintro e w3 ⟨rfl, rfl⟩) | (go_at_call 64; (with_reducible refine (hC2 _).mono ?_); rintro e w4 ⟨rfl, rfl⟩))
            go_roundw
            case rel =>
              obtain ⟨_, hf2, hoa, hn2, hok2, ho2l⟩ := hT.out
              obtain ⟨hR3, hes, hee⟩ := hHH.out
              have hn2 : 2 ≤ n := hn2
              exact ⟨f, e + 1, o2, by omega, by omega, by omega, by omega, by rw [show ((e + 1 : Nat) : Int) = (at_ : Int) + k0 + g + n + 1 from by omega], hR3, hok2, hown1, hB1⟩
            case measure =>
              obtain ⟨_, hes, hee⟩ := hHH.out
              first | (simp [intOf]; done) | (simp [intOf]; omega)
          · have hC2 := fun w => stand1_any s 44 e ((at_ : Int) + k0 + g + n) hei hem hsm false (decide_eq_false hz2) w
            have hRn : R = none := by
              cases hz : s.data.toList[e]? with
              | none => rw [hz] at hR3; exact hR3.symm
              | some z =>
                rw [hz] at hR3 hz1 hz2
                dsimp only at hR3
                rw [if_neg (fun e => hz1 (by rw [e])), if_neg (fun e => hz2 (by rw [e]))] at hR3
                exact hR3.symm
            subst hRn
            clear hok2 hz1 hz2 hR3 hen2 hee
            go_wp2_with (first | (go_at_call 66; (with_reducible refine (hG _).mono ?_); rintro e w2 ⟨rfl, rfl⟩) | (go_at_call 64; (with_reducible refine (hC1 _).mono ?_); rintro e w3 ⟨rfl, rfl⟩) | (go_at_call 64; (with_reducible refine (hC2 _).mono ?_); rintro e w4 ⟨rfl, rfl⟩))
            refine bodyPost_ret (v := .tuple #[.slice none 0 0, .int .i64 0]) (by simp [results, Tryz.results32, go_sem] <;> rfl) rfl ⟨⟨_, rfl, Rz.nil _⟩, ?_⟩
            first | exact hB1 | (rw [hq]; exact hB1)
set_option maxRecDepth 100000 in
set_option maxHeartbeats 8000000 in
theorem rparse_any (s : ByteArray) (hs : s.size ≤ 3000000000000) (w : World) :
    Calls Tryz.prog 32 #[.string s] w fun e w' => (∃ u, e = .returned (.tuple #[u, .int .i64 ((psq s.data.toList).2 : Nat)]) ∧ Rz w' u (psq s.data.toList).1) ∧ Below w.heap.size w w' := by
  have hsm : s.size ≤ maxLen := by unfold maxLen; omega
  by_cases h1 : s.data.toList[0]? = some 123
  · have hh : s.data.toList.head? = some 123 := by rw [List.head?_eq_getElem?]; exact h1
    by_cases h2 : s.data.toList[1]? = some 125
    · have hA1 := fun w => stand1_any s 123 0 0 rfl (Nat.zero_le _) hsm true (decide_eq_true h1) w
      have hA2 := fun w => stand1_any s 125 1 1 rfl (by unfold maxLen; decide) hsm true (decide_eq_true h2) w
      have e : psq s.data.toList = ([], 2) := by
        unfold psq
        rw [if_neg (by rw [hh]; simp), if_pos (by rw [List.head?_eq_getElem?, List.getElem?_drop]; exact h2)]
      rw [e]
      clear e h1 h2 hh
      go_enter Tryz.func32, Tryz.ntmps32
      go_wp2_with (first | (go_at_call 64; (with_reducible refine (hA1 _).mono ?_); rintro e w ⟨rfl, rfl⟩) | (go_at_call 64; (with_reducible refine (hA2 _).mono ?_); rintro e w ⟨rfl, rfl⟩))
      refine bodyPost_ret (v := .tuple #[.slice none 0 0, .int .i64 2]) (by simp [results, Tryz.results32, go_sem] <;> rfl) rfl ⟨⟨_, rfl, Rz.nil _⟩, Below.refl _ _⟩
    · refine rparse_main s hs w h1 h2 ?_
      unfold psq
      rw [if_neg (by rw [hh]; simp), if_neg (by rw [List.head?_eq_getElem?, List.getElem?_drop]; exact h2), prq_same]
  · have hA1 := fun w => stand1_any s 123 0 0 rfl (Nat.zero_le _) hsm false (decide_eq_false h1) w
    have e : psq s.data.toList = ([], 0) := by
      unfold psq
      rw [if_pos (by rw [List.head?_eq_getElem?]; exact h1)]
    rw [e]
    clear e h1
    go_enter Tryz.func32, Tryz.ntmps32
    go_wp2_with (first | (go_at_call 64; (with_reducible refine (hA1 _).mono ?_); rintro e w ⟨rfl, rfl⟩))
    refine bodyPost_ret (v := .tuple #[.slice none 0 0, .int .i64 0]) (by simp [results, Tryz.results32, go_sem] <;> rfl) rfl ⟨⟨_, rfl, Rz.nil _⟩, ?_⟩
    exact Below.refl _ _
end Go.Proofs.YtamnononemallaaGreatDoor
