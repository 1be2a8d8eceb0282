import Derived.Test.YtamnononemallaaDoorGD
import Derived.WalkSpells
import Derived.WalkLawsBesides
import Derived.WalkMore
/-! The rules with which a text begins: the program's. -/
namespace Go.Proofs.YtamnononemallaaDoor
open Go.RowKit
set_option linter.unusedVariables false
set_option linter.unusedSimpArgs false
set_option maxRecDepth 100000 in
set_option maxHeartbeats 40000000 in
theorem mparse_main (s : ByteArray) (hs : s.size ≤ 3000000000000) (w : World) (hg : Sg w) (h0 : 0 < s.size) (h1 : s[0].toNat = 123) (hh : s.data.toList.head? = some 123) (hd1 : s.data.toList = 123 :: s.data.toList.drop 1)
    (h2 : ¬ (s.data.toList.drop 1).head? = some 125) :
    Calls Tryd.prog 18 #[.string s] w fun e w' => (∃ u, e = .returned (.tuple #[u, .int .i64 ((psq s.data.toList).2 : Nat)]) ∧ Rz w' u (psq s.data.toList).1) ∧ Below w.heap.size w w' := by
  obtain ⟨i0, hi, hz0, hz1, hz2⟩ := info_parts infoR
  have hsz := Lib.size_eq s
  have hP := fun w => Tryd.strings_HasPrefix s ⟨#[123, 125]⟩ w
  simp only [Lib.hasPrefix] at hP
  obtain ⟨he, he'⟩ := str_some h0
  have h0i : (0 : Int) < s.size := by omega
  have d1 : ((s[0].toNat : Int) != 123) = false := by simp; omega
  have d1' : ((s[0].toNat : Int) == 123) = true := by simp; omega
  have hpf : (⟨#[123, 125]⟩ : ByteArray).data.toList.isPrefixOf s.data.toList = false := by
    rw [hd1]
    cases hl : s.data.toList.drop 1 with
    | nil => rfl
    | cons a b =>
      rw [hl] at h2
      simp only [List.head?_cons, Option.some.injEq] at h2
      have : ¬ (125 : UInt8) = a := fun e => h2 e.symm
      simp [List.isPrefixOf, this]
  simp only [hpf] at hP
  obtain ⟨R, hR⟩ : ∃ R, prq (fun r => scn r 32) (fun _ => true) s.data.toList.length (s.data.toList.drop 1) 1 [] = R := ⟨_, rfl⟩
  have eR : psq s.data.toList = psqO R := by unfold psq; rw [if_neg (by rw [hh]; simp), if_neg h2, hR]
  rw [eR]
  obtain ⟨q, hq⟩ : ∃ q, w.heap.size = q := ⟨_, rfl⟩
  have hH2 := hide h2
  clear eR hh hd1 h2 hpf h1 hsz
  go_enter Tryd.func18, Tryd.ntmps18
  go_wp2
  go_step3
  go_wp2
  go_step3
  go_wp2
  clear d1 d1' he he'
  go_loopw [4, 5] (fun s4 s5 wr => ∃ (f at_ : Nat) (out : List Rul), 1 ≤ at_ ∧ at_ ≤ s.size ∧ out.length + 1 ≤ at_ ∧ s.size < f + at_ ∧ s5 = .int .i64 (at_ : Int) ∧ (out = [] → (s.data.toList.drop at_).head? ≠ some 125) ∧
      prq (fun r => scn r 32) (fun _ => true) f (s.data.toList.drop at_) at_ out = R ∧ (∀ x ∈ out, x.a.size ≤ s.size ∧ x.b.size ≤ s.size ∧ 0 ≤ x.op ∧ x.op ≤ 4) ∧ wr.ownsRow q 60 3 s4 out.length (rsV out) ∧ Below q w wr) (fun _ s5 _ => ((s.size : Int) - intOf s5).toNat)
  case atStart => exact ⟨s.data.toList.length, 1, [], by omega, by omega, by simp, by have := Lib.size_eq s; omega, rfl, fun _ => hH2.out, hR, (fun x hx => by cases hx), World.ownsRow_nil _ _ _ _, by rw [← hq]; exact Below.refl _ _⟩
  case round =>
    clear hR
    obtain ⟨f, at_, out, ha1, has, hoa, hf, rfl, hfirst, hR, hok, hown, hb⟩ := hrel
    have hqw : q ≤ wr.heap.size := by rw [← hq]; exact hb.size
    obtain ⟨A, c, rfl⟩ := (Rz.own hown).shape
    by_cases hend : at_ = s.size
    · have hRn : R = none := by
        rw [← hR, drop_end (by omega)]
        cases f with
        | zero => rfl
        | succ f => rfl
      subst hRn
      have e1 : ¬ ((at_ : Int) < s.size) := by omega
      clear hR hok hfirst hf
      rcases Nat.eq_zero_or_pos out.length with hl | hl
      · have d3 : ((out.length : Int) == 0) = true := beq_iff_eq.2 (by omega)
        clear hown
        generalize out.length = m at *
        go_wp2_with (go_at_call 35; (with_reducible refine (hP _).mono ?_); rintro e w1 ⟨rfl, rfl⟩)
        (try rw [Exit.noGoto_ret])
        refine bodyPost_ret (v := .tuple #[.slice none 0 0, .int .i64 0]) (by simp [results, Tryd.results18, go_sem] <;> rfl) rfl ⟨⟨_, rfl, Rz.nil _⟩, ?_⟩
        rw [hq]
        exact hb
      · have d3 : ((out.length : Int) == 0) = false := by rw [beq_eq_false_iff_ne]; omega
        clear hown
        generalize out.length = m at *
        go_wp2_with (go_at_call 35; (with_reducible refine (hP _).mono ?_); rintro e w1 ⟨rfl, rfl⟩)
        (try rw [Exit.noGoto_ret])
        refine bodyPost_ret (v := .tuple #[.slice none 0 0, .int .i64 0]) (by simp [results, Tryd.results18, go_sem] <;> rfl) rfl ⟨⟨_, rfl, Rz.nil _⟩, ?_⟩
        rw [hq]
        exact hb
    have hlt : at_ < s.size := by omega
    have e0 : (at_ : Int) < s.size := by omega
    have hgW : Sg wr := hg.below (by rw [hq]; exact hb)
    obtain ⟨f, rfl⟩ : ∃ f', f = f' + 1 := ⟨f - 1, by omega⟩
    rw [prq, if_pos rfl] at hR
    obtain ⟨K, hK⟩ : ∃ K, scn (s.data.toList.drop at_) 32 = K := ⟨_, rfl⟩
    rw [hK] at hR
    by_cases h125 : s[at_].toNat = 125
    · have b1 : ((s[at_].toNat : Int) != 125) = false := by simp; omega
      have b1' : ((s[at_].toNat : Int) == 125) = true := by simp; omega
      have b2 : (0 : Int) < out.length := by
        rcases Nat.eq_zero_or_pos out.length with h | h
        · have := hfirst (List.eq_nil_of_length_eq_zero h)
          rw [drop_at hlt] at this
          exact absurd (by simp only [List.head?_cons]; congr 1; exact UInt8.toNat_inj.1 h125) this
        · omega
      have b2' : decide (0 < out.length) = true := decide_eq_true (by omega)
      clear h125
      go_wp2
      go_loopw [5] (fun s5 w5 => ∃ i : Nat, at_ ≤ i ∧ i ≤ s.size ∧ i ≤ at_ + 32 ∧ s5 = .int .i64 (i : Int) ∧ (scn (s.data.toList.drop i) (32 - (i - at_))).map (· + (i - at_)) = K ∧ w5 = wr) (fun s5 _ => ((s.size : Int) - intOf s5).toNat)
      case atStart => exact ⟨at_, Nat.le_refl _, by omega, by omega, rfl, by rw [Nat.sub_self, Nat.sub_zero, hK]; cases K <;> rfl, rfl⟩
      case round =>
        clear hK
        obtain ⟨i, hi1, hi2, hi3, rfl, hKi, rfl⟩ := hrel
        have hex : (s.extract i s.size).data.toList = s.data.toList.drop i := by rw [Lib.extract_data, List.take_of_length_le (by have := Lib.size_eq s; rw [List.length_drop]; omega)]
        have hS := psign_any (s.extract i s.size) wr hgW
        rw [hex] at hS
        have hil : (i : Int) ≤ s.size := by omega
        by_cases hie : i = s.size
        · have hT : s.data.toList.drop i = [] := drop_end (by omega)
          rw [hT] at hS hKi
          have hRn : R = none := by
            rw [← hR, ← hKi]
            show stq _ _ _ _ _ = none
            unfold stq
            rw [List.drop_drop, show at_ + (0 + (i - at_)) = i from by omega, hT]
            rfl
          subst hRn
          have e1 : ¬ ((i : Int) < s.size) := by omega
          clear hR hKi hok hfirst hf hT hex hie
          rcases Nat.eq_zero_or_pos out.length with hl | hl
          · have d3 : ((out.length : Int) == 0) = true := beq_iff_eq.2 (by omega)
            clear hown
            generalize out.length = m at *
            (go_wp2_with (first | (go_at_call 35; (with_reducible refine (hP _).mono ?_); rintro e w1 ⟨rfl, rfl⟩) | (go_at_call 33; (with_reducible refine hS.mono ?_); rintro e w1 ⟨rfl, rfl⟩))) <;> ((try rw [Exit.noGoto_ret]); refine bodyPost_ret (v := .tuple #[.slice none 0 0, .int .i64 0]) (by simp [results, Tryd.results18, go_sem] <;> rfl) rfl ⟨⟨_, rfl, Rz.nil _⟩, ?_⟩; first | exact hb | (rw [hq]; exact hb))
          · have d3 : ((out.length : Int) == 0) = false := by rw [beq_eq_false_iff_ne]; omega
            clear hown
            generalize out.length = m at *
            go_wp2_with (first | (go_at_call 35; (with_reducible refine (hP _).mono ?_); rintro e w1 ⟨rfl, rfl⟩) | (go_at_call 33; (with_reducible refine hS.mono ?_); rintro e w1 ⟨rfl, rfl⟩))
            (try rw [Exit.noGoto_ret])
            refine bodyPost_ret (v := .tuple #[.slice none 0 0, .int .i64 0]) (by simp [results, Tryd.results18, go_sem] <;> rfl) rfl ⟨⟨_, rfl, Rz.nil _⟩, ?_⟩
            first | exact hb | (rw [hq]; exact hb)
        have hil' : i < s.size := by omega
        have e1 : (i : Int) < s.size := by omega
        obtain ⟨y, hy⟩ : ∃ y, s.data.toList.drop i = y :: s.data.toList.drop (i + 1) := ⟨_, drop_at hil'⟩
        by_cases hsg : sgn (s.data.toList.drop i) = 0
        · rw [hsg] at hS
          rw [hy] at hsg hKi
          by_cases h32 : i = at_ + 32
          · have hKn : K = none := by
              rw [← hKi, show 32 - (i - at_) = 0 from by omega, scn_over hsg]
              rfl
            have hRn : R = none := by rw [← hR, hKn]
            subst hRn
            have e2 : (32 : Int) < (i : Int) + 1 - at_ := by omega
            clear hR hKi hok hfirst hf hex hie hy hsg hKn h32 hi3
            rcases Nat.eq_zero_or_pos out.length with hl | hl
            · have d3 : ((out.length : Int) == 0) = true := beq_iff_eq.2 (by omega)
              clear hown
              generalize out.length = m at *
              (go_wp2_with (first | (go_at_call 35; (with_reducible refine (hP _).mono ?_); rintro e w1 ⟨rfl, rfl⟩) | (go_at_call 33; (with_reducible refine hS.mono ?_); rintro e w1 ⟨rfl, rfl⟩))) <;> ((try rw [Exit.noGoto_ret]); refine bodyPost_ret (v := .tuple #[.slice none 0 0, .int .i64 0]) (by simp [results, Tryd.results18, go_sem] <;> rfl) rfl ⟨⟨_, rfl, Rz.nil _⟩, ?_⟩; first | exact hb | (rw [hq]; exact hb))
            · have d3 : ((out.length : Int) == 0) = false := by rw [beq_eq_false_iff_ne]; omega
              clear hown
              generalize out.length = m at *
              go_wp2_with (first | (go_at_call 35; (with_reducible refine (hP _).mono ?_); rintro e w1 ⟨rfl, rfl⟩) | (go_at_call 33; (with_reducible refine hS.mono ?_); rintro e w1 ⟨rfl, rfl⟩))
              (try rw [Exit.noGoto_ret])
              refine bodyPost_ret (v := .tuple #[.slice none 0 0, .int .i64 0]) (by simp [results, Tryd.results18, go_sem] <;> rfl) rfl ⟨⟨_, rfl, Rz.nil _⟩, ?_⟩
              first | exact hb | (rw [hq]; exact hb)
          · have hKj : (scn (s.data.toList.drop (i + 1)) (32 - (i + 1 - at_))).map (· + (i + 1 - at_)) = K := by
              rw [← hKi, show 32 - (i - at_) = (32 - (i + 1 - at_)) + 1 from by omega, scn_step hsg, map_add, show 1 + (i - at_) = i + 1 - at_ from by omega]
            have e2 : ¬ ((32 : Int) < (i : Int) + 1 - at_) := by omega
            have H := hide (⟨hKj, hR, hok, hfirst, hf⟩ : _ ∧ _ ∧ _ ∧ _ ∧ _)
            clear hKj hR hKi hok hfirst hf hex hie hy hsg
            go_wp2_with (go_at_call 33; (with_reducible refine hS.mono ?_); rintro e w1 ⟨rfl, rfl⟩)
            go_roundw
            case rel => exact ⟨i + 1, by omega, by omega, by omega, by go_num, H.out.1, by trivial⟩
            case measure => first | (simp [intOf]; done) | (simp [intOf]; omega)
        obtain ⟨o, ho⟩ : ∃ o, sgn (s.data.toList.drop i) = o := ⟨_, rfl⟩
        have ho4 : o ≤ 4 := ho ▸ sgn_le _
        have hgl := sgn_len hsg
        rw [List.length_drop, ho] at hgl
        rw [scn_here hsg] at hKi
        rw [ho] at hsg hS
        rw [← hKi] at hR
        simp only [Option.map_some, Nat.zero_add] at hR
        rw [stq_at hi1 ho hsg] at hR
        obtain ⟨g, hgg⟩ : ∃ g, (sgB o).length = g := ⟨_, rfl⟩
        have hgz : (sgT o).size = g := by rw [Lib.size_eq, sgT_list, hgg]
        have hcg := hgW.at_ o ho4
        rw [hgg] at hgl hR
        have hig : i + g ≤ s.size := by have := Lib.size_eq s; omega
        have hgi : (i : Int) + g ≤ s.size := by omega
        have hU := fun w => punq_any (s.extract (i + g) s.size) (by rw [ByteArray.size_extract]; omega) w
        have hex2 : (s.extract (i + g) s.size).data.toList = s.data.toList.drop (i + g) := by rw [Lib.extract_data, List.take_of_length_le (by have := Lib.size_eq s; rw [List.length_drop]; omega)]
        rw [hex2] at hU
        have hon : ((o : Int) == 0) = false := by rw [beq_eq_false_iff_ne]; omega
        have ho5 : (o : Int) < 5 := by omega
        cases hu : uqL (s.data.toList.drop (i + g)) with
        | none =>
          rw [hu] at hU hR
          dsimp only [uqT, uqN] at hU hR
          subst hR
          have H := hide (⟨hok, hfirst, hf⟩ : _ ∧ _ ∧ _)
          clear hKi hok hfirst hf hex hex2 hie hy hsg ho hgl hig hgg hu hi3
          rcases Nat.eq_zero_or_pos out.length with hl | hl
          · have d3 : ((out.length : Int) == 0) = true := beq_iff_eq.2 (by omega)
            clear hown
            generalize out.length = m at *
            (go_wp2_with (first | (go_at_call 35; (with_reducible refine (hP _).mono ?_); rintro e w1 ⟨rfl, rfl⟩) | (go_at_call 33; (with_reducible refine hS.mono ?_); rintro e w1 ⟨rfl, rfl⟩) | (go_at_call 34; (with_reducible refine (hU _).mono ?_); rintro e w2 ⟨rfl, hb2⟩; have hb02 := hb.trans (hb2.mono hqw)))) <;> ((try rw [Exit.noGoto_ret]); refine bodyPost_ret (v := .tuple #[.slice none 0 0, .int .i64 0]) (by simp [results, Tryd.results18, go_sem] <;> rfl) rfl ⟨⟨_, rfl, Rz.nil _⟩, ?_⟩; first | exact hb02 | (rw [hq]; exact hb02))
          · have d3 : ((out.length : Int) == 0) = false := by rw [beq_eq_false_iff_ne]; omega
            clear hown
            generalize out.length = m at *
            go_wp2_with (first | (go_at_call 35; (with_reducible refine (hP _).mono ?_); rintro e w1 ⟨rfl, rfl⟩) | (go_at_call 33; (with_reducible refine hS.mono ?_); rintro e w1 ⟨rfl, rfl⟩) | (go_at_call 34; (with_reducible refine (hU _).mono ?_); rintro e w2 ⟨rfl, hb2⟩; have hb02 := hb.trans (hb2.mono hqw)))
            (try rw [Exit.noGoto_ret])
            refine bodyPost_ret (v := .tuple #[.slice none 0 0, .int .i64 0]) (by simp [results, Tryd.results18, go_sem] <;> rfl) rfl ⟨⟨_, rfl, Rz.nil _⟩, ?_⟩
            first | exact hb02 | (rw [hq]; exact hb02)
        | some p =>
          obtain ⟨v, n⟩ := p
          obtain ⟨hn1, hn2⟩ := uqL_len hu
          rw [List.length_drop] at hn1
          have hvl : v.length ≤ s.size := by
            obtain ⟨_, _, e5⟩ := uqL_inv hu
            have := qB_len1 v
            have := Lib.size_eq s
            simp only [qL, List.length_cons, List.length_append, List.length_nil] at e5
            omega
          rw [hu] at hU hR
          dsimp only [uqT, uqN] at hU hR
          obtain ⟨vv, hvv⟩ : ∃ vv, (⟨v.toArray⟩ : ByteArray) = vv := ⟨_, rfl⟩
          rw [hvv] at hU hR
          have hvz : vv.size ≤ s.size := by
            rw [← hvv]
            show v.toArray.size ≤ _
            simpa using hvl
          obtain ⟨nm, hnm⟩ : ∃ nm, s.extract at_ i = nm := ⟨_, rfl⟩
          have hnd : (⟨((s.data.toList.drop at_).take (i - at_)).toArray⟩ : ByteArray) = nm := by rw [← hnm, ← Lib.extract_data, Lib.mk_data]
          rw [hnd] at hR
          have hnz : nm.size ≤ s.size := by rw [← hnm, ByteArray.size_extract]; omega
          have hen : i + (g + n) ≤ s.size := by have := Lib.size_eq s; omega
          obtain ⟨x, hx⟩ : ∃ x : Rul, x = ⟨nm, (o : Int), vv⟩ := ⟨_, rfl⟩
          have hxa : nm = x.a := by rw [hx]
          have hxo : (o : Int) = x.op := by rw [hx]
          have hxb : vv = x.b := by rw [hx]
          rw [← hx] at hR
          have hok' : ∀ y ∈ out ++ [x], y.a.size ≤ s.size ∧ y.b.size ≤ s.size ∧ 0 ≤ y.op ∧ y.op ≤ 4 := fun y hy => by
            rcases List.mem_append.1 hy with h | h
            · exact hok y h
            · rw [List.mem_singleton.1 h, hx]; exact ⟨hnz, hvz, by show (0 : Int) ≤ o; omega, by show (o : Int) ≤ 4; omega⟩
          have eA := hide (rsV_snoc out x)
          have hn0 : ((n : Int) == 0) = false := by rw [beq_eq_false_iff_ne]; omega
          have hi4 : (at_ : Int) ≤ i := by omega
          have hot : out.length ≤ 3000000000000 := by omega
          have hxc : x.cells = [.string nm, .int .i64 o, .string vv] := by rw [hx]; rfl
          have hx1 := hide hx
          have H := hide (⟨hok', hf, hen, hR, hn2⟩ : _ ∧ _ ∧ _ ∧ _ ∧ _)
          clear hKi hok hfirst hf hex hex2 hie hy hsg ho hgl hig hgg hu hi3 hn1 hn2 hvl hvv hvz hnd hnz hok' hR hx hxa hxo hxb
          go_wp2_with (first
            | (go_at_call 33; (with_reducible refine hS.mono ?_); rintro e w1 ⟨rfl, rfl⟩)
            | (go_at_call 34; (with_reducible refine (hU _).mono ?_); rintro e w2 ⟨rfl, hb2⟩; have hown2 := own_keep4 hown hb2; have hb02 := hb.trans (hb2.mono hqw); have hq2 : q ≤ w2.heap.size := Nat.le_trans hqw hb2.size)
            | (at_builtin; go_must (refine wpList_append_own _ rfl (.tmp 70) (.tmp 78) 25 rfl (q) 60 i0 (.agg #[.string ⟨#[]⟩, .int .i64 0, .string ⟨#[]⟩]) 3 40 Tryd.underlying25 hi hz0 hz1 hz2 rfl (by decide) _ (_) _ rfl ((hown2.alloc _)) ⟨w2.heap.size, 0, none⟩ 1 1 (x.cells) rfl rfl ?c1 ?c2 ?c3 ?c4 ?c5 ?_)))
          case c1 => first | exact fun j u hu => hu | (rw [hxc]; exact cells_new_at _ #[.string nm, .int .i64 o, .string vv] _ rfl) | (rw [hxc]; exact cells_new_at _ #[.string nm, .int .i64 o, .string vv] _ (by simp)) | exact cells_new_at _ #[.string nm, .int .i64 o, .string vv] _ rfl | exact cells_new_at _ #[.string nm, .int .i64 o, .string vv] _ (by simp)
          case c2 => exact fun u hu => rsV_one (l := [x]) (by rw [rsV_cons]; exact List.mem_append_left _ hu)
          case c3 => unfold maxLen; omega
          case c4 => omega
          case c5 => first | omega | (simp; omega)
          intro v' W1 hown1 hg1 _
          have hB1 := own_below (hb02.alloc hq2 _) (hown2.alloc _) hg1 (Nat.le_refl _) (by simp; omega)
          obtain ⟨o2, ho2⟩ : ∃ o2, out ++ [x] = o2 := ⟨_, rfl⟩
          have ho2l : o2.length = out.length + 1 := by rw [← ho2]; simp
          rw [← hxc, eA.out, ho2, ← ho2l] at hown1
          have hH := H.out
          rw [ho2] at hH
          obtain ⟨hok2, hf2, hen2, hR2, hn2⟩ := hH
          have hqW : q ≤ W1.heap.size := by rw [← hq]; exact hB1.size
          have hP1 := Rz.own hown1
          obtain ⟨A', c', rfl⟩ := hP1.shape
          have d3 : ((o2.length : Int) == 0) = false := by rw [beq_eq_false_iff_ne]; omega
          rw [show i + g + n = i + (g + n) from by omega] at hR2
          have hT := hide (⟨hR2, hf2, hoa, hn2, hok2, ho2l⟩ : _ ∧ _ ∧ _ ∧ _ ∧ _ ∧ _)
          have hcg1 := (hg.below (w' := W1) (by rw [hq]; exact hB1)).at_ o ho4
          clear hg1 hown2 hb02 hb2 hq2 hxc hcg hS hU eA H ho2 hx1 hR2 hf2 hoa hn2 hn0 hot hon ho4 ho2l
          by_cases hez : i + (g + n) = s.size
          · have hRn : R = none := by rw [← hT.out.1, drop_end (by omega)]
            subst hRn
            have e4 : ¬ ((i : Int) + (g + n) < s.size) := by omega
            have e5 : (s.size : Int) ≤ (i : Int) + (g + n) := by omega
            clear hez hen2 hok2
            go_wp2_with (first | (go_at_call 35; (with_reducible refine (hP _).mono ?_); rintro e w1 ⟨rfl, rfl⟩))
            (try rw [Exit.noGoto_ret])
            refine bodyPost_ret (v := .tuple #[.slice none 0 0, .int .i64 0]) (by simp [results, Tryd.results18, go_sem] <;> rfl) rfl ⟨⟨_, rfl, Rz.nil _⟩, ?_⟩
            first | exact hB1 | (rw [hq]; exact hB1)
          have hlt2 : i + (g + n) < s.size := by omega
          have e4 : (i : Int) + (g + n) < s.size := by omega
          have e5 : ¬ (s.size : Int) ≤ (i : Int) + (g + n) := by omega
          by_cases hz1 : s[i + (g + n)].toNat = 125
          · have b4 : ((s[i + (g + n)].toNat : Int) == 125) = true := by simp; omega
            have hR1 := mright_any _ o2 W1 hP1 (fun y hy => by have := hok2 y hy; unfold Rul.ok maxLen; omega)
            have hR3 := hT.out.1
            rw [drop_at hlt2] at hR3
            dsimp only at hR3
            rw [if_pos (UInt8.toNat_inj.1 hz1)] at hR3
            cases hrr : rightR o2 with
            | false =>
              rw [hrr] at hR3 hR1
              have hRn : R = none := by rw [← hR3]; rfl
              subst hRn
              clear hR3 hez hen2 hok2 hz1 hrr hown1
              go_wp2_with (go_at_call 15; (with_reducible refine hR1.mono ?_); rintro e w3 ⟨rfl, hb3⟩)
              (try rw [Exit.noGoto_ret])
              refine bodyPost_ret (v := .tuple #[.slice none 0 0, .int .i64 0]) (by simp [results, Tryd.results18, go_sem] <;> rfl) rfl ⟨⟨_, rfl, Rz.nil _⟩, ?_⟩
              first | exact hB1.trans (hb3.mono hqW) | (rw [hq]; exact hB1.trans (hb3.mono hqW))
            | true =>
              rw [hrr, if_pos rfl] at hR3
              rw [hrr] at hR1
              subst hR3
              clear hez hen2 hok2 hz1 hrr hown1
              go_wp2_with (go_at_call 15; (with_reducible refine hR1.mono ?_); rintro e w3 ⟨rfl, hb3⟩)
              (try rw [Exit.noGoto_ret])
              refine bodyPost_ret (v := .tuple #[.slice A' o2.length c', .int .i64 ((i : Int) + (g + n) + 1)]) (by simp [results, Tryd.results18, go_sem] <;> rfl) rfl ⟨⟨.slice A' o2.length c', ?_, hP1.below hb3⟩, ?_⟩
              · show _ = Ending.returned (.tuple #[_, .int .i64 ((i + (g + n) + 1 : Nat) : Int)])
                rw [show ((i + (g + n) + 1 : Nat) : Int) = (i : Int) + (g + n) + 1 from by omega]
              · first | exact hB1.trans (hb3.mono hqW) | (rw [hq]; exact hB1.trans (hb3.mono hqW))
          have b4 : ((s[i + (g + n)].toNat : Int) == 125) = false := by simp; omega
          by_cases hz2 : s[i + (g + n)].toNat = 44
          · have b5 : ((s[i + (g + n)].toNat : Int) != 44) = false := by simp; omega
            have b6 : ((s[i + (g + n)].toNat : Int) == 44) = true := by simp; omega
            have hHH := hide (show prq (fun r => scn r 32) (fun _ => true) f (s.data.toList.drop (i + (g + n) + 1)) (i + (g + n) + 1) o2 = R from by
              have hR3 := hT.out.1
              rw [drop_at hlt2] at hR3
              dsimp only at hR3
              rw [if_neg (fun e => hz1 (by rw [e]; rfl)), if_pos (UInt8.toNat_inj.1 hz2)] at hR3
              exact hR3)
            clear hez hen2 hok2 hz1 hz2
            go_wp2
            go_roundw
            case rel =>
              obtain ⟨_, hf2, hoa, hn2, hok2, ho2l⟩ := hT.out
              exact ⟨f, i + (g + n) + 1, o2, by omega, by omega, by omega, by omega, by go_num, (fun e => by rw [e] at ho2l; simp at ho2l), hHH.out, hok2, hown1, hB1⟩
            case measure => first | (simp [intOf]; done) | (simp [intOf]; omega)
          · have b5 : ((s[i + (g + n)].toNat : Int) != 44) = true := by simp; omega
            have b6 : ((s[i + (g + n)].toNat : Int) == 44) = false := by simp; omega
            have hRn : R = none := by
              have hR3 := hT.out.1
              rw [drop_at hlt2] at hR3
              dsimp only at hR3
              rw [if_neg (fun e => hz1 (by rw [e]; rfl)), if_neg (fun e => hz2 (by rw [e]; rfl))] at hR3
              exact hR3.symm
            subst hRn
            clear hez hen2 hok2 hz1 hz2
            go_wp2_with (first | (go_at_call 35; (with_reducible refine (hP _).mono ?_); rintro e w1 ⟨rfl, rfl⟩))
            (try rw [Exit.noGoto_ret])
            refine bodyPost_ret (v := .tuple #[.slice none 0 0, .int .i64 0]) (by simp [results, Tryd.results18, go_sem] <;> rfl) rfl ⟨⟨_, rfl, Rz.nil _⟩, ?_⟩
            first | exact hB1 | (rw [hq]; exact hB1)
    · have b1 : ((s[at_].toNat : Int) != 125) = true := by simp; omega
      have b1' : ((s[at_].toNat : Int) == 125) = false := by simp; omega
      clear h125
      go_wp2
      go_loopw [5] (fun s5 w5 => ∃ i : Nat, at_ ≤ i ∧ i ≤ s.size ∧ i ≤ at_ + 32 ∧ s5 = .int .i64 (i : Int) ∧ (scn (s.data.toList.drop i) (32 - (i - at_))).map (· + (i - at_)) = K ∧ w5 = wr) (fun s5 _ => ((s.size : Int) - intOf s5).toNat)
      case atStart => exact ⟨at_, Nat.le_refl _, by omega, by omega, rfl, by rw [Nat.sub_self, Nat.sub_zero, hK]; cases K <;> rfl, rfl⟩
      case round =>
        clear hK
        obtain ⟨i, hi1, hi2, hi3, rfl, hKi, rfl⟩ := hrel
        have hex : (s.extract i s.size).data.toList = s.data.toList.drop i := by rw [Lib.extract_data, List.take_of_length_le (by have := Lib.size_eq s; rw [List.length_drop]; omega)]
        have hS := psign_any (s.extract i s.size) wr hgW
        rw [hex] at hS
        have hil : (i : Int) ≤ s.size := by omega
        by_cases hie : i = s.size
        · have hT : s.data.toList.drop i = [] := drop_end (by omega)
          rw [hT] at hS hKi
          have hRn : R = none := by
            rw [← hR, ← hKi]
            show stq _ _ _ _ _ = none
            unfold stq
            rw [List.drop_drop, show at_ + (0 + (i - at_)) = i from by omega, hT]
            rfl
          subst hRn
          have e1 : ¬ ((i : Int) < s.size) := by omega
          clear hR hKi hok hfirst hf hT hex hie
          rcases Nat.eq_zero_or_pos out.length with hl | hl
          · have d3 : ((out.length : Int) == 0) = true := beq_iff_eq.2 (by omega)
            clear hown
            generalize out.length = m at *
            (go_wp2_with (first | (go_at_call 35; (with_reducible refine (hP _).mono ?_); rintro e w1 ⟨rfl, rfl⟩) | (go_at_call 33; (with_reducible refine hS.mono ?_); rintro e w1 ⟨rfl, rfl⟩))) <;> ((try rw [Exit.noGoto_ret]); refine bodyPost_ret (v := .tuple #[.slice none 0 0, .int .i64 0]) (by simp [results, Tryd.results18, go_sem] <;> rfl) rfl ⟨⟨_, rfl, Rz.nil _⟩, ?_⟩; first | exact hb | (rw [hq]; exact hb))
          · have d3 : ((out.length : Int) == 0) = false := by rw [beq_eq_false_iff_ne]; omega
            clear hown
            generalize out.length = m at *
            go_wp2_with (first | (go_at_call 35; (with_reducible refine (hP _).mono ?_); rintro e w1 ⟨rfl, rfl⟩) | (go_at_call 33; (with_reducible refine hS.mono ?_); rintro e w1 ⟨rfl, rfl⟩))
            (try rw [Exit.noGoto_ret])
            refine bodyPost_ret (v := .tuple #[.slice none 0 0, .int .i64 0]) (by simp [results, Tryd.results18, go_sem] <;> rfl) rfl ⟨⟨_, rfl, Rz.nil _⟩, ?_⟩
            first | exact hb | (rw [hq]; exact hb)
        have hil' : i < s.size := by omega
        have e1 : (i : Int) < s.size := by omega
        obtain ⟨y, hy⟩ : ∃ y, s.data.toList.drop i = y :: s.data.toList.drop (i + 1) := ⟨_, drop_at hil'⟩
        by_cases hsg : sgn (s.data.toList.drop i) = 0
        · rw [hsg] at hS
          rw [hy] at hsg hKi
          by_cases h32 : i = at_ + 32
          · have hKn : K = none := by
              rw [← hKi, show 32 - (i - at_) = 0 from by omega, scn_over hsg]
              rfl
            have hRn : R = none := by rw [← hR, hKn]
            subst hRn
            have e2 : (32 : Int) < (i : Int) + 1 - at_ := by omega
            clear hR hKi hok hfirst hf hex hie hy hsg hKn h32 hi3
            rcases Nat.eq_zero_or_pos out.length with hl | hl
            · have d3 : ((out.length : Int) == 0) = true := beq_iff_eq.2 (by omega)
              clear hown
              generalize out.length = m at *
              (go_wp2_with (first | (go_at_call 35; (with_reducible refine (hP _).mono ?_); rintro e w1 ⟨rfl, rfl⟩) | (go_at_call 33; (with_reducible refine hS.mono ?_); rintro e w1 ⟨rfl, rfl⟩))) <;> ((try rw [Exit.noGoto_ret]); refine bodyPost_ret (v := .tuple #[.slice none 0 0, .int .i64 0]) (by simp [results, Tryd.results18, go_sem] <;> rfl) rfl ⟨⟨_, rfl, Rz.nil _⟩, ?_⟩; first | exact hb | (rw [hq]; exact hb))
            · have d3 : ((out.length : Int) == 0) = false := by rw [beq_eq_false_iff_ne]; omega
              clear hown
              generalize out.length = m at *
              go_wp2_with (first | (go_at_call 35; (with_reducible refine (hP _).mono ?_); rintro e w1 ⟨rfl, rfl⟩) | (go_at_call 33; (with_reducible refine hS.mono ?_); rintro e w1 ⟨rfl, rfl⟩))
              (try rw [Exit.noGoto_ret])
              refine bodyPost_ret (v := .tuple #[.slice none 0 0, .int .i64 0]) (by simp [results, Tryd.results18, go_sem] <;> rfl) rfl ⟨⟨_, rfl, Rz.nil _⟩, ?_⟩
              first | exact hb | (rw [hq]; exact hb)
          · have hKj : (scn (s.data.toList.drop (i + 1)) (32 - (i + 1 - at_))).map (· + (i + 1 - at_)) = K := by
              rw [← hKi, show 32 - (i - at_) = (32 - (i + 1 - at_)) + 1 from by omega, scn_step hsg, map_add, show 1 + (i - at_) = i + 1 - at_ from by omega]
            have e2 : ¬ ((32 : Int) < (i : Int) + 1 - at_) := by omega
            have H := hide (⟨hKj, hR, hok, hfirst, hf⟩ : _ ∧ _ ∧ _ ∧ _ ∧ _)
            clear hKj hR hKi hok hfirst hf hex hie hy hsg
            go_wp2_with (go_at_call 33; (with_reducible refine hS.mono ?_); rintro e w1 ⟨rfl, rfl⟩)
            go_roundw
            case rel => exact ⟨i + 1, by omega, by omega, by omega, by go_num, H.out.1, by trivial⟩
            case measure => first | (simp [intOf]; done) | (simp [intOf]; omega)
        obtain ⟨o, ho⟩ : ∃ o, sgn (s.data.toList.drop i) = o := ⟨_, rfl⟩
        have ho4 : o ≤ 4 := ho ▸ sgn_le _
        have hgl := sgn_len hsg
        rw [List.length_drop, ho] at hgl
        rw [scn_here hsg] at hKi
        rw [ho] at hsg hS
        rw [← hKi] at hR
        simp only [Option.map_some, Nat.zero_add] at hR
        rw [stq_at hi1 ho hsg] at hR
        obtain ⟨g, hgg⟩ : ∃ g, (sgB o).length = g := ⟨_, rfl⟩
        have hgz : (sgT o).size = g := by rw [Lib.size_eq, sgT_list, hgg]
        have hcg := hgW.at_ o ho4
        rw [hgg] at hgl hR
        have hig : i + g ≤ s.size := by have := Lib.size_eq s; omega
        have hgi : (i : Int) + g ≤ s.size := by omega
        have hU := fun w => punq_any (s.extract (i + g) s.size) (by rw [ByteArray.size_extract]; omega) w
        have hex2 : (s.extract (i + g) s.size).data.toList = s.data.toList.drop (i + g) := by rw [Lib.extract_data, List.take_of_length_le (by have := Lib.size_eq s; rw [List.length_drop]; omega)]
        rw [hex2] at hU
        have hon : ((o : Int) == 0) = false := by rw [beq_eq_false_iff_ne]; omega
        have ho5 : (o : Int) < 5 := by omega
        cases hu : uqL (s.data.toList.drop (i + g)) with
        | none =>
          rw [hu] at hU hR
          dsimp only [uqT, uqN] at hU hR
          subst hR
          have H := hide (⟨hok, hfirst, hf⟩ : _ ∧ _ ∧ _)
          clear hKi hok hfirst hf hex hex2 hie hy hsg ho hgl hig hgg hu hi3
          rcases Nat.eq_zero_or_pos out.length with hl | hl
          · have d3 : ((out.length : Int) == 0) = true := beq_iff_eq.2 (by omega)
            clear hown
            generalize out.length = m at *
            (go_wp2_with (first | (go_at_call 35; (with_reducible refine (hP _).mono ?_); rintro e w1 ⟨rfl, rfl⟩) | (go_at_call 33; (with_reducible refine hS.mono ?_); rintro e w1 ⟨rfl, rfl⟩) | (go_at_call 34; (with_reducible refine (hU _).mono ?_); rintro e w2 ⟨rfl, hb2⟩; have hb02 := hb.trans (hb2.mono hqw)))) <;> ((try rw [Exit.noGoto_ret]); refine bodyPost_ret (v := .tuple #[.slice none 0 0, .int .i64 0]) (by simp [results, Tryd.results18, go_sem] <;> rfl) rfl ⟨⟨_, rfl, Rz.nil _⟩, ?_⟩; first | exact hb02 | (rw [hq]; exact hb02))
          · have d3 : ((out.length : Int) == 0) = false := by rw [beq_eq_false_iff_ne]; omega
            clear hown
            generalize out.length = m at *
            go_wp2_with (first | (go_at_call 35; (with_reducible refine (hP _).mono ?_); rintro e w1 ⟨rfl, rfl⟩) | (go_at_call 33; (with_reducible refine hS.mono ?_); rintro e w1 ⟨rfl, rfl⟩) | (go_at_call 34; (with_reducible refine (hU _).mono ?_); rintro e w2 ⟨rfl, hb2⟩; have hb02 := hb.trans (hb2.mono hqw)))
            (try rw [Exit.noGoto_ret])
            refine bodyPost_ret (v := .tuple #[.slice none 0 0, .int .i64 0]) (by simp [results, Tryd.results18, go_sem] <;> rfl) rfl ⟨⟨_, rfl, Rz.nil _⟩, ?_⟩
            first | exact hb02 | (rw [hq]; exact hb02)
        | some p =>
          obtain ⟨v, n⟩ := p
          obtain ⟨hn1, hn2⟩ := uqL_len hu
          rw [List.length_drop] at hn1
          have hvl : v.length ≤ s.size := by
            obtain ⟨_, _, e5⟩ := uqL_inv hu
            have := qB_len1 v
            have := Lib.size_eq s
            simp only [qL, List.length_cons, List.length_append, List.length_nil] at e5
            omega
          rw [hu] at hU hR
          dsimp only [uqT, uqN] at hU hR
          obtain ⟨vv, hvv⟩ : ∃ vv, (⟨v.toArray⟩ : ByteArray) = vv := ⟨_, rfl⟩
          rw [hvv] at hU hR
          have hvz : vv.size ≤ s.size := by
            rw [← hvv]
            show v.toArray.size ≤ _
            simpa using hvl
          obtain ⟨nm, hnm⟩ : ∃ nm, s.extract at_ i = nm := ⟨_, rfl⟩
          have hnd : (⟨((s.data.toList.drop at_).take (i - at_)).toArray⟩ : ByteArray) = nm := by rw [← hnm, ← Lib.extract_data, Lib.mk_data]
          rw [hnd] at hR
          have hnz : nm.size ≤ s.size := by rw [← hnm, ByteArray.size_extract]; omega
          have hen : i + (g + n) ≤ s.size := by have := Lib.size_eq s; omega
          obtain ⟨x, hx⟩ : ∃ x : Rul, x = ⟨nm, (o : Int), vv⟩ := ⟨_, rfl⟩
          have hxa : nm = x.a := by rw [hx]
          have hxo : (o : Int) = x.op := by rw [hx]
          have hxb : vv = x.b := by rw [hx]
          rw [← hx] at hR
          have hok' : ∀ y ∈ out ++ [x], y.a.size ≤ s.size ∧ y.b.size ≤ s.size ∧ 0 ≤ y.op ∧ y.op ≤ 4 := fun y hy => by
            rcases List.mem_append.1 hy with h | h
            · exact hok y h
            · rw [List.mem_singleton.1 h, hx]; exact ⟨hnz, hvz, by show (0 : Int) ≤ o; omega, by show (o : Int) ≤ 4; omega⟩
          have eA := hide (rsV_snoc out x)
          have hn0 : ((n : Int) == 0) = false := by rw [beq_eq_false_iff_ne]; omega
          have hi4 : (at_ : Int) ≤ i := by omega
          have hot : out.length ≤ 3000000000000 := by omega
          have hxc : x.cells = [.string nm, .int .i64 o, .string vv] := by rw [hx]; rfl
          have hx1 := hide hx
          have H := hide (⟨hok', hf, hen, hR, hn2⟩ : _ ∧ _ ∧ _ ∧ _ ∧ _)
          clear hKi hok hfirst hf hex hex2 hie hy hsg ho hgl hig hgg hu hi3 hn1 hn2 hvl hvv hvz hnd hnz hok' hR hx hxa hxo hxb
          go_wp2_with (first
            | (go_at_call 33; (with_reducible refine hS.mono ?_); rintro e w1 ⟨rfl, rfl⟩)
            | (go_at_call 34; (with_reducible refine (hU _).mono ?_); rintro e w2 ⟨rfl, hb2⟩; have hown2 := own_keep4 hown hb2; have hb02 := hb.trans (hb2.mono hqw); have hq2 : q ≤ w2.heap.size := Nat.le_trans hqw hb2.size)
            | (at_builtin; go_must (refine wpList_append_own _ rfl (.tmp 70) (.tmp 78) 25 rfl (q) 60 i0 (.agg #[.string ⟨#[]⟩, .int .i64 0, .string ⟨#[]⟩]) 3 40 Tryd.underlying25 hi hz0 hz1 hz2 rfl (by decide) _ (_) _ rfl ((hown2.alloc _)) ⟨w2.heap.size, 0, none⟩ 1 1 (x.cells) rfl rfl ?c1 ?c2 ?c3 ?c4 ?c5 ?_)))
          case c1 => first | exact fun j u hu => hu | (rw [hxc]; exact cells_new_at _ #[.string nm, .int .i64 o, .string vv] _ rfl) | (rw [hxc]; exact cells_new_at _ #[.string nm, .int .i64 o, .string vv] _ (by simp)) | exact cells_new_at _ #[.string nm, .int .i64 o, .string vv] _ rfl | exact cells_new_at _ #[.string nm, .int .i64 o, .string vv] _ (by simp)
          case c2 => exact fun u hu => rsV_one (l := [x]) (by rw [rsV_cons]; exact List.mem_append_left _ hu)
          case c3 => unfold maxLen; omega
          case c4 => omega
          case c5 => first | omega | (simp; omega)
          intro v' W1 hown1 hg1 _
          have hB1 := own_below (hb02.alloc hq2 _) (hown2.alloc _) hg1 (Nat.le_refl _) (by simp; omega)
          obtain ⟨o2, ho2⟩ : ∃ o2, out ++ [x] = o2 := ⟨_, rfl⟩
          have ho2l : o2.length = out.length + 1 := by rw [← ho2]; simp
          rw [← hxc, eA.out, ho2, ← ho2l] at hown1
          have hH := H.out
          rw [ho2] at hH
          obtain ⟨hok2, hf2, hen2, hR2, hn2⟩ := hH
          have hqW : q ≤ W1.heap.size := by rw [← hq]; exact hB1.size
          have hP1 := Rz.own hown1
          obtain ⟨A', c', rfl⟩ := hP1.shape
          have d3 : ((o2.length : Int) == 0) = false := by rw [beq_eq_false_iff_ne]; omega
          rw [show i + g + n = i + (g + n) from by omega] at hR2
          have hT := hide (⟨hR2, hf2, hoa, hn2, hok2, ho2l⟩ : _ ∧ _ ∧ _ ∧ _ ∧ _ ∧ _)
          have hcg1 := (hg.below (w' := W1) (by rw [hq]; exact hB1)).at_ o ho4
          clear hg1 hown2 hb02 hb2 hq2 hxc hcg hS hU eA H ho2 hx1 hR2 hf2 hoa hn2 hn0 hot hon ho4 ho2l
          by_cases hez : i + (g + n) = s.size
          · have hRn : R = none := by rw [← hT.out.1, drop_end (by omega)]
            subst hRn
            have e4 : ¬ ((i : Int) + (g + n) < s.size) := by omega
            have e5 : (s.size : Int) ≤ (i : Int) + (g + n) := by omega
            clear hez hen2 hok2
            go_wp2_with (first | (go_at_call 35; (with_reducible refine (hP _).mono ?_); rintro e w1 ⟨rfl, rfl⟩))
            (try rw [Exit.noGoto_ret])
            refine bodyPost_ret (v := .tuple #[.slice none 0 0, .int .i64 0]) (by simp [results, Tryd.results18, go_sem] <;> rfl) rfl ⟨⟨_, rfl, Rz.nil _⟩, ?_⟩
            first | exact hB1 | (rw [hq]; exact hB1)
          have hlt2 : i + (g + n) < s.size := by omega
          have e4 : (i : Int) + (g + n) < s.size := by omega
          have e5 : ¬ (s.size : Int) ≤ (i : Int) + (g + n) := by omega
          by_cases hz1 : s[i + (g + n)].toNat = 125
          · have b4 : ((s[i + (g + n)].toNat : Int) == 125) = true := by simp; omega
            have hR1 := mright_any _ o2 W1 hP1 (fun y hy => by have := hok2 y hy; unfold Rul.ok maxLen; omega)
            have hR3 := hT.out.1
            rw [drop_at hlt2] at hR3
            dsimp only at hR3
            rw [if_pos (UInt8.toNat_inj.1 hz1)] at hR3
            cases hrr : rightR o2 with
            | false =>
              rw [hrr] at hR3 hR1
              have hRn : R = none := by rw [← hR3]; rfl
              subst hRn
              clear hR3 hez hen2 hok2 hz1 hrr hown1
              go_wp2_with (go_at_call 15; (with_reducible refine hR1.mono ?_); rintro e w3 ⟨rfl, hb3⟩)
              (try rw [Exit.noGoto_ret])
              refine bodyPost_ret (v := .tuple #[.slice none 0 0, .int .i64 0]) (by simp [results, Tryd.results18, go_sem] <;> rfl) rfl ⟨⟨_, rfl, Rz.nil _⟩, ?_⟩
              first | exact hB1.trans (hb3.mono hqW) | (rw [hq]; exact hB1.trans (hb3.mono hqW))
            | true =>
              rw [hrr, if_pos rfl] at hR3
              rw [hrr] at hR1
              subst hR3
              clear hez hen2 hok2 hz1 hrr hown1
              go_wp2_with (go_at_call 15; (with_reducible refine hR1.mono ?_); rintro e w3 ⟨rfl, hb3⟩)
              (try rw [Exit.noGoto_ret])
              refine bodyPost_ret (v := .tuple #[.slice A' o2.length c', .int .i64 ((i : Int) + (g + n) + 1)]) (by simp [results, Tryd.results18, go_sem] <;> rfl) rfl ⟨⟨.slice A' o2.length c', ?_, hP1.below hb3⟩, ?_⟩
              · show _ = Ending.returned (.tuple #[_, .int .i64 ((i + (g + n) + 1 : Nat) : Int)])
                rw [show ((i + (g + n) + 1 : Nat) : Int) = (i : Int) + (g + n) + 1 from by omega]
              · first | exact hB1.trans (hb3.mono hqW) | (rw [hq]; exact hB1.trans (hb3.mono hqW))
          have b4 : ((s[i + (g + n)].toNat : Int) == 125) = false := by simp; omega
          by_cases hz2 : s[i + (g + n)].toNat = 44
          · have b5 : ((s[i + (g + n)].toNat : Int) != 44) = false := by simp; omega
            have b6 : ((s[i + (g + n)].toNat : Int) == 44) = true := by simp; omega
            have hHH := hide (show prq (fun r => scn r 32) (fun _ => true) f (s.data.toList.drop (i + (g + n) + 1)) (i + (g + n) + 1) o2 = R from by
              have hR3 := hT.out.1
              rw [drop_at hlt2] at hR3
              dsimp only at hR3
              rw [if_neg (fun e => hz1 (by rw [e]; rfl)), if_pos (UInt8.toNat_inj.1 hz2)] at hR3
              exact hR3)
            clear hez hen2 hok2 hz1 hz2
            go_wp2
            go_roundw
            case rel =>
              obtain ⟨_, hf2, hoa, hn2, hok2, ho2l⟩ := hT.out
              exact ⟨f, i + (g + n) + 1, o2, by omega, by omega, by omega, by omega, by go_num, (fun e => by rw [e] at ho2l; simp at ho2l), hHH.out, hok2, hown1, hB1⟩
            case measure => first | (simp [intOf]; done) | (simp [intOf]; omega)
          · have b5 : ((s[i + (g + n)].toNat : Int) != 44) = true := by simp; omega
            have b6 : ((s[i + (g + n)].toNat : Int) == 44) = false := by simp; omega
            have hRn : R = none := by
              have hR3 := hT.out.1
              rw [drop_at hlt2] at hR3
              dsimp only at hR3
              rw [if_neg (fun e => hz1 (by rw [e]; rfl)), if_neg (fun e => hz2 (by rw [e]; rfl))] at hR3
              exact hR3.symm
            subst hRn
            clear hez hen2 hok2 hz1 hz2
            go_wp2_with (first | (go_at_call 35; (with_reducible refine (hP _).mono ?_); rintro e w1 ⟨rfl, rfl⟩))
            (try rw [Exit.noGoto_ret])
            refine bodyPost_ret (v := .tuple #[.slice none 0 0, .int .i64 0]) (by simp [results, Tryd.results18, go_sem] <;> rfl) rfl ⟨⟨_, rfl, Rz.nil _⟩, ?_⟩
            first | exact hB1 | (rw [hq]; exact hB1)
set_option maxRecDepth 100000 in
set_option maxHeartbeats 16000000 in
theorem mparse_any (s : ByteArray) (hs : s.size ≤ 3000000000000) (w : World) (hg : Sg w) :
    Calls Tryd.prog 18 #[.string s] w fun e w' => (∃ u, e = .returned (.tuple #[u, .int .i64 ((psq s.data.toList).2 : Nat)]) ∧ Rz w' u (psq s.data.toList).1) ∧ Below w.heap.size w w' := by
  obtain ⟨i0, hi, hz0, hz1, hz2⟩ := info_parts infoR
  have hsz := Lib.size_eq s
  have hP := fun w => Tryd.strings_HasPrefix s ⟨#[123, 125]⟩ w
  simp only [Lib.hasPrefix] at hP
  rcases Nat.eq_zero_or_pos s.size with h0 | h0
  · have he := str_empty h0
    have he' : s.toList.isEmpty = true := by rw [he]; rfl
    have eR : psq s.data.toList = ([], 0) := by
      have : s.data.toList = [] := List.eq_nil_of_length_eq_zero (by omega)
      rw [this]; rfl
    rw [eR]
    clear eR hP hsz
    go_enter Tryd.func18, Tryd.ntmps18
    go_wp2
    go_step3
    go_wp2
    (try rw [Exit.noGoto_ret])
    refine bodyPost_ret (v := .tuple #[.slice none 0 0, .int .i64 0]) (by simp [results, Tryd.results18, go_sem] <;> rfl) rfl ⟨⟨_, rfl, Rz.nil _⟩, ?_⟩
    exact Below.refl _ _
  obtain ⟨he, he'⟩ := str_some h0
  have h0i : (0 : Int) < s.size := by omega
  have hd0 := drop_at h0
  rw [List.drop_zero] at hd0
  by_cases h1 : s[0].toNat = 123
  case neg =>
    have d1 : ((s[0].toNat : Int) != 123) = true := by simp; omega
    have d1' : ((s[0].toNat : Int) == 123) = false := by simp; omega
    have eR : psq s.data.toList = ([], 0) := by
      unfold psq
      rw [hd0, if_pos (by simp only [List.head?_cons, ne_eq, Option.some.injEq]; intro e; rw [e] at h1; exact h1 rfl)]
    rw [eR]
    clear eR hP hsz hd0 h1
    go_enter Tryd.func18, Tryd.ntmps18
    go_wp2
    go_step3
    go_wp2
    (try rw [Exit.noGoto_ret])
    refine bodyPost_ret (v := .tuple #[.slice none 0 0, .int .i64 0]) (by simp [results, Tryd.results18, go_sem] <;> rfl) rfl ⟨⟨_, rfl, Rz.nil _⟩, ?_⟩
    exact Below.refl _ _
  have d1 : ((s[0].toNat : Int) != 123) = false := by simp; omega
  have d1' : ((s[0].toNat : Int) == 123) = true := by simp; omega
  have hh : s.data.toList.head? = some 123 := by rw [hd0]; simp only [List.head?_cons]; congr 1; exact UInt8.toNat_inj.1 h1
  have hd1 : s.data.toList = 123 :: s.data.toList.drop 1 := by
    conv => lhs; rw [hd0]
    congr 1
    exact UInt8.toNat_inj.1 h1
  by_cases h2 : (s.data.toList.drop 1).head? = some 125
  · have eR : psq s.data.toList = ([], 2) := by unfold psq; rw [if_neg (by rw [hh]; simp), if_pos h2]
    have l1 : 1 < s.size := by
      rcases Nat.lt_or_ge 1 s.size with h | h
      · exact h
      · rw [drop_end h] at h2; cases h2
    have hdd := drop_at l1
    have h3 : s[1].toNat = 125 := by
      rw [hdd] at h2
      simp only [List.head?_cons, Option.some.injEq] at h2
      rw [h2]; rfl
    have d2 : ((s[1].toNat : Int) != 125) = false := by simp; omega
    have d2' : ((s[1].toNat : Int) == 125) = true := by simp; omega
    have hpf : (⟨#[123, 125]⟩ : ByteArray).data.toList.isPrefixOf s.data.toList = true := by
      rw [hd1, hdd]
      have : s[1] = 125 := UInt8.toNat_inj.1 h3
      simp [List.isPrefixOf, this]
    simp only [hpf] at hP
    have l1i : (1 : Int) < s.size := by omega
    rw [eR]
    clear eR hsz hd0 hh hd1 h2 hdd h3 hpf h1
    go_enter Tryd.func18, Tryd.ntmps18
    go_wp2
    go_step3
    go_wp2
    go_step3
    go_wp2
    go_loopw [4, 5] (fun s4 s5 wr => s4 = .slice none 0 0 ∧ s5 = .int .i64 1 ∧ wr = w) (fun _ s5 _ => 0)
    case atStart => exact ⟨rfl, rfl, rfl⟩
    case round =>
      obtain ⟨rfl, rfl, rfl⟩ := hrel
      go_wp2_with (go_at_call 35; (with_reducible refine (hP _).mono ?_); rintro e w1 ⟨rfl, rfl⟩)
      (try rw [Exit.noGoto_ret])
      refine bodyPost_ret (v := .tuple #[.slice none 0 0, .int .i64 2]) (by simp [results, Tryd.results18, go_sem] <;> rfl) rfl ⟨⟨_, rfl, Rz.nil _⟩, Below.refl _ _⟩
  exact mparse_main s hs w hg h0 h1 hh hd1 h2
end Go.Proofs.YtamnononemallaaDoor
