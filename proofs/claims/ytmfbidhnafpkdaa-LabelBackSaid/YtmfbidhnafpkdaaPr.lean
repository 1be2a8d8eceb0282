import Derived.Test.YtmfbidhnafpkdaaPp
import Derived.Test.YtmfbidhnafpkdaaRm
/-! The document's: the set that a text is. -/
namespace Go.Proofs.Ytmfbidhnafpkdaa
open Go.RowKit
set_option linter.unusedVariables false
set_option linter.unusedSimpArgs false
theorem fE_is : ∀ {l : List UInt8} {i : Nat}, l[i]? = some 61 → (∀ j, j < i → l[j]? ≠ some 61) → fE l = some i
  | [], i, h, _ => by cases h
  | x :: l, 0, h, _ => by
    have : x = 61 := by simpa using h
    simp [fE, this]
  | x :: l, i + 1, h, hn => by
    have h0 : ¬ x = 61 := by have := hn 0 (by omega); simpa using this
    have := fE_is (l := l) (i := i) (by simpa using h) (fun j hj => by have := hn (j + 1) (by omega); simpa using this)
    simp [fE, h0, this]
theorem fE_no : ∀ {l : List UInt8}, (∀ j : Nat, l[j]? ≠ some 61) → fE l = none
  | [], _ => rfl
  | x :: l, h => by
    have h0 : ¬ x = 61 := by have := h 0; simpa using this
    have := fE_no (l := l) (fun j => by have := h (j + 1); simpa using this)
    simp [fE, h0, this]
theorem byte_get {s : ByteArray} {j : Nat} (h : j < s.size) : s.data.toList[j]? = some s[j] := by
  have h' : j < s.data.toList.length := by rw [Array.length_toList]; exact h
  rw [List.getElem?_eq_getElem h']
  rfl
theorem u8_lit {x : UInt8} {k : Nat} {c : UInt8} (hc : c.toNat = k) : x.toNat = k ↔ x = c := ⟨fun h => UInt8.toNat_inj.1 (by rw [h, hc]), fun h => by rw [h, hc]⟩
set_option maxRecDepth 100000 in
set_option maxHeartbeats 16000000 in
theorem rparse_any (s : ByteArray) (hs : s.size ≤ maxLen) (w : World) :
    Calls Try.prog 31 #[.string s] w fun e w' => (∃ u, e = .returned (.tuple #[u, .int .i64 (psE s.data.toList)]) ∧ Pz w' u (psR s.data.toList)) ∧ Below w.heap.size w w' := by
  obtain ⟨i0, hi, hz0, hz1, hz2⟩ := info_parts infoQ
  unfold maxLen at hs
  have hsz := Lib.size_eq s
  have hbadE : psO s.data.toList = none → psE s.data.toList = 10 ∧ psR s.data.toList = [] := fun e0 => by unfold psE psR; rw [e0]; exact ⟨rfl, rfl⟩
  by_cases h4 : 4096 < s.size
  · have d4 : decide ((4096 : Int) < s.size) = true := decide_eq_true (by omega)
    obtain ⟨e1, e2⟩ := hbadE (by unfold psO; rw [if_pos (.inl (by omega))])
    rw [e1, e2]
    clear e1 e2 hsz h4 hbadE
    go_enter Try.func31, Try.ntmps31
    go_wp2
    refine bodyPost_ret (v := .tuple #[.slice none 0 0, .int .i64 10]) (by simp [results, Try.results31, go_sem] <;> rfl) rfl ⟨⟨_, rfl, Pz.nil _⟩, ?_⟩
    exact Below.refl _ _
  have d4 : decide ((4096 : Int) < s.size) = false := decide_eq_false (by omega)
  by_cases h2 : s.size < 2
  · have d2 : decide ((s.size : Int) < 2) = true := decide_eq_true (by omega)
    obtain ⟨e1, e2⟩ := hbadE (by unfold psO; rw [if_pos (.inr (.inl (by omega)))])
    rw [e1, e2]
    clear e1 e2 hsz h4 hbadE h2
    go_enter Try.func31, Try.ntmps31
    go_wp2
    refine bodyPost_ret (v := .tuple #[.slice none 0 0, .int .i64 10]) (by simp [results, Try.results31, go_sem] <;> rfl) rfl ⟨⟨_, rfl, Pz.nil _⟩, ?_⟩
    exact Below.refl _ _
  have d2 : decide ((s.size : Int) < 2) = false := decide_eq_false (by omega)
  have h0 : 0 < s.size := by omega
  have h0i : (0 : Int) < s.size := by omega
  by_cases h1 : s[0].toNat = 123
  · have d1 : ((s[0].toNat : Int) != 123) = false := by simp; omega
    have d1' : ((s[0].toNat : Int) == 123) = true := by simp; omega
    have hh : s.data.toList.head? = some 123 := by rw [head_at h0]; congr 1; exact UInt8.toNat_inj.1 h1
    have hcons : s.data.toList = 123 :: s.data.toList.drop 1 := by
      cases hl : s.data.toList with
      | nil => rw [hl] at hh; cases hh
      | cons a b => rw [hl] at hh; cases hh; rfl
    have hb1 := toL_eq s [123, 125]
    obtain ⟨q, hq⟩ : ∃ q, w.heap.size = q := ⟨_, rfl⟩
    by_cases hone : s.data.toList.drop 1 = [125]
    · rw [decide_eq_true (by rw [hcons, hone])] at hb1
      have e0 : psO s.data.toList = some [] := by
        unfold psO
        rw [if_neg (by rw [hh]; simp; omega), if_pos hone]
      have e1 : psE s.data.toList = 0 := by unfold psE; rw [e0]; rfl
      have e2 : psR s.data.toList = [] := by unfold psR; rw [e0]; rfl
      rw [e1, e2]
      clear e0 e1 e2 hbadE hsz hh h1 h4 h2 hone hcons
      go_enter Try.func31, Try.ntmps31
      go_wp2
      refine bodyPost_ret (v := .tuple #[.slice none 0 0, .int .i64 0]) (by simp [results, Try.results31, go_sem] <;> rfl) rfl ⟨⟨.slice none 0 0, rfl, Pz.nil _⟩, Below.refl _ _⟩
    · rw [decide_eq_false (by intro e; rw [e] at hone; exact hone rfl)] at hb1
      have e0 : psO s.data.toList = prs s.size (s.data.toList.drop 1) [] := by
        unfold psO
        rw [if_neg (by rw [hh]; simp; omega), if_neg hone, ← hsz]
      generalize hR : prs s.size (s.data.toList.drop 1) [] = R at *
      have e1 : psE s.data.toList = psEo R := by unfold psE; rw [e0]
      have e2 : psR s.data.toList = psRo R := by unfold psR; rw [e0]
      rw [e1, e2]
      have hsN : s.size ≤ 4096 := by omega
      have h2' : 2 ≤ s.size := by omega
      have hszH := hide hsz
      clear e0 e1 e2 hbadE hh h1 h4 h2 hone hcons hsz
      go_enter Try.func31, Try.ntmps31
      go_wp2
      go_loopw [4, 5] (fun s4 s5 wr => ∃ (f : Nat) (acc : List Par) (t : Nat), 1 ≤ t ∧ t ≤ s.size ∧ s.size - t ≤ f ∧ acc.length ≤ t ∧ s5 = .int .i64 (t : Int) ∧ prs f (s.data.toList.drop t) acc = R ∧ (∀ x ∈ acc, x.a.size ≤ 4096 ∧ x.b.size ≤ 4096) ∧ wr.ownsRow q 50 2 s4 acc.length (psV acc) ∧ Below q w wr) (fun _ s5 _ => ((s.size : Int) - intOf s5).toNat)
      case atStart => exact ⟨s.size, [], 1, by omega, by omega, by omega, by simp, rfl, hR, (fun x hx => by cases hx), World.ownsRow_nil _ _ _ _, by rw [← hq]; exact Below.refl _ _⟩
      case round =>
        clear hR hb1 d1 d1' d2 d4
        obtain ⟨f, acc, t, ht1, hts, htf, hta, rfl, hR, hok, hown, hb⟩ := hrel
        obtain ⟨Wo, rfl⟩ : ∃ Wo : World, Wo = wr := ⟨_, rfl⟩
        have hqw : q ≤ Wo.heap.size := by rw [← hq]; exact hb.size
        go_wp2
        go_loopw [5] (fun s5 U => ∃ c : Nat, t ≤ c ∧ c ≤ s.size ∧ s5 = .int .i64 (c : Int) ∧ (∀ j : Nat, t ≤ j → j < c → s.data.toList[j]? ≠ some 61) ∧ U = Wo) (fun s5 _ => ((s.size : Int) - intOf s5).toNat)
        case atStart => exact ⟨t, by omega, by omega, rfl, fun j h1 h2 => by omega, rfl⟩
        case round =>
          obtain ⟨c, htc, hcs, rfl, hno, rfl⟩ := hrel
          by_cases hlt : c < s.size
          · have hii : (c : Int) < s.size := by omega
            by_cases h61 : s[c].toNat = 61
            · have hsz := hszH.out
              have d1 : ((s[c].toNat : Int) != 61) = false := by simp; omega
              have d1' : ((s[c].toNat : Int) == 61) = true := by simp; omega
              have hfe : fE (s.data.toList.drop t) = some (c - t) := fE_is (by rw [List.getElem?_drop, show t + (c - t) = c by omega, byte_get hlt]; congr 1; exact UInt8.toNat_inj.1 h61) (fun j hj => by rw [List.getElem?_drop]; exact hno (t + j) (by omega) (by omega))
              obtain ⟨na, hna⟩ : ∃ na, s.extract t c = na := ⟨_, rfl⟩
              obtain ⟨mo, hmo⟩ : ∃ mo, s.extract (c + 1) s.size = mo := ⟨_, rfl⟩
              have hnad : (⟨((s.data.toList.drop t).take (c - t)).toArray⟩ : ByteArray) = na := by rw [← hna, Lib.extract_eq]
              have hmd : mo.data.toList = (s.data.toList.drop t).drop (c - t + 1) := by
                rw [← hmo, Lib.extract_data, List.drop_drop, show t + (c - t + 1) = c + 1 by omega, List.take_of_length_le (by rw [List.length_drop]; omega)]
              have hmz : mo.size = s.size - (c + 1) := by rw [Lib.size_eq, hmd, List.drop_drop, List.length_drop]; omega
              have hnz : na.size ≤ 4096 := by
                rw [← hnad]
                show ((s.data.toList.drop t).take (c - t)).toArray.size ≤ 4096
                rw [List.size_toArray, List.length_take]; omega
              have hU := fun w => runq_any mo (by omega) w
              rw [hmd] at hU
              obtain ⟨f', rfl⟩ : ∃ f', f = f' + 1 := ⟨f - 1, by omega⟩
              rw [prs_step hfe, hnad] at hR
              have k1 : (c : Int) + 1 ≤ s.size := by omega
              have k2 : (0 : Int) ≤ (c : Int) + 1 := by omega
              have k3 : (t : Int) ≤ c := by omega
              have k4 : ¬ ((s.size : Int) ≤ c) := by omega
              have k5 : ((c : Int) + 1).toNat = c + 1 := by omega
              have k6 : (c : Int) ≤ s.size := by omega
              cases hu : uqL ((s.data.toList.drop t).drop (c - t + 1)) with
              | none =>
                rw [hu] at hU hR
                dsimp only [uqT, uqN] at hU hR
                subst hR
                clear hfe hnad hmd hmz hnz hu hno htf hta h61 hsz
                go_wp2_with (first | (go_at_call 26; (with_reducible refine (hU _).mono ?_); rintro e w2 ⟨rfl, hb2⟩))
                refine bodyPost_ret (v := .tuple #[.slice none 0 0, .int .i64 10]) (by simp [results, Try.results31, go_sem] <;> rfl) rfl ⟨⟨_, rfl, Pz.nil _⟩, ?_⟩
                rw [hq]
                exact hb.trans (hb2.mono hqw)
              | some p =>
                obtain ⟨v, n⟩ := p
                obtain ⟨hn1, hn2⟩ := uqL_len hu
                rw [List.drop_drop, List.length_drop] at hn1
                have hvl : v.length ≤ n := by
                  obtain ⟨_, _, e5⟩ := uqL_inv hu
                  rw [e5]
                  have := qB_len1 v
                  simp only [qL, List.length_cons, List.length_append, List.length_nil]; omega
                rw [hu] at hU hR
                dsimp only [uqT, uqN] at hU hR
                obtain ⟨vv, hvv⟩ : ∃ vv, (⟨v.toArray⟩ : ByteArray) = vv := ⟨_, rfl⟩
                rw [hvv] at hU hR
                have hvz : vv.size ≤ 4096 := by
                  rw [← hvv]
                  show v.toArray.size ≤ 4096
                  simp; omega
                obtain ⟨x, hx⟩ : ∃ x : Par, x = ⟨na, vv⟩ := ⟨_, rfl⟩
                have hxa : na = x.a := by rw [hx]
                have hxb : vv = x.b := by rw [hx]
                rw [← hx] at hR
                subst hxa hxb
                have hok' : ∀ y ∈ acc ++ [x], y.a.size ≤ 4096 ∧ y.b.size ≤ 4096 := fun y hy => by
                  rcases List.mem_append.1 hy with h | h
                  · exact hok y h
                  · rw [List.mem_singleton.1 h]; exact ⟨hnz, hvz⟩
                have ha4 : acc.length ≤ 4096 := by omega
                have eA := hide (psV_snoc acc x)
                obtain ⟨e, he⟩ : ∃ e, e = c + 1 + n := ⟨_, rfl⟩
                have hdr : (s.data.toList.drop t).drop (c - t + 1 + n) = s.data.toList.drop e := by rw [List.drop_drop]; congr 1; omega
                rw [hdr] at hR
                have heI : (c : Int) + 1 + (n : Int) = (e : Int) := by omega
                obtain ⟨m1, hm1⟩ : ∃ m1, m1 = s.size - 1 := ⟨_, rfl⟩
                have hm1I : (s.size : Int) - 1 = (m1 : Int) := by omega
                have hn0 : ((n : Int) == 0) = false := by simp; omega
                have hn0' : ¬ ((n : Int) = 0) := by omega
                have hn0n : ¬ (n = 0) := by omega
                have hes : e ≤ s.size := by omega
                have hlen' : (acc ++ [x]).length ≤ e + 1 := by simp; omega
                have hFF := hide (⟨he, hm1, hok', hlen', htf, htc⟩ : _ ∧ _ ∧ _ ∧ _ ∧ _ ∧ _)
                clear hsz hfe hnad hmd hmz hnz hu hno h61 hvl hvv hvz hx hok hok' hdr hn1 hn2 hlen' he hm1
                rcases Nat.lt_or_ge e s.size with hel | hel
                · have g1 : (e : Int) < s.size := by omega
                  have g2 : ¬ ((s.size : Int) ≤ e) := by omega
                  have hde := drop_at hel
                  rw [hde] at hR
                  have hem : (e = m1 ∧ s[e].toNat = 125) ∨ ¬ (e = m1 ∧ s[e].toNat = 125) := Classical.em _
                  rcases hem with ⟨hem, h125⟩ | hem
                  · have f1 : ((e : Int) == (m1 : Int)) = true := by simp; omega
                    have f2 : ((s[e].toNat : Int) == 125) = true := by simp; omega
                    have hRs : R = some (acc ++ [x]) := by
                      rw [← hR, if_pos (by
                        have h3 := hszH.out
                        have h4 := hFF.out.2.1
                        rw [List.drop_eq_nil_of_le (by omega)]
                        congr 1
                        exact UInt8.toNat_inj.1 h125)]
                    subst hRs
                    clear hR hem h125 hde
                    go_wp2_with (first
                      | (go_at_call 26; (with_reducible refine (hU _).mono ?_); rintro e w2 ⟨rfl, hb2'⟩; have hown2 := own_keep3 hown hb2'; have hb02 : Below q w w2 := hb.trans (hb2'.mono hqw); have hq2 : q ≤ w2.heap.size := Nat.le_trans hqw hb2'.size)
                      | (at_builtin; go_must (refine wpList_append_own _ rfl (.tmp 56) (.tmp 60) 24 rfl (q) 50 i0 (.agg #[.string ⟨#[]⟩, .string ⟨#[]⟩]) 2 32 Try.underlying24 hi hz0 hz1 hz2 rfl (by decide) _ (acc.length) _ rfl ((hown2.alloc _)) ⟨_, 0, none⟩ 1 1 (x.cells) rfl rfl ?c1 ?c2 ?c3 ?c4 ?c5 ?_)))
                    case c1 => first | exact fun j u hu => hu | exact cells_new_at _ #[.string x.a, .string x.b] _ rfl | exact cells_new_at _ #[.string x.a, .string x.b] _ (by simp)
                    case c2 => exact fun u hu => psV_one (l := [x]) (by rw [psV_cons]; exact List.mem_append_left _ hu)
                    case c3 => unfold maxLen; omega
                    case c4 => omega
                    case c5 => first | omega | (simp; omega)
                    intro v' W1 hown1 hg1 _
                    have hB1 := own_below (hb02.alloc hq2 _) (hown2.alloc _) hg1 (Nat.le_refl _) (by simp; omega)
                    rw [eA.out] at hown1
                    have hl1 : acc.length + 1 = (acc ++ [x]).length := by simp
                    rw [hl1] at hown1
                    clear hg1 hown hown2 hb2' hb02 hb hl1
                    generalize hout : acc ++ [x] = out at *
                    have hout := hide hout
                    have hP := Pz.own hown1
                    have hR1 := rright_any _ out W1 hP (fun y hy => by have := hFF.out.2.2.1 y hy; unfold Par.ok maxLen; omega)
                    obtain ⟨AP, cP, rfl⟩ := hP.shape
                    cases hr : rightL out with
                    | false =>
                      rw [hr] at hR1
                      have hr := hide hr
                      clear hown1 hP
                      go_wp2_with (first | (go_at_call 21; (with_reducible refine hR1.mono ?_); rintro e w3 ⟨rfl, hb3⟩))
                      refine bodyPost_ret (v := .tuple #[.slice none 0 0, .int .i64 40]) (by simp [results, Try.results31, go_sem] <;> rfl) rfl ⟨⟨.slice none 0 0, ?_, ?_⟩, ?_⟩
                      rotate_left 1
                      · rw [hout.out, psRo, hr.out]; exact Pz.nil _
                      · rw [hq]; exact hB1.trans (hb3.mono (by have := hB1.size; omega))
                      · rw [hout.out, psEo, hr.out]; rfl
                    | true =>
                      rw [hr] at hR1
                      have hr := hide hr
                      clear hown1
                      go_wp2_with (first | (go_at_call 21; (with_reducible refine hR1.mono ?_); rintro e w3 ⟨rfl, hb3⟩))
                      refine bodyPost_ret (v := .tuple #[.slice AP out.length cP, .int .i64 0]) (by simp [results, Try.results31, go_sem] <;> rfl) rfl ⟨⟨.slice AP out.length cP, ?_, ?_⟩, ?_⟩
                      rotate_left 1
                      · rw [hout.out, psRo, hr.out]; exact hP.below hb3
                      · rw [hq]; exact hB1.trans (hb3.mono (by have := hB1.size; omega))
                      · rw [hout.out, psEo, hr.out]; rfl
                  · have hne : ¬ (s[e] :: s.data.toList.drop (e + 1) = [125]) := fun h => hem (by
                      have h3 := hszH.out
                      have h4 := hFF.out.2.1
                      injection h with h5 h6
                      have h7 := congrArg List.length h6
                      rw [List.length_drop] at h7
                      simp only [List.length_nil] at h7
                      exact ⟨by omega, by rw [h5]; rfl⟩)
                    rw [if_neg hne] at hR
                    dsimp only at hR
                    have hfs : (((e : Int) == (m1 : Int)) = false) ∨ (((e : Int) == (m1 : Int)) = true ∧ ((s[e].toNat : Int) == 125) = false) := by
                      by_cases h3 : e = m1
                      · right
                        refine ⟨by simp; omega, ?_⟩
                        have : ¬ s[e].toNat = 125 := fun h4 => hem ⟨h3, h4⟩
                        simp; omega
                      · left; simp; omega
                    by_cases h44 : s[e].toNat = 44
                    · have d4 : ((s[e].toNat : Int) != 44) = false := by simp; omega
                      have d4' : ((s[e].toNat : Int) == 44) = true := by simp; omega
                      rw [if_pos (UInt8.toNat_inj.1 h44)] at hR
                      have hGG := hide hR
                      clear hR hem hne hde h44
                      rcases hfs with f1 | ⟨f1, f2⟩
                      all_goals
                        go_wp2_with (first
                          | (go_at_call 26; (with_reducible refine (hU _).mono ?_); rintro e w2 ⟨rfl, hb2'⟩; have hown2 := own_keep3 hown hb2'; have hb02 : Below q w w2 := hb.trans (hb2'.mono hqw); have hq2 : q ≤ w2.heap.size := Nat.le_trans hqw hb2'.size)
                          | (at_builtin; go_must (refine wpList_append_own _ rfl (.tmp 56) (.tmp 60) 24 rfl (q) 50 i0 (.agg #[.string ⟨#[]⟩, .string ⟨#[]⟩]) 2 32 Try.underlying24 hi hz0 hz1 hz2 rfl (by decide) _ (acc.length) _ rfl ((hown2.alloc _)) ⟨_, 0, none⟩ 1 1 (x.cells) rfl rfl ?c1 ?c2 ?c3 ?c4 ?c5 ?_)))
                        case c1 => first | exact fun j u hu => hu | exact cells_new_at _ #[.string x.a, .string x.b] _ rfl | exact cells_new_at _ #[.string x.a, .string x.b] _ (by simp)
                        case c2 => exact fun u hu => psV_one (l := [x]) (by rw [psV_cons]; exact List.mem_append_left _ hu)
                        case c3 => unfold maxLen; omega
                        case c4 => omega
                        case c5 => first | omega | (simp; omega)
                        intro v' W1 hown1 hg1 _
                        have hB1 := own_below (hb02.alloc hq2 _) (hown2.alloc _) hg1 (Nat.le_refl _) (by simp; omega)
                        rw [eA.out] at hown1
                        have hl1 : acc.length + 1 = (acc ++ [x]).length := by simp
                        rw [hl1] at hown1
                        clear hg1 hown hown2 hb2' hb02 hb hl1
                        generalize hout : acc ++ [x] = out at *
                        have hout := hide hout
                        go_wp2
                        go_roundw
                        case rel =>
                          obtain ⟨he, hm1, hok', hlen', htf, htc⟩ := hFF.out
                          exact ⟨f', out, e + 1, by omega, by omega, by omega, by omega, by go_num, hGG.out, hok', hown1, hB1⟩
                        case measure =>
                          have := hFF.out.1
                          simp [intOf]; omega
                    · have d4 : ((s[e].toNat : Int) != 44) = true := by simp; omega
                      have d4' : ((s[e].toNat : Int) == 44) = false := by simp; omega
                      rw [if_neg (fun h => h44 (by rw [h]; rfl))] at hR
                      subst hR
                      clear hem hne hde h44
                      rcases hfs with f1 | ⟨f1, f2⟩
                      all_goals
                        go_wp2_with (first
                          | (go_at_call 26; (with_reducible refine (hU _).mono ?_); rintro e w2 ⟨rfl, hb2'⟩; have hown2 := own_keep3 hown hb2'; have hb02 : Below q w w2 := hb.trans (hb2'.mono hqw); have hq2 : q ≤ w2.heap.size := Nat.le_trans hqw hb2'.size)
                          | (at_builtin; go_must (refine wpList_append_own _ rfl (.tmp 56) (.tmp 60) 24 rfl (q) 50 i0 (.agg #[.string ⟨#[]⟩, .string ⟨#[]⟩]) 2 32 Try.underlying24 hi hz0 hz1 hz2 rfl (by decide) _ (acc.length) _ rfl ((hown2.alloc _)) ⟨_, 0, none⟩ 1 1 (x.cells) rfl rfl ?c1 ?c2 ?c3 ?c4 ?c5 ?_)))
                        case c1 => first | exact fun j u hu => hu | exact cells_new_at _ #[.string x.a, .string x.b] _ rfl | exact cells_new_at _ #[.string x.a, .string x.b] _ (by simp)
                        case c2 => exact fun u hu => psV_one (l := [x]) (by rw [psV_cons]; exact List.mem_append_left _ hu)
                        case c3 => unfold maxLen; omega
                        case c4 => omega
                        case c5 => first | omega | (simp; omega)
                        intro v' W1 hown1 hg1 _
                        have hB1 := own_below (hb02.alloc hq2 _) (hown2.alloc _) hg1 (Nat.le_refl _) (by simp; omega)
                        rw [eA.out] at hown1
                        have hl1 : acc.length + 1 = (acc ++ [x]).length := by simp
                        rw [hl1] at hown1
                        clear hg1 hown hown2 hb2' hb02 hb hl1
                        generalize hout : acc ++ [x] = out at *
                        have hout := hide hout
                        go_wp2
                        refine bodyPost_ret (v := .tuple #[.slice none 0 0, .int .i64 10]) (by simp [results, Try.results31, go_sem] <;> rfl) rfl ⟨⟨_, rfl, Pz.nil _⟩, ?_⟩
                        rw [hq]
                        exact hB1
                · have hRn : R = none := by
                    rw [← hR, drop_end hel]
                    rfl
                  have g2 : (s.size : Int) ≤ e := by omega
                  have f1 : ((e : Int) == (m1 : Int)) = false := by have := hFF.out.2.1; simp; omega
                  subst hRn
                  clear hR
                  go_wp2_with (first
                    | (go_at_call 26; (with_reducible refine (hU _).mono ?_); rintro e w2 ⟨rfl, hb2'⟩; have hown2 := own_keep3 hown hb2'; have hb02 : Below q w w2 := hb.trans (hb2'.mono hqw); have hq2 : q ≤ w2.heap.size := Nat.le_trans hqw hb2'.size)
                    | (at_builtin; go_must (refine wpList_append_own _ rfl (.tmp 56) (.tmp 60) 24 rfl (q) 50 i0 (.agg #[.string ⟨#[]⟩, .string ⟨#[]⟩]) 2 32 Try.underlying24 hi hz0 hz1 hz2 rfl (by decide) _ (acc.length) _ rfl ((hown2.alloc _)) ⟨_, 0, none⟩ 1 1 (x.cells) rfl rfl ?c1 ?c2 ?c3 ?c4 ?c5 ?_)))
                  case c1 => first | exact fun j u hu => hu | exact cells_new_at _ #[.string x.a, .string x.b] _ rfl | exact cells_new_at _ #[.string x.a, .string x.b] _ (by simp)
                  case c2 => exact fun u hu => psV_one (l := [x]) (by rw [psV_cons]; exact List.mem_append_left _ hu)
                  case c3 => unfold maxLen; omega
                  case c4 => omega
                  case c5 => first | omega | (simp; omega)
                  intro v' W1 hown1 hg1 _
                  have hB1 := own_below (hb02.alloc hq2 _) (hown2.alloc _) hg1 (Nat.le_refl _) (by simp; omega)
                  rw [eA.out] at hown1
                  have hl1 : acc.length + 1 = (acc ++ [x]).length := by simp
                  rw [hl1] at hown1
                  clear hg1 hown hown2 hb2' hb02 hb hl1
                  generalize hout : acc ++ [x] = out at *
                  have hout := hide hout
                  go_wp2
                  refine bodyPost_ret (v := .tuple #[.slice none 0 0, .int .i64 10]) (by simp [results, Try.results31, go_sem] <;> rfl) rfl ⟨⟨_, rfl, Pz.nil _⟩, ?_⟩
                  rw [hq]
                  exact hB1
            · have d1 : ((s[c].toNat : Int) != 61) = true := by simp; omega
              have d1' : ((s[c].toNat : Int) == 61) = false := by simp; omega
              have hN := hide (show ∀ j : Nat, t ≤ j → j < c + 1 → s.data.toList[j]? ≠ some 61 from fun j h1 h2 => by
                rcases Nat.lt_or_ge j c with h3 | h3
                · exact hno j h1 h3
                · obtain rfl : j = c := by omega
                  rw [byte_get hlt]
                  intro e
                  injection e with e
                  rw [e] at h61
                  exact h61 rfl)
              clear hno h61
              go_wp2
              go_roundw
              case rel => exact ⟨c + 1, by omega, by omega, by go_num, hN.out, by trivial⟩
              case measure => simp [intOf]; omega
          · obtain rfl : c = s.size := by omega
            have hRn : R = none := by
              have hsz := hszH.out
              rw [← hR]
              exact prs_noeq (fE_no fun j => by
                rw [List.getElem?_drop]
                rcases Nat.lt_or_ge (t + j) s.size with h3 | h3
                · exact hno (t + j) (by omega) h3
                · rw [List.getElem?_eq_none (by omega)]; simp)
            subst hRn
            clear hno hR
            go_wp2
            refine bodyPost_ret (v := .tuple #[.slice none 0 0, .int .i64 10]) (by simp [results, Try.results31, go_sem] <;> rfl) rfl ⟨⟨_, rfl, Pz.nil _⟩, ?_⟩
            rw [hq]
            exact hb
  · have d1 : ((s[0].toNat : Int) != 123) = true := by simp; omega
    have d1' : ((s[0].toNat : Int) == 123) = false := by simp; omega
    obtain ⟨e1, e2⟩ := hbadE (by unfold psO; rw [if_pos (.inr (.inr (by rw [head_at h0]; intro e; injection e with e; rw [e] at h1; exact h1 rfl)))])
    rw [e1, e2]
    clear e1 e2 hsz h4 hbadE h2
    go_enter Try.func31, Try.ntmps31
    go_wp2
    refine bodyPost_ret (v := .tuple #[.slice none 0 0, .int .i64 10]) (by simp [results, Try.results31, go_sem] <;> rfl) rfl ⟨⟨_, rfl, Pz.nil _⟩, ?_⟩
    exact Below.refl _ _
end Go.Proofs.Ytmfbidhnafpkdaa
