import Derived.Test.YtmfbidhnafpkdaaRm
import Derived.WalkSpells
import Derived.WalkLawsBesides
import Derived.WalkMore
/-! The document's: labels sorted; the set of any labels. -/
namespace Go.Proofs.Ytmfbidhnafpkdaa
open Go.RowKit
set_option linter.unusedVariables false
set_option linter.unusedSimpArgs false
def insL (Q : List Par) (at_ : Nat) (x : Par) : List Par := Q.take at_ ++ x :: Q.drop at_
theorem insL_perm (Q : List Par) (at_ : Nat) (x : Par) : (insL Q at_ x).Perm (x :: Q) := by
  unfold insL
  refine List.perm_middle.trans (List.Perm.cons x ?_)
  rw [List.take_append_drop]
theorem insL_sort {Q : List Par} {at_ : Nat} {x : Par} (hs : Q.Pairwise leN) (hle : at_ ≤ Q.length) (h1 : ∀ (c : Nat) (y : Par), at_ ≤ c → Q[c]? = some y → leN x y) (h2 : at_ = 0 ∨ ∃ y, Q[at_ - 1]? = some y ∧ leN y x) : (insL Q at_ x).Pairwise leN := by
  unfold insL
  rw [List.pairwise_append]
  have hx : ∀ y ∈ Q.drop at_, leN x y := fun y hy => by
    obtain ⟨i, hi⟩ := List.getElem?_of_mem hy
    rw [List.getElem?_drop] at hi
    exact h1 _ y (by omega) hi
  have hy : ∀ y ∈ Q.take at_, leN y x := fun y hy => by
    obtain ⟨i, hi⟩ := List.getElem?_of_mem hy
    have hil : i < at_ := by have := (List.getElem?_eq_some_iff.1 hi).1; rw [List.length_take] at this; omega
    rw [List.getElem?_take_of_lt hil] at hi
    rcases h2 with h2 | ⟨z, hz, hl⟩
    · omega
    · rcases Nat.lt_or_ge i (at_ - 1) with h | h
      · obtain ⟨h3, rfl⟩ := List.getElem?_eq_some_iff.1 hi
        obtain ⟨h4, rfl⟩ := List.getElem?_eq_some_iff.1 hz
        exact (List.pairwise_iff_getElem.1 hs i (at_ - 1) h3 h4 h).trans hl
      · obtain rfl : i = at_ - 1 := by omega
        rw [hi] at hz; cases hz; exact hl
  refine ⟨hs.sublist (List.take_sublist _ _), List.pairwise_cons.2 ⟨hx, hs.sublist (List.drop_sublist _ _)⟩, fun a ha b hb => ?_⟩
  rcases List.mem_cons.1 hb with rfl | hb
  · exact hy a ha
  · exact (hy a ha).trans (hx b hb)
theorem ins_step {Q : List Par} {k j : Nat} {x y : Par} (hy : Q[j]? = some y) (hk : k ≤ j) : psV (Q.take k ++ x :: (Q.drop k).take (j - k)) ++ y.cells = psV (Q.take k ++ x :: (Q.drop k).take (j + 1 - k)) := by
  have h : (Q.drop k)[j - k]? = some y := by rw [List.getElem?_drop, show k + (j - k) = j by omega]; exact hy
  have h2 := psV_take1 h
  rw [show j - k + 1 = j + 1 - k by omega] at h2
  rw [psV_append, psV_append, psV_cons, psV_cons, ← h2]
  simp only [List.append_assoc]
theorem srt_pair {Q : List Par} : SrtS Q 0 Q.length ↔ Q.Pairwise leN := by
  constructor
  · intro h
    rw [List.pairwise_iff_getElem]
    exact fun i j hi hj hij => h i j _ _ (by omega) hij hj (List.getElem?_eq_getElem hi) (List.getElem?_eq_getElem hj)
  · intro h u v x y h1 h2 h3 hx hy
    obtain ⟨h4, rfl⟩ := List.getElem?_eq_some_iff.1 hx
    obtain ⟨h5, rfl⟩ := List.getElem?_eq_some_iff.1 hy
    exact List.pairwise_iff_getElem.1 h u v h4 h5 h2
theorem own_pz {w : World} {base n : Nat} {t : TypeId} {v : Value} {L : List Par} (h : w.ownsRow base t 2 v n (psV L)) : L.length = n := by have := h.1; rw [psV_length] at this; omega
theorem own_keep2 {w w' : World} {base size n : Nat} {e : TypeId} {v : Value} {xs : List Value} (h : w.ownsRow base e size v n xs) (hb : Below w.heap.size w w') : w'.ownsRow base e size v n xs := by
  refine ⟨h.1, ?_⟩
  rcases h.2 with h' | ⟨g, cap, cur, hv, hb', hh, r⟩
  · exact .inl h'
  · exact .inr ⟨g, cap, cur, hv, hb', (hb.block g (Blk.lt hh)).trans hh, r⟩
set_option maxRecDepth 100000 in
set_option maxHeartbeats 16000000 in
theorem rsorted_any (v : Value) (l : List Par) (w : World) (h : Pz w v l) (hn : l.length * 32 ≤ 140737488355328) :
    Calls Try.prog 38 #[v] w fun e w' => (∃ u Q, e = .returned u ∧ Pz w' u Q ∧ Q.Perm l ∧ SrtS Q 0 Q.length) ∧ Below w.heap.size w w' := by
  obtain ⟨i0, hi, hz0, hz1, hz2⟩ := info_parts infoQ
  obtain ⟨A, c, rfl⟩ := h.shape
  obtain ⟨q, hq⟩ : ∃ q, w.heap.size = q := ⟨_, rfl⟩
  have hB : Below q w w := by rw [← hq]; exact Below.refl _ _
  rw [hq]
  go_enter Try.func38, Try.ntmps38
  go_wp2
  go_loopw [3, 4] (fun s3 s4 wr => ∃ (i : Nat) (Q : List Par), i ≤ l.length ∧ s4 = .int .i64 (i : Int) ∧ Q.length = i ∧ Pz wr s3 Q ∧ Q.Perm (l.take i) ∧ Q.Pairwise leN ∧ Below q w wr) (fun _ s4 _ => ((l.length : Int) - intOf s4).toNat)
  case atStart => exact ⟨0, [], by omega, rfl, rfl, Pz.nil _, by simp, List.Pairwise.nil, hB⟩
  case round =>
    clear hB
    obtain ⟨i, Q, hil, rfl, hQl, hQ, hperm, hpair, hbel⟩ := hrel
    have hszw : q ≤ wr.heap.size := by rw [← hq]; exact hbel.size
    obtain ⟨AQ, cQ, rfl⟩ := hQ.shape
    obtain ⟨Wo, rfl⟩ : ∃ Wo : World, Wo = wr := ⟨_, rfl⟩
    by_cases hlt : i < l.length
    · obtain ⟨x, hx⟩ : ∃ x, l[i]? = some x := ⟨_, List.getElem?_eq_getElem hlt⟩
      have hlw := h.below (by rw [hq]; exact hbel)
      obtain ⟨b, o, rfl, hbb, m0, m1⟩ := hlw.at_ hx
      have hii : (i : Int) < l.length := by omega
      have HH := hide (⟨hQl, hperm, hpair, hbel, hx, h⟩ : _ ∧ _ ∧ _ ∧ _ ∧ _ ∧ _)
      have hli : Q.length < 4398046511104 := by omega
      have hQb := hide hQ
      have hlb := hide hlw
      clear hQl hperm hpair hbel hx h
      go_wp2
      go_loopw [5] (fun s5 U => ∃ (t : Nat), t ≤ Q.length ∧ s5 = .int .i64 (t : Int) ∧ (∀ (c : Nat) (y : Par), t ≤ c → Q[c]? = some y → leN x y) ∧ Below Wo.heap.size Wo U) (fun s5 _ => (intOf s5).toNat)
      case atStart => exact ⟨Q.length, by omega, rfl, fun c y h1 h2 => by have := (List.getElem?_eq_some_iff.1 h2).1; omega, Below.refl _ _⟩
      case round =>
        obtain ⟨t, htl, rfl, hT, hU⟩ := hrel
        have p0 := (hU.cell (p := ⟨b, o + i * 2, none⟩) hbb).trans m0
        have p1 := (hU.cell (p := ⟨b, o + i * 2 + 1, none⟩) hbb).trans m1
        have hbU := hU.size
        have hbb' : b < _ := Nat.lt_of_lt_of_le hbb hU.size
        have hQU := hQ.below hU
        by_cases ht0 : 0 < t
        · obtain ⟨k, hk⟩ : ∃ k, t = k + 1 := ⟨t - 1, by omega⟩
          obtain ⟨y, hy⟩ : ∃ y, Q[k]? = some y := ⟨_, List.getElem?_eq_getElem (by omega)⟩
          obtain ⟨b2, o2, rfl, hbb2, n0, n1⟩ := hQU.at_ hy
          have hsub : (t : Int) - 1 = (k : Int) := by omega
          have d0 : decide (0 < t) = true := decide_eq_true ht0
          have hkn : (k : Int) < Q.length := by omega
          have hwk : IntKind.i64.wrap (k : Int) = (k : Int) := by rw [IntKind.wrap_i64]; omega
          have hls := cmpB_less x.a y.a
          by_cases hc : cmpB x.a y.a = -1
          · rw [decide_eq_true hc] at hls
            have HT := hide (⟨hT, hk, hy, hc⟩ : _ ∧ _ ∧ _ ∧ _)
            clear hT hk hy hc ht0 hQU
            go_wp2
            refine wp_region_ext_lit (by kernel_rfl) (by kernel_rfl) ?_
            (repeat (first | ((with_reducible refine wpQuiet_step (fun K hK => ?_)); go_simp; first | ((with_reducible refine hK _ ?_); clear hK K) | (apply Exists.intro; (with_reducible refine ⟨fun _ => ?_, hK _ ?_⟩); fail; clear hK K)) | ((with_reducible refine quiet_skipN ?_ (fun K hK => ?_)); (rfl); go_simp; (with_reducible refine hK _ ?_); clear hK K)))
            (with_reducible refine wpQuiet_nil ?_); intro _ hw'; obtain ⟨X, hw''⟩ := hw'; subst hw''
            go_wp2
            go_roundw
            case rel =>
              obtain ⟨hT, hk, hy, hc⟩ := HT.out
              refine ⟨k, by omega, by go_num, fun c z h1 h2 => ?_, hU.trans ((World.below_ext _ X).mono hbU)⟩
              rcases Nat.lt_or_ge k c with h3 | h3
              · exact hT c z (by omega) h2
              · obtain rfl : c = k := by omega
                rw [hy] at h2; cases h2
                unfold leN; omega
            case measure => have := HT.out.2.1; simp [intOf]; omega
          · rw [decide_eq_false hc] at hls
            have hyx : leN y x := by
              have h1 := cmpB_vals x.a y.a
              have h2 := cmpB_cmp.swap x.a y.a
              unfold leN; omega
            have HT := hide (⟨hT, hk, hy, hyx⟩ : _ ∧ _ ∧ _ ∧ _)
            clear hT hk hy hc ht0 hQU hyx
            go_wp2
            refine wp_region_ext_lit (by kernel_rfl) (by kernel_rfl) ?_
            (repeat (first | ((with_reducible refine wpQuiet_step (fun K hK => ?_)); go_simp; first | ((with_reducible refine hK _ ?_); clear hK K) | (apply Exists.intro; (with_reducible refine ⟨fun _ => ?_, hK _ ?_⟩); fail; clear hK K)) | ((with_reducible refine quiet_skipN ?_ (fun K hK => ?_)); (rfl); go_simp; (with_reducible refine hK _ ?_); clear hK K)))
            (with_reducible refine wpQuiet_nil ?_); intro _ hw'; obtain ⟨X, hw''⟩ := hw'; subst hw''
            have HT2 := hide (show t = 0 ∨ ∃ y, Q[t - 1]? = some y ∧ leN y x from .inr ⟨y, by have := HT.out.2.1; rw [show t - 1 = k by omega]; exact HT.out.2.2.1, HT.out.2.2.2⟩)
            have HT1 := hide HT.out.1
            have hU2 := hU.trans ((World.below_ext _ X).mono hbU)
            clear HT p0 p1 n0 n1 hU hbU hbb' hbb2 d0 hsub hkn hwk hls
            clear hQ hlw m0 m1 hbb
            go_wp2
            go_loopw [6, 7] (fun s6 s7 V => ∃ k : Nat, k ≤ t ∧ s7 = .int .i64 (k : Int) ∧ V.ownsRow Wo.heap.size 50 2 s6 k (psV (Q.take k)) ∧ Below Wo.heap.size Wo V) (fun _ s7 _ => ((t : Int) - intOf s7).toNat)
            case atStart => exact ⟨0, by omega, rfl, World.ownsRow_nil _ _ _ _, hU2⟩
            case round =>
              clear hU2
              obtain ⟨k, hkt, rfl, hown, hV⟩ := hrel
              have hVs := hV.size
              by_cases hk : k < t
              · obtain ⟨y, hy⟩ : ∃ y, Q[k]? = some y := ⟨_, List.getElem?_eq_getElem (by omega)⟩
                have hQV := hQb.out.below hV
                obtain ⟨b3, o3, hA3, hbb3, n0, n1⟩ := hQV.at_ hy
                cases hA3
                have hkk : (k : Int) < t := by omega
                have hkn : (k : Int) < Q.length := by omega
                have Hk := hide (psV_take1 hy)
                clear hy hQV
                go_wp2_with (at_builtin; go_must (refine wpList_append_own _ rfl (.tmp 40) (.tmp 45) 24 rfl (Wo.heap.size) 50 i0 (.agg #[.string ⟨#[]⟩, .string ⟨#[]⟩]) 2 32 Try.underlying24 hi hz0 hz1 hz2 rfl (by decide) _ (k) _ rfl ((hown.alloc _)) ⟨_, 0, none⟩ 1 1 (y.cells) rfl rfl ?c1 ?c2 ?c3 ?c4 ?c5 ?_))
                case c1 => first | exact fun j u hu => hu | exact cells_new_at _ #[.string y.a, .string y.b] _ rfl | exact cells_new_at _ #[.string y.a, .string y.b] _ (by simp)
                case c2 => exact fun u hu => psV_one (l := [y]) (by rw [psV_cons]; exact List.mem_append_left _ hu)
                case c3 => unfold maxLen; omega
                case c4 => omega
                case c5 => first | omega | (simp; omega)
                intro v' W1 hown1 hg1 _
                have hV1 := own_below (hV.alloc hVs _) (hown.alloc _) hg1 (Nat.le_refl _) (by simp; omega)
                rw [Hk.out] at hown1
                clear hg1 hV hown
                go_wp2
                go_roundw
                case rel => exact ⟨k + 1, by omega, by go_num, hown1, hV1⟩
                case measure => simp [intOf]; omega
              · obtain rfl : k = t := by omega
                have hlV := hlb.out.below hV
                obtain ⟨_, n0, n1⟩ := hlV.get HH.out.2.2.2.2.1
                obtain ⟨y, hyx⟩ : ∃ y, y = x := ⟨_, rfl⟩
                subst hyx
                clear hlV hk
                go_wp2_with (at_builtin; go_must (refine wpList_append_own _ rfl (.tmp 47) (.tmp 52) 24 rfl (Wo.heap.size) 50 i0 (.agg #[.string ⟨#[]⟩, .string ⟨#[]⟩]) 2 32 Try.underlying24 hi hz0 hz1 hz2 rfl (by decide) _ (k) _ rfl ((hown.alloc _)) ⟨_, 0, none⟩ 1 1 (y.cells) rfl rfl ?c1 ?c2 ?c3 ?c4 ?c5 ?_))
                case c1 => first | exact fun j u hu => hu | exact cells_new_at _ #[.string y.a, .string y.b] _ rfl | exact cells_new_at _ #[.string y.a, .string y.b] _ (by simp)
                case c2 => exact fun u hu => psV_one (l := [y]) (by rw [psV_cons]; exact List.mem_append_left _ hu)
                case c3 => unfold maxLen; omega
                case c4 => omega
                case c5 => first | omega | (simp; omega)
                intro v' W1 hown1 hg1 _
                have hV1 := own_below (hV.alloc hVs _) (hown.alloc _) hg1 (Nat.le_refl _) (by simp; omega)
                have e0 : psV (Q.take k) ++ y.cells = psV (Q.take k ++ y :: (Q.drop k).take (k - k)) := by
                  rw [psV_append, Nat.sub_self, List.take_zero]
                  simp [psV, rowsV]
                rw [e0] at hown1
                clear hg1 hV hown e0 n0 n1 hVs
                go_wp2
                go_loopw [6, 8] (fun s6 s8 V => ∃ j : Nat, k ≤ j ∧ j ≤ Q.length ∧ s8 = .int .i64 (j : Int) ∧ V.ownsRow Wo.heap.size 50 2 s6 (j + 1) (psV (Q.take k ++ y :: (Q.drop k).take (j - k))) ∧ Below Wo.heap.size Wo V) (fun _ s8 _ => ((Q.length : Int) - intOf s8).toNat)
                case atStart => exact ⟨k, by omega, by omega, rfl, hown1, hV1⟩
                case round =>
                  clear hown1 hV1
                  obtain ⟨j, hkj, hjl, rfl, hown, hV⟩ := hrel
                  have hVs := hV.size
                  by_cases hjk : j < Q.length
                  · obtain ⟨z, hz⟩ : ∃ z, Q[j]? = some z := ⟨_, List.getElem?_eq_getElem hjk⟩
                    have hQV := hQb.out.below hV
                    obtain ⟨b3, o3, hA3, hbb3, n0, n1⟩ := hQV.at_ hz
                    cases hA3
                    have hkk : (j : Int) < Q.length := by omega
                    have Hk := hide (ins_step (x := y) hz hkj)
                    clear hz hQV
                    go_wp2_with (at_builtin; go_must (refine wpList_append_own _ rfl (.tmp 61) (.tmp 66) 24 rfl (Wo.heap.size) 50 i0 (.agg #[.string ⟨#[]⟩, .string ⟨#[]⟩]) 2 32 Try.underlying24 hi hz0 hz1 hz2 rfl (by decide) _ (j + 1) _ rfl ((hown.alloc _)) ⟨_, 0, none⟩ 1 1 (z.cells) rfl rfl ?c1 ?c2 ?c3 ?c4 ?c5 ?_))
                    case c1 => first | exact fun j u hu => hu | exact cells_new_at _ #[.string z.a, .string z.b] _ rfl | exact cells_new_at _ #[.string z.a, .string z.b] _ (by simp)
                    case c2 => exact fun u hu => psV_one (l := [z]) (by rw [psV_cons]; exact List.mem_append_left _ hu)
                    case c3 => unfold maxLen; omega
                    case c4 => omega
                    case c5 => first | omega | (simp; omega)
                    intro v' W1 hown1 hg1 _
                    have hV1 := own_below (hV.alloc hVs _) (hown.alloc _) hg1 (Nat.le_refl _) (by simp; omega)
                    rw [Hk.out] at hown1
                    clear hg1 hV hown
                    go_wp2
                    go_roundw
                    case rel => exact ⟨j + 1, by omega, by omega, by go_num, hown1, hV1⟩
                    case measure => simp [intOf]; omega
                  · obtain rfl : j = Q.length := by omega
                    have hcut : (Q.drop k).take (Q.length - k) = Q.drop k := List.take_of_length_le (by rw [List.length_drop]; omega)
                    rw [hcut] at hown
                    have HX := hide (⟨hown, hV⟩ : _ ∧ _)
                    clear hown hV hcut
                    go_wp2
                    go_roundw
                    case rel =>
                      obtain ⟨hQl, hperm, hpair, hbel, hx, h⟩ := HH.out
                      have hP : (insL Q k y).Perm (l.take (i + 1)) := by
                        rw [List.take_add_one, hx]
                        exact (insL_perm Q k y).trans ((List.Perm.cons y hperm).trans (List.perm_append_singleton y (l.take i)).symm)
                      exact ⟨i + 1, insL Q k y, by omega, by go_num, by rw [hP.length_eq, List.length_take]; omega, Pz.own HX.out.1, hP, insL_sort hpair (by omega) HT1.out HT2.out, hbel.trans (HX.out.2.mono hszw)⟩
                    case measure => have := HH.out.1; simp [intOf]; omega
        · have d0 : decide (0 < t) = false := decide_eq_false ht0
          have HT2 := hide (show t = 0 ∨ ∃ y, Q[t - 1]? = some y ∧ leN y x from .inl (by omega))
          have HT1 := hide hT
          clear hT hQU
          go_wp2
          refine wp_region_ext_lit (by kernel_rfl) (by kernel_rfl) ?_
          (repeat (first | ((with_reducible refine wpQuiet_step (fun K hK => ?_)); go_simp; first | ((with_reducible refine hK _ ?_); clear hK K) | (apply Exists.intro; (with_reducible refine ⟨fun _ => ?_, hK _ ?_⟩); fail; clear hK K)) | ((with_reducible refine quiet_skipN ?_ (fun K hK => ?_)); (rfl); go_simp; (with_reducible refine hK _ ?_); clear hK K)))
          (with_reducible refine wpQuiet_nil ?_); intro _ hw'; obtain ⟨X, hw''⟩ := hw'; subst hw''
          have hU2 := hU.trans ((World.below_ext _ X).mono hbU)
          clear p0 p1 hU hbU hbb' ht0
          clear hQ hlw m0 m1 hbb
          go_wp2
          go_loopw [6, 7] (fun s6 s7 V => ∃ k : Nat, k ≤ t ∧ s7 = .int .i64 (k : Int) ∧ V.ownsRow Wo.heap.size 50 2 s6 k (psV (Q.take k)) ∧ Below Wo.heap.size Wo V) (fun _ s7 _ => ((t : Int) - intOf s7).toNat)
          case atStart => exact ⟨0, by omega, rfl, World.ownsRow_nil _ _ _ _, hU2⟩
          case round =>
            clear hU2
            obtain ⟨k, hkt, rfl, hown, hV⟩ := hrel
            have hVs := hV.size
            by_cases hk : k < t
            · obtain ⟨y, hy⟩ : ∃ y, Q[k]? = some y := ⟨_, List.getElem?_eq_getElem (by omega)⟩
              have hQV := hQb.out.below hV
              obtain ⟨b3, o3, hA3, hbb3, n0, n1⟩ := hQV.at_ hy
              cases hA3
              have hkk : (k : Int) < t := by omega
              have hkn : (k : Int) < Q.length := by omega
              have Hk := hide (psV_take1 hy)
              clear hy hQV
              go_wp2_with (at_builtin; go_must (refine wpList_append_own _ rfl (.tmp 40) (.tmp 45) 24 rfl (Wo.heap.size) 50 i0 (.agg #[.string ⟨#[]⟩, .string ⟨#[]⟩]) 2 32 Try.underlying24 hi hz0 hz1 hz2 rfl (by decide) _ (k) _ rfl ((hown.alloc _)) ⟨_, 0, none⟩ 1 1 (y.cells) rfl rfl ?c1 ?c2 ?c3 ?c4 ?c5 ?_))
              case c1 => first | exact fun j u hu => hu | exact cells_new_at _ #[.string y.a, .string y.b] _ rfl | exact cells_new_at _ #[.string y.a, .string y.b] _ (by simp)
              case c2 => exact fun u hu => psV_one (l := [y]) (by rw [psV_cons]; exact List.mem_append_left _ hu)
              case c3 => unfold maxLen; omega
              case c4 => omega
              case c5 => first | omega | (simp; omega)
              intro v' W1 hown1 hg1 _
              have hV1 := own_below (hV.alloc hVs _) (hown.alloc _) hg1 (Nat.le_refl _) (by simp; omega)
              rw [Hk.out] at hown1
              clear hg1 hV hown
              go_wp2
              go_roundw
              case rel => exact ⟨k + 1, by omega, by go_num, hown1, hV1⟩
              case measure => simp [intOf]; omega
            · obtain rfl : k = t := by omega
              have hlV := hlb.out.below hV
              obtain ⟨_, n0, n1⟩ := hlV.get HH.out.2.2.2.2.1
              obtain ⟨y, hyx⟩ : ∃ y, y = x := ⟨_, rfl⟩
              subst hyx
              clear hlV hk
              go_wp2_with (at_builtin; go_must (refine wpList_append_own _ rfl (.tmp 47) (.tmp 52) 24 rfl (Wo.heap.size) 50 i0 (.agg #[.string ⟨#[]⟩, .string ⟨#[]⟩]) 2 32 Try.underlying24 hi hz0 hz1 hz2 rfl (by decide) _ (k) _ rfl ((hown.alloc _)) ⟨_, 0, none⟩ 1 1 (y.cells) rfl rfl ?c1 ?c2 ?c3 ?c4 ?c5 ?_))
              case c1 => first | exact fun j u hu => hu | exact cells_new_at _ #[.string y.a, .string y.b] _ rfl | exact cells_new_at _ #[.string y.a, .string y.b] _ (by simp)
              case c2 => exact fun u hu => psV_one (l := [y]) (by rw [psV_cons]; exact List.mem_append_left _ hu)
              case c3 => unfold maxLen; omega
              case c4 => omega
              case c5 => first | omega | (simp; omega)
              intro v' W1 hown1 hg1 _
              have hV1 := own_below (hV.alloc hVs _) (hown.alloc _) hg1 (Nat.le_refl _) (by simp; omega)
              have e0 : psV (Q.take k) ++ y.cells = psV (Q.take k ++ y :: (Q.drop k).take (k - k)) := by
                rw [psV_append, Nat.sub_self, List.take_zero]
                simp [psV, rowsV]
              rw [e0] at hown1
              clear hg1 hV hown e0 n0 n1 hVs
              go_wp2
              go_loopw [6, 8] (fun s6 s8 V => ∃ j : Nat, k ≤ j ∧ j ≤ Q.length ∧ s8 = .int .i64 (j : Int) ∧ V.ownsRow Wo.heap.size 50 2 s6 (j + 1) (psV (Q.take k ++ y :: (Q.drop k).take (j - k))) ∧ Below Wo.heap.size Wo V) (fun _ s8 _ => ((Q.length : Int) - intOf s8).toNat)
              case atStart => exact ⟨k, by omega, by omega, rfl, hown1, hV1⟩
              case round =>
                clear hown1 hV1
                obtain ⟨j, hkj, hjl, rfl, hown, hV⟩ := hrel
                have hVs := hV.size
                by_cases hjk : j < Q.length
                · obtain ⟨z, hz⟩ : ∃ z, Q[j]? = some z := ⟨_, List.getElem?_eq_getElem hjk⟩
                  have hQV := hQb.out.below hV
                  obtain ⟨b3, o3, hA3, hbb3, n0, n1⟩ := hQV.at_ hz
                  cases hA3
                  have hkk : (j : Int) < Q.length := by omega
                  have Hk := hide (ins_step (x := y) hz hkj)
                  clear hz hQV
                  go_wp2_with (at_builtin; go_must (refine wpList_append_own _ rfl (.tmp 61) (.tmp 66) 24 rfl (Wo.heap.size) 50 i0 (.agg #[.string ⟨#[]⟩, .string ⟨#[]⟩]) 2 32 Try.underlying24 hi hz0 hz1 hz2 rfl (by decide) _ (j + 1) _ rfl ((hown.alloc _)) ⟨_, 0, none⟩ 1 1 (z.cells) rfl rfl ?c1 ?c2 ?c3 ?c4 ?c5 ?_))
                  case c1 => first | exact fun j u hu => hu | exact cells_new_at _ #[.string z.a, .string z.b] _ rfl | exact cells_new_at _ #[.string z.a, .string z.b] _ (by simp)
                  case c2 => exact fun u hu => psV_one (l := [z]) (by rw [psV_cons]; exact List.mem_append_left _ hu)
                  case c3 => unfold maxLen; omega
                  case c4 => omega
                  case c5 => first | omega | (simp; omega)
                  intro v' W1 hown1 hg1 _
                  have hV1 := own_below (hV.alloc hVs _) (hown.alloc _) hg1 (Nat.le_refl _) (by simp; omega)
                  rw [Hk.out] at hown1
                  clear hg1 hV hown
                  go_wp2
                  go_roundw
                  case rel => exact ⟨j + 1, by omega, by omega, by go_num, hown1, hV1⟩
                  case measure => simp [intOf]; omega
                · obtain rfl : j = Q.length := by omega
                  have hcut : (Q.drop k).take (Q.length - k) = Q.drop k := List.take_of_length_le (by rw [List.length_drop]; omega)
                  rw [hcut] at hown
                  have HX := hide (⟨hown, hV⟩ : _ ∧ _)
                  clear hown hV hcut
                  go_wp2
                  go_roundw
                  case rel =>
                    obtain ⟨hQl, hperm, hpair, hbel, hx, h⟩ := HH.out
                    have hP : (insL Q k y).Perm (l.take (i + 1)) := by
                      rw [List.take_add_one, hx]
                      exact (insL_perm Q k y).trans ((List.Perm.cons y hperm).trans (List.perm_append_singleton y (l.take i)).symm)
                    exact ⟨i + 1, insL Q k y, by omega, by go_num, by rw [hP.length_eq, List.length_take]; omega, Pz.own HX.out.1, hP, insL_sort hpair (by omega) HT1.out HT2.out, hbel.trans (HX.out.2.mono hszw)⟩
                  case measure => have := HH.out.1; simp [intOf]; omega
    · obtain rfl : i = l.length := by omega
      rw [List.take_length] at hperm
      have HH := hide (⟨hQ, hperm, srt_pair.2 hpair, hbel⟩ : _ ∧ _ ∧ _ ∧ _)
      clear hQ hperm hpair hbel h
      go_wp2
      go_ret
      exact ⟨⟨_, Q, rfl, HH.out.1, HH.out.2.1, HH.out.2.2.1⟩, HH.out.2.2.2⟩
end Go.Proofs.Ytmfbidhnafpkdaa
