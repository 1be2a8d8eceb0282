import Derived.Test.YtmfbidhnafpkdaaTo
import Derived.Test.YtmfbidhnafpkdaaDraw
/-! A set as a text. -/
namespace Go.Proofs.Ytmfbidhnafpkdaa
open Go.RowKit
set_option linter.unusedVariables false
set_option linter.unusedSimpArgs false
def pairB (x : Par) : ByteArray := ⟨(x.a.data.toList ++ 61 :: qL x.b.data.toList).toArray⟩
def joinB (l : List Par) : List UInt8 := Lib.join (l.map fun x => (pairB x).data.toList) [44]
def textB (l : List Par) : ByteArray := ⟨(123 :: (joinB l ++ [125])).toArray⟩
theorem ba_append (a b : ByteArray) : a ++ b = ⟨(a.data.toList ++ b.data.toList).toArray⟩ := by
  apply ByteArray.ext
  apply Array.toList_inj.1
  simp
theorem infoS : (Try.prog.info? 9).map (fun i => (i.zero, i.size, i.bytes)) = some (some (.string ⟨#[]⟩), 1, 16) := by kernel_rfl
theorem own_keep {w w' : World} {base size n : Nat} {e : TypeId} {v : Value} {xs : List Value} (h : w.ownsRow base e size v n xs) (hk : ∀ k, base ≤ k → k < w.heap.size → w'.heap[k]? = w.heap[k]?) : w'.ownsRow base e size v n xs := by
  refine ⟨h.1, ?_⟩
  rcases h.2 with h' | ⟨g, cap, cur, hv, hb, hh, r⟩
  · exact .inl h'
  · exact .inr ⟨g, cap, cur, hv, hb, (hk g hb (Blk.lt hh)).trans hh, r⟩
theorem own_ext {w : World} {base size n : Nat} {e : TypeId} {v : Value} {xs : List Value} (h : w.ownsRow base e size v n xs) (X : Ext) : (w.ext X).ownsRow base e size v n xs :=
  own_keep h fun k _ hk => World.heap_ext hk
theorem own_alloc {w : World} {base size n : Nat} {e : TypeId} {v : Value} {xs : List Value} (h : w.ownsRow base e size v n xs) (o : Obj) : (w.alloc o).ownsRow base e size v n xs :=
  own_keep h fun k _ hk => Below.heap_alloc w o k hk
def txV (l : List Par) : List Value := l.map fun x => Value.string (pairB x)
theorem txV_length (l : List Par) : (txV l).length = l.length := by simp [txV]
theorem txV_take1 {l : List Par} {j : Nat} {x : Par} (h : l[j]? = some x) : txV (l.take j) ++ [.string (pairB x)] = txV (l.take (j + 1)) := by
  rw [List.take_add_one, h]
  simp [txV]
theorem pairB_eq (x : Par) : x.a ++ (⟨#[61]⟩ : ByteArray) ++ ⟨(qL x.b.data.toList).toArray⟩ = pairB x := by
  rw [ba_append, ba_append]
  simp [pairB]
theorem textB_eq (l : List Par) : (⟨#[123]⟩ : ByteArray) ++ ⟨(joinB l).toArray⟩ ++ (⟨#[125]⟩ : ByteArray) = textB l := by
  rw [ba_append, ba_append]
  simp [textB]
/-- Labels whose text is not too long. -/
structure Short (l : List Par) : Prop where
  n : l.length * 32 ≤ 140737488355328
  each : ∀ x ∈ l, x.a.size ≤ 140737488355328 ∧ 2 * x.b.size + 2 ≤ 140737488355328
  all : (joinB l).length ≤ 140737488355328
set_option maxRecDepth 100000 in
set_option maxHeartbeats 8000000 in
theorem ptext_any (v : Value) (l : List Par) (w : World) (h : Pz w v l) (hsh : Short l) :
    Calls Try.prog 32 #[v] w fun e w' => e = .returned (.string (textB l)) ∧ Below w.heap.size w w' := by
  obtain ⟨i0, hi, hz0, hz1, hz2⟩ := info_parts infoS
  obtain ⟨A, c, rfl⟩ := h.shape
  obtain ⟨q, hq⟩ : ∃ q, w.heap.size = q := ⟨_, rfl⟩
  have hB : Below q w w := by rw [← hq]; exact Below.refl _ _
  have hln := hsh.n
  rw [hq]
  go_enter Try.func32, Try.ntmps32
  go_wp2
  go_loopw [3, 8] (fun s3 s8 wr => ∃ j : Nat, j ≤ l.length ∧ s8 = .int .i64 (j : Int) ∧ wr.ownsRow q 9 1 s3 j (txV (l.take j)) ∧ Below q w wr) (fun _ s8 _ => ((l.length : Int) - intOf s8).toNat)
  case atStart => exact ⟨0, by omega, rfl, World.ownsRow_nil _ _ _ _, hB⟩
  case round =>
    clear hB
    obtain ⟨j, hj, rfl, hown, hbel⟩ := hrel
    have hszw : q ≤ wr.heap.size := by rw [← hq]; exact hbel.size
    by_cases hlt : j < l.length
    · obtain ⟨x, hx⟩ : ∃ x, l[j]? = some x := ⟨_, List.getElem?_eq_getElem hlt⟩
      obtain ⟨b, o, rfl, hbb, m0, m1⟩ := (h.below (by rw [hq]; exact hbel)).at_ hx
      have hxs := hsh.each x (List.mem_of_getElem? hx)
      have H := hide (txV_take1 hx)
      have hjj : (j : Int) < l.length := by omega
      have hQ := fun w => pquote_any x.b hxs.2 w
      have hql : (qL x.b.data.toList).length ≤ 140737488355328 := by
        have := qB_len x.b.data.toList
        have e := Lib.size_eq x.b
        simp only [qL, List.length_cons, List.length_append, List.length_nil]
        omega
      have he := hide (pairB_eq x)
      generalize hqq : qL x.b.data.toList = qq at *
      have hcs : ¬ (9223372036854775807 < x.a.size + 1) := by omega
      have hcs2 : ¬ (9223372036854775807 < x.a.size + 1 + qq.length) := by omega
      clear h hx hsh
      obtain ⟨p, hpo, hpn⟩ : ∃ p, (∀ k, Value.ownBlock u3 = some k → k = p) ∧ wr.heap.size ≠ p := by
        cases hu : Value.ownBlock u3 with
        | none => exact ⟨wr.heap.size + 1, (fun k e => by cases e), by omega⟩
        | some k => exact ⟨k, (fun k' e => by cases e; rfl), by have := (hown.lt k hu).2; omega⟩
      have hBox := Blk.new wr 49 #[.string x.a, .string x.b]
      go_wp2
      refine wp_region_only p [2, 5] [0, 1, 3, 4, 7] [(true, false, 0), (true, false, 1), (true, true, 2), (true, false, 3), (true, false, 4), (true, true, 5), (false, true, 6), (true, false, 7), (false, true, 8), (false, true, 9), (false, false, 10)] (by kernel_rfl) (by kernel_rfl) (fun Y => ?_); simp only [List.map_cons, List.map_nil, List.getD_cons_zero, List.getD_cons_succ]
      have hBY := Blk.ext hBox Y
      (repeat (first | (refine First.wpF_pure (fun K hK => ?_); go_simp; first | (refine hK _ _ ?_; clear hK K) | (apply Exists.intro; refine ⟨fun _ => ?_, hK _ _ ?_⟩; fail)) | (refine First.wpF_free (fun K hK => ?_); go_simp; first | (refine hK _ _ ?_; clear hK K))))
      (refine first_read rfl (v := .string x.a) (fun w' hw' => ?_) (fun K hK => ?_); rotate_left 1; go_simp; refine hK _ _ ?_; clear hK K; rotate_left 1; (have hB' := Blk.only hBY hw' hpn; have c' := Blk.cell hB'; go_simp))
      (repeat (first | (refine First.wpF_pure (fun K hK => ?_); go_simp; first | (refine hK _ _ ?_; clear hK K) | (apply Exists.intro; refine ⟨fun _ => ?_, hK _ _ ?_⟩; fail)) | (refine First.wpF_free (fun K hK => ?_); go_simp; first | (refine hK _ _ ?_; clear hK K))))
      (refine first_read rfl (v := .string x.b) (fun w' hw' => ?_) (fun K hK => ?_); rotate_left 1; go_simp; refine hK _ _ ?_; clear hK K; rotate_left 1; (have hB' := Blk.only hBY hw' hpn; have c' := Blk.cell hB'; go_simp))
      (repeat (first | (refine First.wpF_pure (fun K hK => ?_); go_simp; first | (refine hK _ _ ?_; clear hK K) | (apply Exists.intro; refine ⟨fun _ => ?_, hK _ _ ?_⟩; fail)) | (refine First.wpF_free (fun K hK => ?_); go_simp; first | (refine hK _ _ ?_; clear hK K))))
      refine First.wpF_must (fun K hK => ?_)
      go_wp2_with (go_at_call 24; (with_reducible refine (hQ _).mono ?_); rintro e w' ⟨rfl, hb⟩; obtain ⟨X, rfl⟩ := World.ext_of_below hb; clear hb)
      (refine hK _ _ (fun hnd => by first | exact Bool.noConfusion hnd | exact Only.of_below (by rw [← World.ext_ext]; exact World.below_ext _ _)) ?_; clear hK K)
      (repeat (first | (refine First.wpF_pure (fun K hK => ?_); go_simp; first | (refine hK _ _ ?_; clear hK K) | (apply Exists.intro; refine ⟨fun _ => ?_, hK _ _ ?_⟩; fail)) | (refine First.wpF_free (fun K hK => ?_); go_simp; first | (refine hK _ _ ?_; clear hK K))))
      have hown1 : ((wr.alloc (.cells #[.string x.a, .string x.b] 49)).ext (Y.cat X)).ownsRow q 9 1 u3 j (txV (l.take j)) := own_ext (own_alloc hown _) _
      have hbel1 : Below q w ((wr.alloc (.cells #[.string x.a, .string x.b] 49)).ext (Y.cat X)) := (hbel.alloc hszw _).trans ((World.below_ext _ _).mono (by simp; omega))
      clear hown hbel hBY hBox
      generalize (wr.alloc (.cells #[.string x.a, .string x.b] 49)).ext (Y.cat X) = W0 at *
      have hqW : q ≤ W0.heap.size := by rw [← hq]; exact hbel1.size
      refine First.wpF_must (fun K hK => ?_)
      go_wp2
      (refine hK _ _ (fun hnd => by first | exact Bool.noConfusion hnd | exact Only.of_below (Below.alloc (Below.refl _ _) (Nat.le_refl _) _)) ?_; clear hK K)
      refine First.wpF_must (fun K hK => ?_)
      refine wpList_append_own _ rfl (.tmp 12) (.tmp 20) 72 rfl q 9 i0 (.string ⟨#[]⟩) 1 16 Try.underlying72 hi hz0 hz1 hz2 rfl (by decide) _ j _ rfl (own_alloc hown1 _) ⟨W0.heap.size, 0, none⟩ 1 1 [.string (x.a ++ (⟨#[61]⟩ : ByteArray) ++ ⟨qq.toArray⟩)] rfl rfl ?c1 ?c2 ?c3 ?c4 ?c5 ?_
      case c1 => exact cells_new_at _ #[.string (x.a ++ (⟨#[61]⟩ : ByteArray) ++ ⟨qq.toArray⟩)] _ rfl
      case c2 => intro u hu; simp at hu; subst hu; rfl
      case c3 => unfold maxLen; omega
      case c4 => omega
      case c5 => simp; omega
      intro v' w1 hown2 hg2 _
      have hbel2 := own_below (hbel1.alloc hqW _) (own_alloc hown1 _) hg2 (Nat.le_refl _) (by simp; omega)
      rw [he.out, H.out] at hown2
      have hon : Only (W0.alloc (.cells #[.string (x.a ++ (⟨#[61]⟩ : ByteArray) ++ ⟨qq.toArray⟩)] 9)) w1 p := ⟨hg2.os, hg2.tape, hg2.output, hg2.size, fun k hk hkp => hg2.block k hk (fun e => hkp (hpo k e.symm))⟩
      clear hg2 hown1 hbel1
      go_wp2
      (refine hK _ _ (fun hnd => by first | exact Bool.noConfusion hnd | exact hon) ?_; clear hK K)
      refine First.wpF_must (fun K hK => ?_)
      go_wp2
      (refine hK _ _ (fun hnd => Bool.noConfusion hnd) ?_; clear hK K)
      refine First.wpF_nil ?_
      go_wp2
      go_roundw
      case rel => exact ⟨j + 1, by omega, by go_num, hown2, hbel2⟩
      case measure => simp [intOf]; omega
    · obtain rfl : j = l.length := by omega
      rw [List.take_length] at hown
      have hall := hsh.all
      have he := hide (textB_eq l)
      have hJ : Calls Try.prog 44 #[u3, .string ⟨#[44]⟩] wr fun e w' => e = .returned (.string ⟨(joinB l).toArray⟩) ∧ Below wr.heap.size wr w' := by
        rcases hown.2 with ⟨rfl, h0⟩ | ⟨g, cap, cur, rfl, hge, hg, hnc, hmx, hsz, ht⟩
        · have hl0 : l = [] := List.eq_nil_of_length_eq_zero h0
          subst hl0
          exact (Try.strings_Join_none none 0 ⟨#[44]⟩ wr).mono fun e w' h => ⟨by rw [h.1]; rfl, by rw [h.2]; exact Below.refl _ _⟩
        · have hj := Try.strings_Join g 0 cap (l.map pairB) ⟨#[44]⟩ wr (fun j x hx => by
            rw [Nat.zero_add]
            rw [Lib.cell_of_heap hg, ← Array.getElem?_toList]
            have hjl : j < l.length := by have := (List.getElem?_eq_some_iff.1 hx).1; simpa using this
            have e1 : (cur.toList.take (l.length * 1))[j]? = (txV l)[j]? := by rw [ht]
            rw [List.getElem?_take_of_lt (by omega)] at e1
            rw [e1]
            simp only [txV, List.getElem?_map] at hx ⊢
            cases hl : l[j]? with
            | none => rw [hl] at hx; cases hx
            | some y => rw [hl] at hx; cases hx; rfl) (Blk.lt hg) (by simp; omega) (by simpa using hnc) (by simpa [joinB, Function.comp_def] using hall)
          rw [List.length_map] at hj
          have e2 : Lib.join ((l.map pairB).map (·.data.toList)) (⟨#[44]⟩ : ByteArray).data.toList = joinB l := by simp [joinB, Function.comp_def]
          rw [e2] at hj
          exact hj
      have hcs : ¬ (9223372036854775807 < 1 + (joinB l).length) := by omega
      have hcs2 : ¬ (9223372036854775807 < 1 + (joinB l).length + 1) := by omega
      clear h hsh
      generalize hjj : joinB l = jb at *
      go_wp2_with (go_at_call 44; (with_reducible refine hJ.mono ?_); rintro e w1 ⟨rfl, hb1⟩)
      go_ret
      exact ⟨by rw [← he.out]; rfl, hbel.trans (hb1.mono hszw)⟩
end Go.Proofs.Ytmfbidhnafpkdaa
