import Derived.Test.YthajbeooemngpaaUnp2
/-! What was packed is unpacked as it was; bytes that are unpacked are packed again as they were. -/
namespace Go.Proofs.Ythajbeooemngpaa
open Go.RowKit
set_option linter.unusedVariables false
set_option linter.unusedSimpArgs false
theorem infoR : (Try.prog.info? 115).map (fun i => (i.zero, i.size, i.bytes)) = some (some (.agg #[.int .i64 0, .int .i64 0]), 2, 16) := by kernel_rfl
theorem pfrom_any (A : Option Addr) (n c : Nat) (l : List (Int × Int)) (w : World) (hr : Reads w w.heap.size 2 A n (smps l)) (hn : n * 16 ≤ 140737488355328) :
    Calls Try.prog 44 #[.slice A n c] w fun e w' => ∃ v, e = .returned v ∧ w'.ownsRow w.heap.size 115 2 v n (smps l) ∧ Below w.heap.size w w' := by
  obtain ⟨i0, hi, hz0, hz1, hz2⟩ := info_parts infoR
  have hl : l.length = n := by have := hr.1; rw [smps_length] at this; omega
  by_cases h0 : n = 0
  · subst h0
    obtain rfl : l = [] := List.length_eq_zero_iff.1 hl
    go_enter Try.func44, Try.ntmps44
    go_wp2
    go_loopw [3, 8] (fun v s wr => v = .slice none 0 0 ∧ s = .int .i64 0 ∧ wr = w) (fun _ s _ => 0)
    case atStart => exact ⟨rfl, rfl, rfl⟩
    case round =>
      obtain ⟨rfl, rfl, rfl⟩ := hrel
      go_wp2
      go_ret
      exact ⟨_, rfl, ⟨rfl, .inl ⟨rfl, rfl⟩⟩, Below.refl _ _⟩
  · obtain ⟨b, o, rfl, hb, hc⟩ := hr.plain (by omega) (by omega)
    go_enter Try.func44, Try.ntmps44
    go_wp2
    go_loopw [3, 8] (fun v s wr => ∃ j : Nat, j ≤ n ∧ s = .int .i64 (j : Int) ∧ wr.ownsRow w.heap.size 115 2 v j (smps (l.take j)) ∧ Below w.heap.size w wr) (fun _ s _ => ((n : Int) - intOf s).toNat)
    case atStart => exact ⟨0, by omega, rfl, ⟨rfl, .inl ⟨rfl, rfl⟩⟩, Below.refl _ _⟩
    case round =>
      obtain ⟨j, hj, rfl, hown, hbel⟩ := hrel
      have hcell0 := hbel.size
      by_cases hlt : j < n
      · have hg : l[j]? = some l[j] := List.getElem?_eq_getElem (by omega)
        obtain ⟨g1, g2⟩ := smps_get l j _ hg
        have m1 : wr.cell? ⟨b, o + j * 2, none⟩ = some (.int .i64 l[j].1) := by rw [hbel.cell (p := ⟨b, _, none⟩) hb]; exact hc _ _ g1
        have m2 : wr.cell? ⟨b, o + j * 2 + 1, none⟩ = some (.int .i64 l[j].2) := by rw [hbel.cell (p := ⟨b, _, none⟩) hb, Nat.add_assoc]; exact hc _ _ g2
        go_wp2_with (at_builtin; go_must (refine wpList_append_own _ rfl (.tmp 12) (.tmp 18) 22 rfl (w.heap.size) 115 i0 (.agg #[.int .i64 0, .int .i64 0]) 2 16 Try.underlying22 hi hz0 hz1 hz2 rfl (by decide) u3 (j) _ rfl ((hown.alloc _).alloc _) ⟨wr.heap.size + 1, 0, none⟩ 1 1 [.int .i64 l[j].1, .int .i64 l[j].2] rfl rfl ?c1 ?c2 ?c3 ?c4 ?c5 ?_))
        case c1 => exact cells_new_at _ #[_, _] _ (by simp)
        case c2 => simp [Value.oneCell']
        case c3 => unfold maxLen; omega
        case c4 => omega
        case c5 => simp; omega
        intro v' w1 hown1 hg1 _
        have hbel1 := own_below ((hbel.alloc hcell0 _).alloc (by simp; omega) _) ((hown.alloc _).alloc _) hg1 (Nat.le_refl _) (by simp; omega)
        have ht : smps (l.take (j + 1)) = smps (l.take j) ++ [.int .i64 l[j].1, .int .i64 l[j].2] := by
          rw [List.take_add_one, hg, smps_append]; rfl
        rw [← ht] at hown1
        clear ht
        go_wp2
        go_roundw
        case rel => exact ⟨j + 1, by omega, by go_num, hown1, hbel1⟩
        case measure => simp [intOf]; omega
      · obtain rfl : j = n := by omega
        rw [List.take_of_length_le (by omega)] at hown
        clear hlt
        go_wp2
        go_ret
        exact ⟨_, rfl, hown, hbel⟩
theorem psame_any (A A' : Option Addr) (n c c' : Nat) (l : List (Int × Int)) (w : World) (hr : Reads w w.heap.size 2 A n (smps l)) (hr' : Reads w w.heap.size 2 A' n (smps l)) (hn : n * 16 ≤ 140737488355328) :
    Calls Try.prog 43 #[.slice A n c, .slice A' n c'] w fun e w' => e = .returned (.bool true) ∧ Below w.heap.size w w' := by
  have hl : l.length = n := by have := hr.1; rw [smps_length] at this; omega
  go_enter Try.func43, Try.ntmps43
  go_wp2
  go_loopw [5] (fun s wr => ∃ j : Nat, j ≤ n ∧ s = .int .i64 (j : Int) ∧ Below w.heap.size w wr) (fun s _ => ((n : Int) - intOf s).toNat)
  case atStart => exact ⟨0, by omega, rfl, Below.refl _ _⟩
  case round =>
    obtain ⟨j, hj, rfl, hb⟩ := hrel
    obtain ⟨wo, rfl⟩ : ∃ wo : World, wo = wr := ⟨_, rfl⟩
    have hs := hb.size
    by_cases hlt : j < n
    · obtain ⟨b, o, rfl, hbb, hc⟩ := hr.plain (by omega) (by omega)
      obtain ⟨b', o', rfl, hbb', hc'⟩ := hr'.plain (by omega) (by omega)
      have hg : l[j]? = some l[j] := List.getElem?_eq_getElem (by omega)
      have m1 : wo.cell? ⟨b, o + j * 2, none⟩ = some (.int .i64 l[j].1) := by rw [hb.cell (p := ⟨b, _, none⟩) hbb]; exact hc _ _ (smps_get l j _ hg).1
      have m2 : wo.cell? ⟨b, o + j * 2 + 1, none⟩ = some (.int .i64 l[j].2) := by rw [hb.cell (p := ⟨b, _, none⟩) hbb, Nat.add_assoc]; exact hc _ _ (smps_get l j _ hg).2
      have m3 : wo.cell? ⟨b', o' + j * 2, none⟩ = some (.int .i64 l[j].1) := by rw [hb.cell (p := ⟨b', _, none⟩) hbb']; exact hc' _ _ (smps_get l j _ hg).1
      have m4 : wo.cell? ⟨b', o' + j * 2 + 1, none⟩ = some (.int .i64 l[j].2) := by rw [hb.cell (p := ⟨b', _, none⟩) hbb', Nat.add_assoc]; exact hc' _ _ (smps_get l j _ hg).2
      have hbw : b < wo.heap.size := by omega
      have hbw' : b' < wo.heap.size := by omega
      have hlj : (j : Int) < n := by omega
      clear hc hc' hr hr'
      generalize l[j] = p at *
      go_wp2
      refine wp_region_ext_lit (by kernel_rfl) (by kernel_rfl) ?_
      (repeat (quiet_step (fail)))
      refine wpQuiet_nil ?_; intro _ hw'; obtain ⟨Y, hw''⟩ := hw'; subst hw''
      go_wp2
      go_roundw
      case rel => exact ⟨j + 1, by omega, by go_num, by (repeat' (first | with_reducible exact Below.refl _ _ | with_reducible refine Below.ext ?_ ?_ _ | with_reducible refine Below.alloc ?_ ?_ _ | with_reducible refine Below.setCell ?_ ?_ _ | with_reducible refine Below.drew ?_ | with_reducible assumption | (simp [World.size_ext]; done) | (simp [World.size_ext]; omega)))⟩
      case measure => simp [intOf]; omega
    · obtain rfl : j = n := by omega
      go_wp2
      go_ret
      exact ⟨rfl, hb⟩
theorem uRun_i64 : ∀ k (s : US), I64s s.out → I64s (uRun k s).out
  | 0, s, h => h
  | k + 1, s, h => by
    unfold uRun
    have h1 : I64s (uStep s).out := by
      unfold uStep I64s
      intro p hp
      simp only [List.mem_append, List.mem_singleton] at hp
      rcases hp with hp | rfl
      · exact h p hp
      · exact ⟨wrap_bd _, wrap_bd _⟩
    split
    · split
      · exact h1
      · exact uRun_i64 k _ h1
    · exact h
theorem unpackP_i64 {b : List Nat} {l : List (Int × Int)} (h : unpackP b = some l) : I64s l := by
  unfold unpackP at h
  split at h
  · injection h with h
    rw [← h]
    exact uRun_i64 _ _ (fun p hp => by cases hp)
  · cases h
theorem packB_bytes {l : List (Int × Int)} (hf : fineP l = true) : ∀ x ∈ packB l l.length, x < 256 := by
  have hg : goodP l = true := by unfold fineP at hf; simp at hf; exact hf.2
  have hl : l.length ≤ 65536 := by unfold fineP at hf; simp at hf; exact hf.1
  have h3 := packB_rest l l.length 0
  rw [Nat.zero_add] at h3
  rw [← h3]
  intro x hx
  rcases List.mem_append.1 hx with hx | hx
  · exact numB_lt _ (by omega) x hx
  · exact restB_bytes hg l.length 0 (by omega) x hx
end Go.Proofs.Ythajbeooemngpaa
