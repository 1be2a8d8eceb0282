import Derived.Test.YtjhcgnmibnjocaaY6
import Derived.Test.YtjhcgnmibnjocaaGB
/-! Entries laid behind bytes; records. -/
namespace Go.Proofs.Ytjhcgnmibnjocaa
open Go.RowKit Go.Maps
set_option linter.unusedVariables false
set_option linter.unusedSimpArgs false
theorem entB_le {x : Ent} (h : x.ok) : (entB x).length ≤ 262162 := by
  have h1 := numB_le _ (zig_lt _ h.e)
  have h2 := numB_le x.t.length (by have := h.n; omega)
  have := h.n
  simp only [entB, List.length_append]
  omega
theorem entsB_le : ∀ {l : List Ent}, (∀ x ∈ l, x.ok) → (entsB l).length ≤ 262162 * l.length
  | [], _ => by simp [entsB]
  | x :: l, h => by
    have h1 := entB_le (h x (by simp))
    have h2 := entsB_le (l := l) (fun y hy => h y (by simp [hy]))
    simp only [entsB, List.flatMap_cons, List.length_append, List.length_cons] at *
    omega
theorem entsB_take {l : List Ent} {j : Nat} {x : Ent} (h : l[j]? = some x) : entsB (l.take (j + 1)) = entsB (l.take j) ++ entB x := by
  unfold entsB
  rw [List.take_add_one, h, List.flatMap_append]
  simp
theorem textB_str {t : List Nat} (h : ∀ y ∈ t, y < 256) : textB (strOf t) = numB t.length ++ t := by
  unfold textB
  rw [numsOf_strOf h, strOf_size]
theorem Ents.at_ {w : World} {T : Nat → Prop} {A : Option Addr} {n : Nat} {l : List Ent} (h : Ents w T A n l) {j : Nat} (hj : j < n) : ∃ b o A2 c2 x, A = some ⟨b, o, none⟩ ∧ b < w.heap.size ∧ l[j]? = some x ∧ x.ok ∧ w.cell? ⟨b, o + j * 2, none⟩ = some (.int .i64 x.e) ∧ w.cell? ⟨b, o + j * 2 + 1, none⟩ = some (.slice A2 x.t.length c2) ∧ Bsl w T (.slice A2 x.t.length c2) x.t := by
  obtain ⟨⟨ms, he, hr, hm⟩, hl, _⟩ := h
  obtain ⟨b, o, rfl, hb, hc⟩ := hr.plain (by omega) (by omega)
  have hml : ms.length = n := by rw [← hl, ← he, List.length_map]
  have hg : ms[j]? = some ms[j] := List.getElem?_eq_getElem (by omega)
  obtain ⟨h1, h2⟩ := emV_get hg
  obtain ⟨hB, hok⟩ := hm _ (List.getElem_mem (by omega : j < ms.length))
  have hB' := hB
  obtain ⟨⟨A2, c2, e, _⟩, _⟩ := hB'
  refine ⟨b, o, A2, c2, ms[j].x, rfl, hb, (congrArg (·[j]?) he).symm.trans (by show (ms.map Em.x)[j]? = _; rw [List.getElem?_map, hg]; rfl), hok, hc _ _ h1, ?_, by rw [← e]; exact hB⟩
  rw [← e, Nat.add_assoc]
  exact hc _ _ h2
theorem Kp.cell {S : Nat → Prop} {w w' : World} (h : Kp S w w') {p : Addr} (hp : p.block < w.heap.size) (hn : ¬S p.block) : w'.cell? p = w.cell? p := by
  unfold World.cell?
  rw [h.block _ hp hn]
theorem Bsl.conv {w : World} {T : Nat → Prop} {v : Value} {t : List Nat} (h : Bsl w T v t) : (convert 32 9 v).run Try.prog w = .ok (.string (strOf t)) w := by
  obtain ⟨A, c, rfl, hr, _⟩ := h.exR
  exact conv_bytes hr Try.underlying32 Try.underlying5 Try.underlying9 c
theorem Ents.okAll {w : World} {T : Nat → Prop} {A : Option Addr} {n : Nat} {l : List Ent} (h : Ents w T A n l) : ∀ x ∈ l, x.ok := fun x hx => by
  obtain ⟨⟨ms, he, hr, hm⟩, hl, _⟩ := h
  rw [← he] at hx
  obtain ⟨m, hmm, rfl⟩ := List.mem_map.1 hx
  exact (hm m hmm).2
set_option maxRecDepth 100000 in
set_option maxHeartbeats 4000000 in
theorem putLog_any (base g : Nat) (v : Value) (xs : List Nat) (A : Option Addr) (n c : Nat) (l : List Ent) (w : World) (hw : Wrt w base g 166 v xs) (h : Ents w (fun k => k = g ∨ v.ownBlock = some k) A n l) (hn : n ≤ 4096) (hlen : xs.length ≤ 1000) :
    Calls Try.prog 67 #[.pointer (some ⟨g, 0, none⟩), .slice A n c] w fun r w' => r = .returned (.tuple #[]) ∧ ∃ v', Wrt w' base g 166 v' (xs ++ logB l) ∧ Chw w w' g v v' := by
  have hln := h.len
  have hok := h.okAll
  have l3 := numB_le n (by omega)
  have k1 : IntKind.u64.wrap (n : Int) = (n : Int) := by show (n : Int) % 18446744073709551616 = _; omega
  have hu : U64 (n : Int) := by unfold U64; omega
  have hN := num_any _ _ _ _ _ _ hw hu (by omega)
  rw [Int.toNat_natCast] at hN
  go_enter Try.func67, Try.ntmps67
  go_wp2_with (go_at_call 90; (with_reducible refine hN.mono ?_); rintro r w1 ⟨rfl, v1, hw1, hc1⟩)
  clear hN
  go_loopw [13] (fun vi wr => ∃ (j : Nat) (v' : Value), j ≤ n ∧ vi = .int .i64 (j : Int) ∧ Wrt wr base g 166 v' (xs ++ numB n ++ entsB (l.take j)) ∧ Chw w wr g v v') (fun vi _ => ((n : Int) - intOf vi).toNat)
  case atStart => exact ⟨0, v1, by omega, rfl, by simpa [entsB] using hw1, hc1⟩
  case round =>
    clear hw1 hc1
    obtain ⟨j, v', hj, rfl, hw', hc⟩ := hrel
    obtain ⟨wo, rfl⟩ : ∃ wo : World, wo = wr := ⟨_, rfl⟩
    have htl := entsB_le (l := l.take j) (fun x hx => hok x (List.mem_of_mem_take hx))
    have htk : (l.take j).length ≤ 4096 := by rw [List.length_take]; omega
    by_cases hlt : j < n
    · have hK := Kp.of_chw hc
      obtain ⟨b, o, A2, c2, x, rfl, hb, hg, hxo, m1, m2, hB⟩ := h.at_ hlt
      have hnT := h.nt (by omega) _ rfl
      replace m1 := (hK.cell (p := ⟨b, o + j * 2, none⟩) hb hnT).trans m1
      replace m2 := (hK.cell (p := ⟨b, o + j * 2 + 1, none⟩) hb hnT).trans m2
      have hlj : (j : Int) < n := by omega
      have hT := hide (entsB_take hg)
      have hw2 := hw'.below (Below.alloc (Below.refl _ _) (Nat.le_refl _) (.cells #[.int .i64 x.e, .slice A2 x.t.length c2] 103))
      have hP := Blk.new wo 103 #[.int .i64 x.e, .slice A2 x.t.length c2]
      have hne := hw'.row.far (Nat.le_refl _)
      have hgl := hw'.blk.lt
      have hgb : wo.heap.size ≠ g := by omega
      have hst : (strOf x.t).size = x.t.length := strOf_size _
      have hI := int_any base g v' _ x.e _ hw2 hxo.e (by simp only [List.length_append]; omega)
      have hxn := hxo.n
      have hxe := numB_le _ (zig_lt _ hxo.e)
      have hca := hc.trans (Chw.of_below (Below.alloc (Below.refl _ _) (Nat.le_refl _) (.cells #[.int .i64 x.e, .slice A2 x.t.length c2] 103)))
      have hbo : b < wo.heap.size := Nat.lt_of_lt_of_le hb hK.size
      go_wp2_with (first | (go_at_call 65; (with_reducible refine hI.mono ?_); rintro r w5 ⟨rfl, v5, hw5, hc5⟩; have hP5 := Blk.chw hP hc5 hgb hne; have cP5 := hP5.cell; have lP5 := hP5.lt; have hc05 := hca.trans hc5; have hcv := (hB.kp (Kp.of_chw hc05)).conv) | (go_at_call 104; (with_reducible refine (text_any base g v5 _ (strOf x.t) w5 hw5 (by simp only [List.length_append]; omega)).mono ?_); rintro r w6 ⟨rfl, v6, hw6, hc6⟩))
      go_roundw
      case rel =>
        refine ⟨j + 1, v6, by omega, by go_num, ?_, hc05.trans hc6⟩
        rw [textB_str hxo.by_] at hw6
        rw [hT.out]
        simpa [entB, List.append_assoc] using hw6
      case measure => simp [intOf]; omega
    · obtain rfl : j = n := by omega
      go_wp2
      refine bodyPost_end (v := .tuple #[]) (by simp [results, Try.results67, go_sem] <;> rfl) rfl ⟨rfl, ?_⟩
      refine ⟨v', ?_, hc⟩
      rw [List.take_of_length_le (by omega)] at hw'
      simpa [logB, List.append_assoc, hln] using hw'
end Go.Proofs.Ytjhcgnmibnjocaa
