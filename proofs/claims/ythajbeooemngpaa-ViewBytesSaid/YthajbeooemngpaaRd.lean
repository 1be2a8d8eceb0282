import Derived.Test.YthajbeooemngpaaBe
import Derived.Test.YthajbeooemngpaaOnly
import Derived.Test.YthajbeooemngpaaWire
/-! The wire's reader: a block of two cells: bytes, an error. -/
namespace Go.Proofs.Ythajbeooemngpaa
open Go.RowKit
set_option linter.unusedVariables false
set_option linter.unusedSimpArgs false
/-- A slice at an address reads, in block b, as numbers below 256. -/
structure Sees (w : World) (b : Nat) (A : Option Addr) (xs : List Nat) : Prop where
  lt : b < w.heap.size
  ex : 0 < xs.length → ∃ o, A = some ⟨b, o, none⟩ ∧ ∀ (j x : Nat), xs[j]? = some x → w.cell? ⟨b, o + j, none⟩ = some (.int .u8 (x : Int))
  by_ : ∀ x ∈ xs, x < 256
theorem Sees.keep {w w' : World} {b : Nat} {A : Option Addr} {xs : List Nat} (h : Sees w b A xs) (hs : b < w'.heap.size) (hk : w'.heap[b]? = w.heap[b]?) : Sees w' b A xs :=
  ⟨hs, fun h0 => by
    obtain ⟨o, e, hc⟩ := h.ex h0
    refine ⟨o, e, fun j x hx => ?_⟩
    rw [← hc j x hx]
    simp only [World.cell?, hk], h.by_⟩
theorem Sees.below {w w' : World} {b : Nat} {A : Option Addr} {xs : List Nat} (h : Sees w b A xs) (hb : Below w.heap.size w w') : Sees w' b A xs :=
  h.keep (Nat.lt_of_lt_of_le h.lt hb.size) (hb.block b h.lt)
theorem Sees.only {w w' : World} {b g : Nat} {A : Option Addr} {xs : List Nat} (h : Sees w b A xs) (ho : Only w w' g) (hne : b ≠ g) : Sees w' b A xs :=
  h.keep (Nat.lt_of_lt_of_le h.lt ho.size) (ho.block b h.lt hne)
theorem Sees.reads {w : World} {b : Nat} {A : Option Addr} {xs : List Nat} (h : Sees w b A xs) : Reads w w.heap.size 1 A xs.length (u8s xs) := by
  refine ⟨by rw [u8s_length, Nat.mul_one], fun h0 => ?_⟩
  obtain ⟨o, rfl, hc⟩ := h.ex h0
  refine ⟨_, rfl, h.lt, fun j u hu => ?_⟩
  rw [add_plain]
  rw [u8s_get] at hu
  cases hx : xs[j]? with
  | none => rw [hx] at hu; cases hu
  | some x =>
    rw [hx] at hu
    simp only [Option.map_some, Option.some.injEq] at hu
    rw [← hu]
    exact hc j x hx
theorem Sees.nil {w : World} {b : Nat} (A : Option Addr) (h : b < w.heap.size) : Sees w b A [] := ⟨h, fun h0 => absurd h0 (by simp), fun x hx => by cases hx⟩
theorem Sees.take {w : World} {b : Nat} {A : Option Addr} {xs : List Nat} (h : Sees w b A xs) (n : Nat) : Sees w b A (xs.take n) :=
  ⟨h.lt, (fun h0 => by
    obtain ⟨o, e, hc⟩ := h.ex (by simp at h0; omega)
    refine ⟨o, e, fun j x hx => hc j x ?_⟩
    rw [List.getElem?_take] at hx
    split at hx
    · exact hx
    · cases hx), fun x hx => h.by_ x (List.mem_of_mem_take hx)⟩
theorem Sees.drop {w : World} {b o : Nat} {xs : List Nat} (h : Sees w b (some ⟨b, o, none⟩) xs) (n : Nat) : Sees w b (some ⟨b, o + n, none⟩) (xs.drop n) :=
  ⟨h.lt, (fun h0 => by
    obtain ⟨o', e, hc⟩ := h.ex (by simp at h0; omega)
    cases e
    refine ⟨o + n, rfl, fun j x hx => ?_⟩
    rw [Nat.add_assoc]
    exact hc _ x (by rw [List.getElem?_drop] at hx; exact hx)), fun x hx => h.by_ x (List.mem_of_mem_drop hx)⟩
/-- A reader. -/
structure Rdr (w : World) (g b : Nat) (xs : List Nat) (e : Int) : Prop where
  ex : ∃ A c, Blk w g 139 #[.slice A xs.length c, .int .i64 e] ∧ Sees w b A xs ∧ xs.length ≤ c ∧ c ≤ maxLen
  ne : b ≠ g
theorem Rdr.below {w w' : World} {g b : Nat} {xs : List Nat} {e : Int} (h : Rdr w g b xs e) (hb : Below w.heap.size w w') : Rdr w' g b xs e := by
  obtain ⟨⟨A, c, h1, h2, h3⟩, hn⟩ := h
  exact ⟨⟨A, c, h1.below hb h1.lt, h2.below hb, h3⟩, hn⟩
theorem Rdr.only {w w' : World} {g b k : Nat} {xs : List Nat} {e : Int} (h : Rdr w g b xs e) (ho : Only w w' k) (h1 : g ≠ k) (h2 : b ≠ k) : Rdr w' g b xs e := by
  obtain ⟨⟨A, c, h3, h4, h5⟩, hn⟩ := h
  exact ⟨⟨A, c, Blk.only h3 ho h1, Sees.only h4 ho h2, h5⟩, hn⟩
theorem Rdr.lt {w : World} {g b : Nat} {xs : List Nat} {e : Int} (h : Rdr w g b xs e) : g < w.heap.size ∧ b < w.heap.size := by
  obtain ⟨⟨A, c, h3, h4, h5⟩, hn⟩ := h
  exact ⟨h3.lt, h4.lt⟩
theorem Rdr.by_ {w : World} {g b : Nat} {xs : List Nat} {e : Int} (h : Rdr w g b xs e) : ∀ x ∈ xs, x < 256 := by
  obtain ⟨⟨A, c, h3, h4, h5⟩, hn⟩ := h
  exact h4.by_
/-- What is left when so many bytes are taken. -/
structure Rest where
  xs : List Nat
  e : Int
def takeP (n : Nat) (r : Rest) : List Nat × Rest := if r.e ≠ 0 then ([], r) else if r.xs.length < n then ([], ⟨[], 9⟩) else (r.xs.take n, ⟨r.xs.drop n, 0⟩)
/-- A number. -/
def failP (e : Int) (r : Rest) : Rest := ⟨[], if r.e = 0 then e else r.e⟩
theorem fail_any (g b : Nat) (xs : List Nat) (e0 e : Int) (w : World) (h : Rdr w g b xs e0) :
    Calls Try.prog 83 #[.pointer (some ⟨g, 0, none⟩), .int .i64 e] w fun e' w' => e' = .returned (.tuple #[]) ∧ Rdr w' g b (failP e ⟨xs, e0⟩).xs (failP e ⟨xs, e0⟩).e ∧ Only w w' g := by
  obtain ⟨⟨A, c, h1, h2, h3, h4⟩, hn⟩ := h
  have c1 := h1.cell
  have f1 := h1.frozen
  have l1 := h1.lt
  unfold failP
  simp only
  by_cases h0 : e0 = 0
  · subst h0
    rw [if_pos rfl]
    go_enter Try.func83, Try.ntmps83
    go_wp2
    refine bodyPost_end (v := .tuple #[]) (by simp [results, Try.results83, go_sem] <;> rfl) rfl ⟨rfl, ?_⟩
    exact ⟨⟨⟨none, 0, by (repeat' (first | with_reducible exact h1 | with_reducible refine Blk.ext ?_ _ | with_reducible refine Blk.alloc ?_ _ | with_reducible apply Blk.set_to | with_reducible refine Blk.far ?_ ?_ _ | rfl | (simp [World.size_ext]; done) | (simp [World.size_ext]; omega))), (Sees.nil none h2.lt).only (by (repeat' (first | with_reducible exact h1 | with_reducible exact Only.refl _ _ | with_reducible refine Only.set_ ?_ ?_ _ | with_reducible refine Only.alloc ?_ _ | with_reducible refine Only.ext ?_ _ | exact .inl rfl | (right; first | omega | (simp [World.size_ext]; done) | (simp [World.size_ext]; omega))))) hn, Nat.le_refl _, by unfold maxLen; omega⟩, hn⟩, by (repeat' (first | with_reducible exact h1 | with_reducible exact Only.refl _ _ | with_reducible refine Only.set_ ?_ ?_ _ | with_reducible refine Only.alloc ?_ _ | with_reducible refine Only.ext ?_ _ | exact .inl rfl | (right; first | omega | (simp [World.size_ext]; done) | (simp [World.size_ext]; omega))))⟩
  · rw [if_neg h0]
    have h0' : (e0 == 0) = false := by simpa using h0
    go_enter Try.func83, Try.ntmps83
    go_wp2
    refine bodyPost_end (v := .tuple #[]) (by simp [results, Try.results83, go_sem] <;> rfl) rfl ⟨rfl, ?_⟩
    exact ⟨⟨⟨none, 0, by (repeat' (first | with_reducible exact h1 | with_reducible refine Blk.ext ?_ _ | with_reducible refine Blk.alloc ?_ _ | with_reducible apply Blk.set_to | with_reducible refine Blk.far ?_ ?_ _ | rfl | (simp [World.size_ext]; done) | (simp [World.size_ext]; omega))), (Sees.nil none h2.lt).only (by (repeat' (first | with_reducible exact h1 | with_reducible exact Only.refl _ _ | with_reducible refine Only.set_ ?_ ?_ _ | with_reducible refine Only.alloc ?_ _ | with_reducible refine Only.ext ?_ _ | exact .inl rfl | (right; first | omega | (simp [World.size_ext]; done) | (simp [World.size_ext]; omega))))) hn, Nat.le_refl _, by unfold maxLen; omega⟩, hn⟩, by (repeat' (first | with_reducible exact h1 | with_reducible exact Only.refl _ _ | with_reducible refine Only.set_ ?_ ?_ _ | with_reducible refine Only.alloc ?_ _ | with_reducible refine Only.ext ?_ _ | exact .inl rfl | (right; first | omega | (simp [World.size_ext]; done) | (simp [World.size_ext]; omega))))⟩
set_option maxHeartbeats 1000000 in
theorem take_any (g b : Nat) (xs : List Nat) (e : Int) (n : Nat) (w : World) (h : Rdr w g b xs e) (hm : n ≤ 9223372036854775807) :
    Calls Try.prog 82 #[.pointer (some ⟨g, 0, none⟩), .int .i64 (n : Int)] w fun e' w' => ∃ A c, e' = .returned (.slice A (takeP n ⟨xs, e⟩).1.length c) ∧ Sees w' b A (takeP n ⟨xs, e⟩).1 ∧ (takeP n ⟨xs, e⟩).1.length ≤ c ∧ c ≤ maxLen ∧
      Rdr w' g b (takeP n ⟨xs, e⟩).2.xs (takeP n ⟨xs, e⟩).2.e ∧ Only w w' g := by
  have hr := h
  obtain ⟨⟨A, c, h1, h2, h3, h4⟩, hn⟩ := h
  have c1 := h1.cell
  have f1 := h1.frozen
  have l1 := h1.lt
  have hlm : c ≤ 9223372036854775807 := by unfold maxLen at h4; exact h4
  by_cases h0 : e = 0
  · subst h0
    by_cases hl : xs.length < n
    · have hq : takeP n ⟨xs, 0⟩ = ([], ⟨[], 9⟩) := by unfold takeP; rw [if_neg (by simp), if_pos hl]
      rw [hq]
      have hl' : (xs.length : Int) < n := by omega
      go_enter Try.func82, Try.ntmps82
      go_wp2_with (go_at_call 83; (with_reducible refine (fail_any _ _ _ _ _ _ hr).mono ?_); rintro e w1 ⟨rfl, hr1, ho1⟩)
      go_ret
      exact ⟨none, 0, rfl, Sees.nil none hr1.lt.2, Nat.le_refl _, by unfold maxLen; omega, hr1, ho1⟩
    · have hq : takeP n ⟨xs, 0⟩ = (xs.take n, ⟨xs.drop n, 0⟩) := by unfold takeP; rw [if_neg (by simp), if_neg hl]
      rw [hq]
      have hl' : (n : Int) ≤ xs.length := by omega
      have hlt : (xs.take n).length = n := by rw [List.length_take]; omega
      have hld : (xs.drop n).length = xs.length - n := by rw [List.length_drop]
      have hcn : (n : Int) ≤ c := by omega
      rcases Nat.eq_zero_or_pos xs.length with hz | hz
      · obtain rfl : xs = [] := List.eq_nil_of_length_eq_zero hz
        obtain rfl : n = 0 := by simp at hl; omega
        clear hl' hlt hld hcn
        go_enter Try.func82, Try.ntmps82
        go_wp2
        refine bodyPost_ret (v := _) (by simp [results, Try.results82, go_sem] <;> rfl) rfl ?_
        exact ⟨_, c, rfl, Sees.nil _ (by simpa using h2.lt), by simp, h4, ⟨⟨_, c, by (repeat' (first | with_reducible exact h1 | with_reducible refine Blk.ext ?_ _ | with_reducible refine Blk.alloc ?_ _ | with_reducible apply Blk.set_to | with_reducible refine Blk.far ?_ ?_ _ | rfl | (simp [World.size_ext]; done) | (simp [World.size_ext]; omega))), Sees.nil _ (by simpa using h2.lt), by simp, h4⟩, hn⟩, by (repeat' (first | with_reducible exact h1 | with_reducible exact Only.refl _ _ | with_reducible refine Only.set_ ?_ ?_ _ | with_reducible refine Only.alloc ?_ _ | with_reducible refine Only.ext ?_ _ | exact .inl rfl | (right; first | omega | (simp [World.size_ext]; done) | (simp [World.size_ext]; omega))))⟩
      · obtain ⟨o, rfl, hc⟩ := h2.ex hz
        have hd := h2.drop n
        clear hc
        by_cases hcc : c = n
        · subst hcc
          have hxl : xs.length = c := by omega
          rw [hxl] at h1
          have c1 := h1.cell
          have f1 := h1.frozen
          clear hl' hlt hcn h3
          go_enter Try.func82, Try.ntmps82
          go_wp2
          refine bodyPost_ret (v := _) (by simp [results, Try.results82, go_sem] <;> rfl) rfl ?_
          have hdn : xs.drop c = [] := List.drop_of_length_le (by omega)
          rw [hdn, List.take_of_length_le (by omega : xs.length ≤ c)]
          refine ⟨some ⟨b, o, none⟩, c, by rw [hxl], h2.only (by (repeat' (first | with_reducible exact h1 | with_reducible exact Only.refl _ _ | with_reducible refine Only.set_ ?_ ?_ _ | with_reducible refine Only.alloc ?_ _ | with_reducible refine Only.ext ?_ _ | exact .inl rfl | (right; first | omega | (simp [World.size_ext]; done) | (simp [World.size_ext]; omega))))) hn, by omega, h4, ⟨⟨some ⟨b, o, none⟩, 0, by (repeat' (first | with_reducible exact h1 | with_reducible refine Blk.ext ?_ _ | with_reducible refine Blk.alloc ?_ _ | with_reducible apply Blk.set_to | with_reducible refine Blk.far ?_ ?_ _ | rfl | (simp [World.size_ext]; done) | (simp [World.size_ext]; omega))), Sees.nil _ (by simpa using h2.lt), by simp, by omega⟩, hn⟩, by (repeat' (first | with_reducible exact h1 | with_reducible exact Only.refl _ _ | with_reducible refine Only.set_ ?_ ?_ _ | with_reducible refine Only.alloc ?_ _ | with_reducible refine Only.ext ?_ _ | exact .inl rfl | (right; first | omega | (simp [World.size_ext]; done) | (simp [World.size_ext]; omega))))⟩
        · have hcc' : (c = n) = False := eq_false hcc
          go_enter Try.func82, Try.ntmps82
          go_wp2
          refine bodyPost_ret (v := _) (by simp [results, Try.results82, go_sem] <;> rfl) rfl ?_
          refine ⟨some ⟨b, o, none⟩, c, by rw [hlt], (h2.take n).only (by (repeat' (first | with_reducible exact h1 | with_reducible exact Only.refl _ _ | with_reducible refine Only.set_ ?_ ?_ _ | with_reducible refine Only.alloc ?_ _ | with_reducible refine Only.ext ?_ _ | exact .inl rfl | (right; first | omega | (simp [World.size_ext]; done) | (simp [World.size_ext]; omega))))) hn, by omega, h4, ⟨⟨some ⟨b, o + n, none⟩, c - n, by rw [hld]; (repeat' (first | with_reducible exact h1 | with_reducible refine Blk.ext ?_ _ | with_reducible refine Blk.alloc ?_ _ | with_reducible apply Blk.set_to | with_reducible refine Blk.far ?_ ?_ _ | rfl | (simp [World.size_ext]; done) | (simp [World.size_ext]; omega))), hd.only (by (repeat' (first | with_reducible exact h1 | with_reducible exact Only.refl _ _ | with_reducible refine Only.set_ ?_ ?_ _ | with_reducible refine Only.alloc ?_ _ | with_reducible refine Only.ext ?_ _ | exact .inl rfl | (right; first | omega | (simp [World.size_ext]; done) | (simp [World.size_ext]; omega))))) hn, by omega, by omega⟩, hn⟩, by (repeat' (first | with_reducible exact h1 | with_reducible exact Only.refl _ _ | with_reducible refine Only.set_ ?_ ?_ _ | with_reducible refine Only.alloc ?_ _ | with_reducible refine Only.ext ?_ _ | exact .inl rfl | (right; first | omega | (simp [World.size_ext]; done) | (simp [World.size_ext]; omega))))⟩
  · have hq : takeP n ⟨xs, e⟩ = ([], ⟨xs, e⟩) := by unfold takeP; rw [if_pos h0]
    rw [hq]
    have h0' : (e != 0) = true := by simpa using h0
    go_enter Try.func82, Try.ntmps82
    go_wp2
    go_ret
    exact ⟨none, 0, rfl, Sees.nil none hr.lt.2, Nat.le_refl _, by unfold maxLen; omega, hr, Only.refl _ _⟩
end Go.Proofs.Ythajbeooemngpaa
