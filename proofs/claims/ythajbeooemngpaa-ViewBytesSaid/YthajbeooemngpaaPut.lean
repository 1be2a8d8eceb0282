import Derived.Test.YthajbeooemngpaaWire3
import Derived.Test.YthajbeooemngpaaKit
import Derived.WalkSpells
import Derived.WalkLawsBesides
/-! Stamps as bytes. -/
namespace Go.Proofs.Ythajbeooemngpaa
open Go.RowKit
set_option linter.unusedVariables false
set_option linter.unusedSimpArgs false
def U32 (a : Int) : Prop := 0 ≤ a ∧ a ≤ 4294967295
set_option maxHeartbeats 400000 in
theorem sto_any (a b c : Int) (w : World) :
    Calls Try.prog 72 #[.agg #[.int .i64 a, .int .u32 b, .int .u32 c]] w fun e w' => e = .returned (.agg #[.int .i64 a, .int .u32 b, .int .u32 c]) ∧ Below w.heap.size w w' := by
  go_enter Try.func72, Try.ntmps72
  go_wp2
  exact bodyPost_ret (v := .agg #[.int .i64 a, .int .u32 b, .int .u32 c]) (by simp [results, Try.results72, go_sem]) rfl ⟨rfl, ((Below.refl _ _).alloc (Nat.le_refl _) _).alloc (by simp) _⟩

/-- A stamp's Wall as a number without a sign. -/
def u64 (a : Int) : Nat := (a % 18446744073709551616).toNat
def stampBytes (a b c : Int) : List Nat := be 8 (u64 a) ++ (be 4 b.toNat ++ be 4 c.toNat)
theorem stampBytes_length (a b c : Int) : (stampBytes a b c).length = 16 := by simp [stampBytes, be_length]

theorem wrap_u64 (a : Int) : IntKind.u64.wrap a = (u64 a : Int) := by
  unfold u64
  rw [Int.toNat_of_nonneg (Int.emod_nonneg _ (by decide))]
  rfl
theorem byte_shift (a : Int) (j : Nat) (hj : j < 8) : IntKind.u64.wrap a / 2 ^ (56 - 8 * j) % 256 = ((u64 a / 256 ^ (8 - 1 - j) % 256 : Nat) : Int) := by
  rw [wrap_u64, show (2 : Int) ^ (56 - 8 * j) = ((256 ^ (8 - 1 - j) : Nat) : Int) by
    rw [show (256 : Nat) = 2 ^ 8 by rfl, ← Nat.pow_mul, show 8 * (8 - 1 - j) = 56 - 8 * j by omega]
    exact (Int.natCast_pow 2 _).symm]
  exact (Int.natCast_emod _ _).symm ▸ rfl

theorem be4_cells (b : Int) (hb : 0 ≤ b ∧ b ≤ 4294967295) : u8s (be 4 b.toNat) = [.int .u8 (b / 16777216), .int .u8 (b / 65536 % 256), .int .u8 (b / 256 % 256), .int .u8 (b % 256)] := by
  obtain ⟨n, rfl⟩ := Int.eq_ofNat_of_zero_le hb.1
  simp only [u8s, be, List.nil_append, List.cons_append, List.map_cons, List.map_nil, Int.toNat_natCast, List.cons.injEq, Value.int.injEq, true_and, and_true]
  omega
theorem take4 (l m : List Nat) (h : l.length = 4) : (l ++ m).take 4 = l := by rw [List.take_append_of_le_length (by omega), List.take_of_length_le (by omega)]

set_option maxRecDepth 100000 in
set_option maxHeartbeats 3200000 in
theorem put_any (a b c : Int) (w : World) (ha : I64 a) (hb : U32 b) (hc : U32 c) :
    Calls Try.prog 81 #[.agg #[.int .i64 a, .int .u32 b, .int .u32 c]] w fun e w' => ∃ v, e = .returned v ∧ w'.ownsRow w.heap.size 5 1 v 16 (u8s (stampBytes a b c)) ∧ Below w.heap.size w w' := by
  obtain ⟨i0, hi, hz0, hz1, hz2⟩ := info_parts infoU8
  go_enter Try.func81, Try.ntmps81
  go_wp2
  go_loopw [3, 4] (fun v s wr => ∃ j : Nat, j ≤ 8 ∧ s = .int .i64 (56 - 8 * (j : Int)) ∧ wr.ownsRow (w.heap.size + 1) 5 1 v j (u8s ((be 8 (u64 a)).take j)) ∧ Below (w.heap.size + 1) (w.alloc (.cells #[.int .i64 a, .int .u32 b, .int .u32 c] 93)) wr) (fun _ s _ => (intOf s + 8).toNat)
  case atStart => exact ⟨0, by omega, rfl, ⟨rfl, .inl ⟨rfl, rfl⟩⟩, Below.refl _ _⟩
  case round =>
    obtain ⟨j, hj, rfl, hown, hbel⟩ := hrel
    have hcell : ∀ o, wr.cell? ⟨w.heap.size, o, none⟩ = #[.int .i64 a, .int .u32 b, .int .u32 c][o]? := fun o => by rw [hbel.cell (p := ⟨w.heap.size, o, none⟩) (by simp)]; simp
    have hcell0 := hbel.size
    simp only [World.size_alloc] at hcell0
    by_cases hlt : j < 8
    · have hts := be_take_succ 8 (u64 a) j hlt
      have hbs := byte_shift a j hlt
      have HT : Hid (u8s ((be 8 (u64 a)).take (j + 1)) = u8s ((be 8 (u64 a)).take j) ++ [.int .u8 (IntKind.u64.wrap a / 2 ^ (56 - 8 * j) % 256)]) := by show _ = _; rw [hts, u8s_append, hbs]; rfl
      clear hts hbs
      go_wp2_with (at_builtin; go_must (refine wpList_append_own _ rfl (.tmp 11) (.tmp 18) 23 rfl (w.heap.size + 1) 5 i0 (.int .u8 0) 1 1 Try.underlying23 hi hz0 hz1 hz2 rfl (by decide) u3 (j) _ rfl (hown.alloc _) ⟨wr.heap.size, 0, none⟩ 1 1 [(.int .u8 (IntKind.u64.wrap a / 2 ^ (56 - 8 * j) % 256))] rfl rfl ?c1 ?c2 ?c3 ?c4 ?c5 ?_))
      case c1 => exact cell_one_new _ _ _
      case c2 => intro u hu; simp at hu; subst hu; rfl
      case c3 => unfold maxLen; omega
      case c4 => omega
      case c5 => simp; omega
      intro v' w1 hown1 hg1 _
      have hbel1 := own_below (hbel.alloc hcell0 _) (hown.alloc _) hg1 (Nat.le_refl _) (by simp; omega)
      go_wp2
      go_roundw
      case rel => exact ⟨j + 1, by omega, by go_num, HT.out ▸ hown1, hbel1⟩
      case measure => simp [intOf]; omega
    · obtain rfl : j = 8 := by omega
      have hown : wr.ownsRow (w.heap.size + 1) 5 1 u3 8 (u8s (be 8 (u64 a) ++ (be 4 b.toNat ++ be 4 c.toNat).take (4 * 0))) := by
        simpa [List.take_of_length_le (show (be 8 (u64 a)).length ≤ 8 by simp [be_length])] using hown
      clear hlt
      have x0 : ∀ w, (Instr.index 144 (.agg #[.int .u32 b, .int .u32 c]) (.int .i64 0)).run Try.prog w = .ok (.int .u32 b) w := fun _ => by kernel_rfl
      have x1 : ∀ w, (Instr.index 144 (.agg #[.int .u32 b, .int .u32 c]) (.int .i64 1)).run Try.prog w = .ok (.int .u32 c) w := fun _ => by kernel_rfl
      unfold U32 at hb hc
      obtain ⟨wo, rfl⟩ : ∃ wo : World, wo = wr := ⟨_, rfl⟩
      go_wp2
      go_loopw [3, 25] (fun v s wr => ∃ j : Nat, j ≤ 2 ∧ s = .int .i64 (j : Int) ∧ wr.ownsRow (w.heap.size + 1) 5 1 v (8 + 4 * j) (u8s (be 8 (u64 a) ++ (be 4 b.toNat ++ be 4 c.toNat).take (4 * j))) ∧ Below (w.heap.size + 1) (w.alloc (.cells #[.int .i64 a, .int .u32 b, .int .u32 c] 93)) wr) (fun _ s _ => (2 - intOf s).toNat)
      case atStart => exact ⟨0, by omega, rfl, hown, hbel⟩
      case round =>
        clear hown hbel hcell hcell0
        obtain ⟨j, hj, rfl, hown, hbel⟩ := hrel
        have hcell0 := hbel.size
        simp only [World.size_alloc] at hcell0
        have H4 : Hid (u8s (be 4 b.toNat) = _ ∧ u8s (be 4 c.toNat) = _) := ⟨be4_cells b hb, be4_cells c hc⟩
        obtain rfl | rfl | rfl : j = 0 ∨ j = 1 ∨ j = 2 := by omega
        · go_wp2_with (at_builtin; refine wpList_append_own _ rfl (.tmp 28) (.tmp 40) 23 rfl (w.heap.size + 1) 5 i0 (.int .u8 0) 1 1 Try.underlying23 hi hz0 hz1 hz2 rfl (by decide) u3 (8 + 4 * 0) _ rfl (hown.alloc _) ⟨wr.heap.size, 0, none⟩ 4 4 [.int .u8 (b / 16777216), .int .u8 (b / 65536 % 256), .int .u8 (b / 256 % 256), .int .u8 (b % 256)] rfl rfl ?c1 ?c2 ?c3 ?c4 ?c5 ?_)
          case c1 => exact cells_new4 _ _ _ _ _ _
          case c2 => simp [Value.oneCell']
          case c3 => unfold maxLen; omega
          case c4 => omega
          case c5 => simp; omega
          intro v' w1 hown1 hg1 _
          have hbel1 := own_below (hbel.alloc hcell0 _) (hown.alloc _) hg1 (Nat.le_refl _) (by simp; omega)
          go_wp2
          go_roundw
          case rel => (repeat apply Exists.intro); exact ⟨⟨1, by omega, by go_num, by rw [take4 _ _ (be_length _ _), u8s_append, H4.out.1]; simpa using hown1, hbel1⟩, rfl⟩
          case measure => simp [intOf]
        · go_wp2_with (at_builtin; refine wpList_append_own _ rfl (.tmp 28) (.tmp 40) 23 rfl (w.heap.size + 1) 5 i0 (.int .u8 0) 1 1 Try.underlying23 hi hz0 hz1 hz2 rfl (by decide) u3 (8 + 4 * 1) _ rfl (hown.alloc _) ⟨wr.heap.size, 0, none⟩ 4 4 [.int .u8 (c / 16777216), .int .u8 (c / 65536 % 256), .int .u8 (c / 256 % 256), .int .u8 (c % 256)] rfl rfl ?c1 ?c2 ?c3 ?c4 ?c5 ?_)
          case c1 => exact cells_new4 _ _ _ _ _ _
          case c2 => simp [Value.oneCell']
          case c3 => unfold maxLen; omega
          case c4 => omega
          case c5 => simp; omega
          intro v' w1 hown1 hg1 _
          have hbel1 := own_below (hbel.alloc hcell0 _) (hown.alloc _) hg1 (Nat.le_refl _) (by simp; omega)
          rw [take4 _ _ (be_length _ _)] at hown1
          go_wp2
          go_roundw
          case rel => (repeat apply Exists.intro); exact ⟨⟨2, by omega, by go_num, by rw [List.take_of_length_le (by simp [be_length]), ← List.append_assoc, u8s_append, H4.out.2]; simpa using hown1, hbel1⟩, rfl⟩
          case measure => simp [intOf]
        · rw [List.take_of_length_le (by simp [be_length])] at hown
          go_wp2
          go_ret
          exact ⟨_, rfl, own_base hown (by omega), (Below.alloc (Below.refl _ _) (Nat.le_refl _) _).trans (hbel.mono (by omega))⟩
/-- Noughts, but for the last j of eight digits. -/
def part8 (n j : Nat) : List Nat := List.replicate (8 - j) 0 ++ (be 8 n).drop (8 - j)
theorem part8_length (n j : Nat) (h : j ≤ 8) : (part8 n j).length = 8 := by simp [part8, be_length]
theorem set_mid (m x y : Nat) (D E : List Nat) : ((List.replicate (m + 1) x ++ D) ++ E).set m y = (List.replicate m x ++ (y :: D)) ++ E := by
  rw [List.replicate_succ', List.append_assoc, List.append_assoc, List.append_assoc, List.set_append_right _ _ (by simp)]
  simp
theorem part8_succ (n j : Nat) (h : j < 8) (E : List Nat) : (part8 n j ++ E).set (7 - j) (n / 256 ^ j % 256) = part8 n (j + 1) ++ E := by
  unfold part8
  rw [show 8 - j = (7 - j) + 1 by omega, set_mid, show 8 - (j + 1) = 7 - j by omega]
  congr 2
  rw [List.drop_eq_getElem_cons (l := be 8 n) (i := 7 - j) (by rw [be_length]; omega)]
  congr 1
  have := be_get 8 n (7 - j) (by omega)
  rw [List.getElem?_eq_getElem (by rw [be_length]; omega)] at this
  rw [Option.some.inj this, show 8 - 1 - (7 - j) = j by omega]
theorem drop8 (n : Nat) : (be 8 n).drop 8 = [] := List.drop_of_length_le (by rw [be_length]; exact Nat.le_refl _)
theorem u64_lt (a : Int) : u64 a < 18446744073709551616 := by unfold u64; omega
theorem wrap_div (m : Nat) (h : m < 18446744073709551616) : IntKind.u64.wrap ((m : Int) / 256) = ((m / 256 : Nat) : Int) := by
  rw [wrap_u64]
  unfold u64
  omega
def part4 (n j : Nat) : List Nat := List.replicate (4 - j) 0 ++ (be 4 n).drop (4 - j)
theorem part4_length (n j : Nat) (h : j ≤ 4) : (part4 n j).length = 4 := by simp [part4, be_length]
theorem part4_succ (n j : Nat) (h : j < 4) : (part4 n j).set (3 - j) (n / 256 ^ j % 256) = part4 n (j + 1) := by
  have hs := set_mid (3 - j) 0 (n / 256 ^ j % 256) ((be 4 n).drop (4 - j)) []
  simp only [List.append_nil] at hs
  unfold part4
  rw [show 4 - j = (3 - j) + 1 by omega] at hs ⊢
  rw [hs, show 4 - (j + 1) = 3 - j by omega]
  congr 1
  rw [List.drop_eq_getElem_cons (l := be 4 n) (i := 3 - j) (by rw [be_length]; omega)]
  congr 1
  have := be_get 4 n (3 - j) (by omega)
  rw [List.getElem?_eq_getElem (by rw [be_length]; omega)] at this
  rw [Option.some.inj this, show 4 - 1 - (3 - j) = j by omega]
theorem set_two (B : List Nat) (n m j : Nat) (hB : B.length = 8) (h : j < 4) :
    ((B ++ (part4 n j ++ part4 m j)).set (8 + (3 - j)) (n / 256 ^ j % 256)).set (12 + (3 - j)) (m / 256 ^ j % 256) = B ++ (part4 n (j + 1) ++ part4 m (j + 1)) := by
  have h1 := part4_length n j (by omega)
  have h3 := part4_length n (j + 1) (by omega)
  have e1 : (B ++ (part4 n j ++ part4 m j)).set (8 + (3 - j)) (n / 256 ^ j % 256) = B ++ (part4 n (j + 1) ++ part4 m j) := by
    rw [List.set_append_right _ _ (by omega), show 8 + (3 - j) - B.length = 3 - j by omega, List.set_append_left _ _ (by omega), part4_succ n j h]
  rw [e1, List.set_append_right _ _ (by omega), List.set_append_right _ _ (by omega), show 12 + (3 - j) - B.length - (part4 n (j + 1)).length = 3 - j by omega, part4_succ m j h]
theorem u8s_set (l : List Nat) (i n : Nat) : (u8s l).toArray.setIfInBounds i (.int .u8 (n : Int)) = (u8s (l.set i n)).toArray := by
  simp [u8s, List.map_set]

set_option maxRecDepth 100000 in
set_option maxHeartbeats 3200000 in
theorem rput_any (a b c : Int) (w : World) (ha : I64 a) (hb : U32 b) (hc : U32 c) :
    Calls Try.prog 91 #[.agg #[.int .i64 a, .int .u32 b, .int .u32 c]] w fun e w' => ∃ v, e = .returned v ∧ w'.ownsRow w.heap.size 5 1 v 16 (u8s (stampBytes a b c)) ∧ Below w.heap.size w w' := by
  have hmk : ∀ w, (Instr.makeSlice 23 (.int .i64 16) (.int .i64 16)).run Try.prog w = .ok (.slice (some ⟨w.heap.size, 0, none⟩) 16 16) (w.alloc (.cells #[.int .u8 0, .int .u8 0, .int .u8 0, .int .u8 0, .int .u8 0, .int .u8 0, .int .u8 0, .int .u8 0, .int .u8 0, .int .u8 0, .int .u8 0, .int .u8 0, .int .u8 0, .int .u8 0, .int .u8 0, .int .u8 0] 5)) := fun _ => by kernel_rfl
  have hwr := wrap_u64 a
  unfold U32 at hb hc
  go_enter Try.func91, Try.ntmps91
  go_wp2
  clear hmk hwr
  go_loopw [4, 7] (fun x s wr => ∃ j m : Nat, j ≤ 8 ∧ s = .int .i64 (7 - (j : Int)) ∧ x = .int .u64 (m : Int) ∧ Hid (m = u64 a / 256 ^ j) ∧ Blk wr (w.heap.size + 1) 5 (u8s (part8 (u64 a) j ++ List.replicate 8 0)).toArray ∧ Below (w.heap.size + 1) (w.alloc (.cells #[.int .i64 a, .int .u32 b, .int .u32 c] 49)) wr) (fun _ s _ => (intOf s + 1).toNat)
  case atStart => exact ⟨0, u64 a, by omega, rfl, rfl, show _ = _ by simp, by have := Blk.new (w.alloc (.cells #[.int .i64 a, .int .u32 b, .int .u32 c] 49)) 5 (u8s (part8 (u64 a) 0 ++ List.replicate 8 0)).toArray; simpa [part8, drop8, u8s, List.replicate] using this, (Below.refl _ _).alloc (by simp) _⟩
  case round =>
    obtain ⟨j, m, hj, rfl, rfl, hm, hblk, hbel⟩ := hrel
    have hm0 : (0 : Int) ≤ m := by omega
    have hfs := hblk.frozen
    by_cases hlt : j < 8
    · obtain ⟨v0, hv0⟩ : ∃ v0, wr.cell? ⟨w.heap.size + 1, 7 - j, none⟩ = some v0 := by
        rw [hblk.cell]
        exact ⟨_, Array.getElem?_eq_getElem (by simp [u8s, part8_length _ _ hj]; omega)⟩
      have hst := part8_succ (u64 a) j hlt (List.replicate 8 0)
      have HS : Hid (Blk (wr.setCell ⟨w.heap.size + 1, 7 - j, none⟩ (.int .u8 ((m : Int) % 256))) (w.heap.size + 1) 5 (u8s (part8 (u64 a) (j + 1) ++ List.replicate 8 0)).toArray) := by
        have := hblk.set_ (7 - j) (.int .u8 ((m : Int) % 256))
        rw [show ((m : Int) % 256) = ((m % 256 : Nat) : Int) by omega, hm.out, u8s_set, hst] at this
        rw [show ((m : Int) % 256) = ((m % 256 : Nat) : Int) by omega, hm.out]
        exact this
      clear hst
      go_wp2
      go_roundw
      case rel => exact ⟨j + 1, m / 256, by omega, by go_num, by rw [wrap_div m (by have := hm.out; have := u64_lt a; have := Nat.div_le_self (u64 a) (256 ^ j); omega)], by show _ = _; rw [hm.out, Nat.div_div_eq_div_mul, Nat.pow_succ], HS.out, hbel.setCell (by simp) _⟩
      case measure => simp [intOf]; omega
    · obtain rfl : j = 8 := by omega
      have hblk : Blk wr (w.heap.size + 1) 5 (u8s (be 8 (u64 a) ++ List.replicate 8 0)).toArray := by simpa [part8, be_length] using hblk
      clear hfs hm hlt hm0
      obtain ⟨wo, rfl⟩ : ∃ wo : World, wo = wr := ⟨_, rfl⟩
      go_wp2
      go_loopw [5, 6, 8] (fun x y s wr => ∃ j m n : Nat, j ≤ 4 ∧ s = .int .i64 (3 - (j : Int)) ∧ x = .int .u32 (m : Int) ∧ y = .int .u32 (n : Int) ∧ Hid (m = b.toNat / 256 ^ j) ∧ Hid (n = c.toNat / 256 ^ j) ∧ Blk wr (w.heap.size + 1) 5 (u8s (be 8 (u64 a) ++ (part4 b.toNat j ++ part4 c.toNat j))).toArray ∧ Below (w.heap.size + 1) (w.alloc (.cells #[.int .i64 a, .int .u32 b, .int .u32 c] 49)) wr) (fun _ _ s _ => (intOf s + 1).toNat)
      case atStart => exact ⟨0, b.toNat, c.toNat, by omega, rfl, by simp; omega, by simp; omega, show _ = _ by simp, show _ = _ by simp, by simpa [part4, List.drop_of_length_le (show (be 4 b.toNat).length ≤ 4 by simp [be_length]), List.drop_of_length_le (show (be 4 c.toNat).length ≤ 4 by simp [be_length])] using hblk, hbel⟩
      case round =>
        clear hblk hbel
        obtain ⟨j, m, n, hj, rfl, rfl, rfl, hm, hn, hblk, hbel⟩ := hrel
        have hm0 : (0 : Int) ≤ m := by omega
        have hn0 : (0 : Int) ≤ n := by omega
        have hfs := hblk.frozen
        by_cases hlt : j < 4
        · have hlen : (u8s (be 8 (u64 a) ++ (part4 b.toNat j ++ part4 c.toNat j))).toArray.size = 16 := by simp [u8s, be_length, part4_length _ _ hj]
          obtain ⟨v0, hv0⟩ : ∃ v0, wr.cell? ⟨w.heap.size + 1, 8 + (3 - j), none⟩ = some v0 := by
            rw [hblk.cell]
            exact ⟨_, Array.getElem?_eq_getElem (by omega)⟩
          obtain ⟨v1, hv1⟩ : ∃ v1, wr.cell? ⟨w.heap.size + 1, 12 + (3 - j), none⟩ = some v1 := by
            rw [hblk.cell]
            exact ⟨_, Array.getElem?_eq_getElem (by omega)⟩
          have HS : Hid (Blk ((wr.setCell ⟨w.heap.size + 1, 8 + (3 - j), none⟩ (.int .u8 ((m : Int) % 256))).setCell ⟨w.heap.size + 1, 12 + (3 - j), none⟩ (.int .u8 ((n : Int) % 256))) (w.heap.size + 1) 5 (u8s (be 8 (u64 a) ++ (part4 b.toNat (j + 1) ++ part4 c.toNat (j + 1)))).toArray) := by
            have := (hblk.set_ (8 + (3 - j)) (.int .u8 ((m : Int) % 256))).set_ (12 + (3 - j)) (.int .u8 ((n : Int) % 256))
            rw [show ((m : Int) % 256) = ((m % 256 : Nat) : Int) by omega, show ((n : Int) % 256) = ((n % 256 : Nat) : Int) by omega, hm.out, hn.out, u8s_set, u8s_set, set_two _ _ _ _ (be_length _ _) hlt] at this
            rw [show ((m : Int) % 256) = ((m % 256 : Nat) : Int) by omega, show ((n : Int) % 256) = ((n % 256 : Nat) : Int) by omega, hm.out, hn.out]
            exact this
          have hmb : m ≤ b.toNat := by rw [hm.out]; exact Nat.div_le_self _ _
          have hnb : n ≤ c.toNat := by rw [hn.out]; exact Nat.div_le_self _ _
          clear hlen
          go_wp2
          go_roundw
          case rel => exact ⟨j + 1, m / 256, n / 256, by omega, by go_num, by go_num, by go_num, by show _ = _; rw [hm.out, Nat.div_div_eq_div_mul, Nat.pow_succ], by show _ = _; rw [hn.out, Nat.div_div_eq_div_mul, Nat.pow_succ], HS.out, (hbel.setCell (by simp) _).setCell (by simp) _⟩
          case measure => simp [intOf]; omega
        · obtain rfl : j = 4 := by omega
          have hblk : Blk wr (w.heap.size + 1) 5 (u8s (stampBytes a b c)).toArray := by simpa [part4, stampBytes] using hblk
          clear hfs hm hn hlt
          go_wp2
          go_ret
          exact ⟨_, rfl, hblk.own (by omega) (by omega) (by unfold maxLen; omega) (by simp [u8s_length, stampBytes_length]) (by simp [u8s_length, stampBytes_length, List.take_of_length_le]) (by simp [u8s_length, stampBytes_length]), (Below.alloc (Below.refl _ _) (Nat.le_refl _) _).trans (hbel.mono (by omega))⟩
end Go.Proofs.Ythajbeooemngpaa
