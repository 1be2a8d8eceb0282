import Derived.Test.YtijegnhkkgdihaaTally5
/-! The growth over parts. -/
namespace Go.Proofs.Ytijegnhkkgdihaa
open Go.RowKit
set_option linter.unusedVariables false
set_option linter.unusedSimpArgs false
theorem smps_take : ∀ (l : List (Int × Int)) (m : Nat), smps (l.take m) = (smps l).take (m * 2)
  | [], m => by simp [smps]
  | p :: l, 0 => by simp [smps]
  | p :: l, m + 1 => by
    have e : smps (p :: l) = .int .i64 p.1 :: .int .i64 p.2 :: smps l := rfl
    rw [e, show (m + 1) * 2 = m * 2 + 1 + 1 by omega, List.take_succ_cons, List.take_succ_cons, List.take_succ_cons, ← smps_take l m]
    rfl
theorem smps_drop : ∀ (l : List (Int × Int)) (m : Nat), smps (l.drop m) = (smps l).drop (m * 2)
  | [], m => by simp [smps]
  | p :: l, 0 => by simp [smps]
  | p :: l, m + 1 => by
    have e : smps (p :: l) = .int .i64 p.1 :: .int .i64 p.2 :: smps l := rfl
    rw [e, show (m + 1) * 2 = m * 2 + 1 + 1 by omega, List.drop_succ_cons, List.drop_succ_cons, List.drop_succ_cons, ← smps_drop l m]
theorem Reads_take {w : World} {B n m : Nat} {A : Option Addr} {l : List (Int × Int)} (h : Reads w B 2 A n (smps l)) (hm : m ≤ n) : Reads w B 2 A m (smps (l.take m)) := by
  refine ⟨?_, fun hn => ?_⟩
  · have := h.1
    rw [smps_length] at this ⊢
    rw [List.length_take]
    omega
  · obtain ⟨ad, e, hb, hc⟩ := h.2 (by omega)
    refine ⟨ad, e, hb, fun j u hu => hc j u ?_⟩
    rw [smps_take, List.getElem?_take] at hu
    split at hu
    · exact hu
    · cases hu
theorem Reads_drop {w : World} {B n m b o : Nat} {l : List (Int × Int)} (h : Reads w B 2 (some ⟨b, o, none⟩) n (smps l)) (hm : m ≤ n) : Reads w B 2 (some ⟨b, o + m * 2, none⟩) (n - m) (smps (l.drop m)) := by
  refine ⟨?_, fun hn => ?_⟩
  · have := h.1
    rw [smps_length] at this ⊢
    rw [List.length_drop]
    omega
  · obtain ⟨ad, e, hb, hc⟩ := h.2 (by omega)
    obtain rfl := Option.some.inj e
    refine ⟨_, rfl, hb, fun j u hu => ?_⟩
    rw [smps_drop, List.getElem?_drop] at hu
    rw [add_plain, Nat.add_assoc, ← add_plain]
    exact hc _ u hu
theorem I64s.take {l : List (Int × Int)} (h : I64s l) (m : Nat) : I64s (l.take m) := fun p hp => h p (List.mem_of_mem_take hp)
theorem I64s.drop {l : List (Int × Int)} (h : I64s l) (m : Nat) : I64s (l.drop m) := fun p hp => h p (List.mem_of_mem_drop hp)
theorem fold5 (l : List (Int × Int)) (hn : l ≠ []) (hl : l.length ≤ 65536) : ∃ v p e, foldA 5 l = (v, p, e) ∧ ((e = 0 ∧ p = true ∧ v = (l.getLastD (0, 0)).2 - (l.headD (0, 0)).2 ∧ -9223372036854775808 ≤ v ∧ v ≤ 9223372036854775807) ∨ e = 20) := by
  unfold foldA
  rw [if_neg (by omega), if_neg (by omega), if_neg hn, if_neg (by omega)]
  have : foldT 5 l = (l.getLastD (0, 0)).2 - (l.headD (0, 0)).2 := by unfold foldT; rw [if_pos rfl]
  by_cases h : -9223372036854775808 ≤ foldT 5 l ∧ foldT 5 l ≤ 9223372036854775807
  · rw [if_pos h]
    exact ⟨_, _, _, rfl, .inl ⟨rfl, rfl, this, h⟩⟩
  · rw [if_neg h]
    exact ⟨_, _, _, rfl, .inr rfl⟩
theorem split_ends (l : List (Int × Int)) (k : Nat) (hk : k < l.length) : ((l.take (k + 1)).getLastD (0, 0)) = ((l.drop k).headD (0, 0)) ∧ (l.take (k + 1)).headD (0, 0) = l.headD (0, 0) ∧ (l.drop k).getLastD (0, 0) = l.getLastD (0, 0) := by
  refine ⟨?_, ?_, ?_⟩
  · rw [List.getLastD_eq_getLast?, List.getLast?_eq_getElem?, List.headD_eq_head?_getD, List.head?_drop, List.length_take, List.getElem?_take]
    rw [if_pos (by omega), show min (k + 1) l.length - 1 = k by omega]
  · cases l with
    | nil => simp at hk
    | cons a r => rfl
  · rw [List.getLastD_eq_getLast?, List.getLastD_eq_getLast?, List.getLast?_drop, if_neg (by omega)]
set_option maxRecDepth 100000 in
set_option maxHeartbeats 1000000 in
theorem law_deltas (A : Option Addr) (n c : Nat) (l : List (Int × Int)) (a : Int) (w : World) (hr : Reads w w.heap.size 2 A n (smps l)) (hl : I64s l) (ha : -9223372036854775808 ≤ a ∧ a ≤ 9223372036854775807) (hn : n * 16 ≤ 140737488355328) :
    Calls Try.prog 6 #[.slice A n c, .int .i64 a] w fun e w' => e = .returned (.bool true) ∧ Below w.heap.size w w' := by
  have hlen : l.length = n := by have := hr.1; rw [smps_length] at this; omega
  by_cases h0 : n = 0 ∨ 65536 < n
  · have c1 : ((n : Int) == 0 || decide (65536 < (n : Int))) = true := by simp; omega
    go_enter Try.func6, Try.ntmps6
    go_wp2_with (first | (go_at_call 10; with_reducible refine (to_any _ _ _ _ _ hr hn).mono ?_; rintro e w' ⟨v, rfl, ho, hb⟩; obtain ⟨A', cap, rfl, hcap⟩ := own_slice ho; have hq := Reads.of_own ho; clear ho; obtain ⟨X, rfl⟩ := World.ext_of_below hb; clear hb) | (go_at_call 12; with_reducible refine (awake_any _).mono ?_; rintro e w' ⟨rfl, hb⟩; obtain ⟨X, rfl⟩ := World.ext_of_below hb; clear hb))
    all_goals first | (exfalso; omega) | (go_ret; refine ⟨rfl, ?_⟩; (repeat' (first | with_reducible exact Below.refl _ _ | with_reducible refine Below.ext ?_ ?_ _ | with_reducible refine Below.alloc ?_ ?_ _ | with_reducible refine Below.setCell ?_ ?_ _ | with_reducible refine Below.drew ?_ | with_reducible assumption | (simp [World.size_ext]; done) | (simp [World.size_ext]; omega))))
  · have c1 : ((n : Int) == 0) = false := by simp; omega
    have c2 : decide (65536 < (n : Int)) = false := by simp; omega
    obtain ⟨U, hU⟩ : ∃ U : Nat, IntKind.u64.wrap a = (U : Int) := ⟨(IntKind.u64.wrap a).toNat, by unfold IntKind.wrap; simp [IntKind.signed, IntKind.bits]; omega⟩
    have hUn : IntKind.u64.wrap (n : Int) = (n : Int) := by unfold IntKind.wrap; simp [IntKind.signed, IntKind.bits]; omega
    have hn0 : (0 : Int) < n := by omega
    obtain ⟨k, hk⟩ : ∃ k, k = U % n := ⟨_, rfl⟩
    have hkn : k < n := by rw [hk]; exact Nat.mod_lt _ (by omega)
    have hkI : (U : Int).tmod (n : Int) = (k : Int) := by rw [hk, Int.tmod_eq_emod_of_nonneg (by omega)]; rfl
    clear hk
    have hkc : (k : Int) + 1 ≤ n := by omega
    obtain ⟨v1, p1, e1, E1, H1⟩ := fold5 (l.take (k + 1)) (by intro h; rw [List.take_eq_nil_iff] at h; rcases h with h | h; omega; subst h; simp at hlen; omega) (by rw [List.length_take]; omega)
    obtain ⟨v2, p2, e2, E2, H2⟩ := fold5 (l.drop k) (by intro h; rw [List.drop_eq_nil_iff] at h; omega) (by rw [List.length_drop]; omega)
    obtain ⟨v3, p3, e3, E3, H3⟩ := fold5 l (by rintro rfl; simp at hlen; omega) (by omega)
    obtain ⟨s1, s2, s3⟩ := split_ends l k (by omega)
    rw [s1, s2] at H1
    rw [s3] at H2
    clear s1 s2 s3
    generalize (l.drop k).headD (0, 0) = xk at *
    generalize (l.getLastD (0, 0)) = xl at *
    generalize (l.headD (0, 0)) = xh at *
    have f1 := fun A c w hr => fold_any 5 A (k + 1) c (l.take (k + 1)) w hr (hl.take _) (by omega) (by omega)
    have f2 := fun A c w hr => fold_any 5 A (n - k) c (l.drop k) w hr (hl.drop _) (by omega) (by omega)
    have f3 := fun A c w hr => fold_any 5 A n c l w hr hl (by omega) hn
    rw [E1] at f1
    rw [E2] at f2
    rw [E3] at f3
    clear E1 E2 E3
    go_enter Try.func6, Try.ntmps6
    go_wp2_with (first | (go_at_call 10; with_reducible refine (to_any _ _ _ _ _ hr hn).mono ?_; rintro e w1 ⟨v, rfl, ho, hb1⟩; obtain ⟨A1, cap1, rfl, hcap1⟩ := own_slice ho; have hq1 := Reads.of_own ho; have hs1 := hb1.size; clear ho; (obtain ⟨b, o, rfl, hbo, -⟩ := hq1.plain (by omega) (by omega); have q1 := Reads_take hq1 hkn; have q2 := Reads_drop hq1 (Nat.le_of_lt hkn); have hkcap : (k : Int) + 1 ≤ cap1 := (by omega); have hkne : ¬cap1 = k := (by omega))) | (go_at_call 12; with_reducible refine (awake_any _).mono ?_; rintro e w' ⟨rfl, hb⟩; obtain ⟨X, rfl⟩ := World.ext_of_below hb; clear hb) | (go_at_call 9; with_reducible refine (f1 _ _ _ (q1.grown _)).mono ?_; rintro e w' ⟨rfl, hb⟩; obtain ⟨X, rfl⟩ := World.ext_of_below hb; clear hb) | (go_at_call 9; with_reducible refine (f2 _ _ _ (q2.grown _)).mono ?_; rintro e w' ⟨rfl, hb⟩; obtain ⟨X, rfl⟩ := World.ext_of_below hb; clear hb) | (go_at_call 9; with_reducible refine (f3 _ _ _ (hq1.grown _)).mono ?_; rintro e w' ⟨rfl, hb⟩; obtain ⟨X, rfl⟩ := World.ext_of_below hb; clear hb))
    all_goals (go_ret; refine ⟨?_, by (repeat' (first | with_reducible exact Below.refl _ _ | with_reducible refine Below.ext ?_ ?_ _ | with_reducible refine Below.alloc ?_ ?_ _ | with_reducible refine Below.setCell ?_ ?_ _ | with_reducible refine Below.drew ?_ | with_reducible assumption | (simp [World.size_ext]; done) | (simp [World.size_ext]; omega)))⟩)
    all_goals clear f1 f2 f3 hq1 q1 q2 hr hl
    all_goals first | rfl | (exfalso; simp at H1; done) | (exfalso; simp at H2; done) | (exfalso; simp at H3; done) | (simp; omega) | (rcases H1 with ⟨-, hp1, hv1⟩ | h1 <;> rcases H2 with ⟨-, hp2, hv2⟩ | h2 <;> rcases H3 with ⟨-, hp3, hv3⟩ | h3 <;> first | (exfalso; omega) | (exfalso; subst hp1; contradiction) | (exfalso; subst hp2; contradiction) | (exfalso; subst hp3; contradiction) | (exfalso; subst h3; contradiction) | (simp; unfold wrap64; omega))
section
open Go.ChangeShapes Go.WideShapes Go.ChangeAt
variable {H : Type} {enc : TypeId × Value → H}
theorem bound_of {ts : List TypeId} {ds : List (DataW H)} {j n : Nat} {d : DataW H} (hs : (DataW.weightsEach Try.prog ts ds).all (· ≤ reachBytes) = true) (ht : ts[j]? = some 22) (hd : ds[j]? = some d) (hn : n = 0 ∨ ∃ es sp, d = .slice es sp ∧ n ≤ es.length + sp.length) : n * 16 ≤ 140737488351232 := by
  rcases hn with rfl | ⟨es, sp, rfl, hle⟩
  · omega
  · have := sized_slice hs ht hd Try.underlying22
    rw [bytesRefSample] at this
    have h2 : reachBytes = 140737488351232 := by decide
    omega
theorem tallyDeltas_walk : LawWalkS enc Try.prog 6 Try.f6 := by
  intro W base args ds ps hval hA hlt _ hs
  rw [Try.params6] at hA hval hs
  obtain ⟨v0, v1, d0, d1, p0, p1, rfl, rfl, rfl, h0, h1⟩ := trodAll_two hA
  obtain ⟨A, n, c, l, rfl, hnc, hr, hl, hn⟩ := smps_open (hval 0 _ v0 rfl rfl) h0
  obtain ⟨a, rfl, _, _, ha⟩ := open_int Try.underlying3 (hval 1 _ v1 rfl rfl) h1
  simp [Lit.wf, IntKind.min, IntKind.max, IntKind.signed, IntKind.bits] at ha
  have hn' := bound_of hs (j := 0) rfl rfl hn
  exact law_deltas A n c l a W hr hl ha (by omega)
set_option maxRecDepth 100000 in
theorem tallyDeltas_lifted (os : Os) (started : os.Started) (H : Type) (enc : TypeId × Value → H) :
    ReturnsInHanded {} Try.checked os 6 .any (Rows.tallyDeltasSpec.pre6 enc Try.prog Try.f6 Rows.tallyDeltasRow.domain false) (Rows.tallyDeltasSpec.post enc Try.prog Try.f6 false true false false) :=
  law_lifted_sized (C := Try.checked) own started (by kernel_rfl) Try.func6 laidOut (by kernel_rfl) rfl Try.underlying4 rfl rfl
    (fun ds h => by obtain ⟨d0, d1, rfl⟩ := list2 h; rfl)
    (ChangeSpec.witness6 (enc := enc) (C := Try.checked) false ⟨#[], #[.slice none 0 0, .int .i64 0], []⟩ 8 (by kernel_rfl) (by kernel_rfl) (by kernel_rfl) (by kernel_rfl))
    tallyDeltas_walk
theorem tallyDeltas_holds : Rows.TallyDeltasSaid :=
  OpenClaim.holds_of_wide 6 Try.f6 rfl rfl rfl rfl rfl rfl rfl ⟨rfl, rfl, rfl, rfl, rfl⟩ rfl rfl rfl rfl rfl (by kernel_rfl) Try.func6 (by kernel_rfl)
    (of_decide_eq_true (by kernel_rfl)) (by unfold Func.isWrapper; rw [if_neg (of_decide_eq_false (by kernel_rfl))]; exact ⟨rfl, rfl⟩)
    (fun os started H enc _ => tallyDeltas_lifted os started H enc)
#print axioms tallyDeltas_holds
end
end Go.Proofs.Ytijegnhkkgdihaa
