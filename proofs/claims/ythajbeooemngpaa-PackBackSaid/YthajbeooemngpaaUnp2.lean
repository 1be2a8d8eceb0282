import Derived.Test.YthajbeooemngpaaUnp
import Derived.Test.YthajbeooemngpaaPack5
import Derived.Outline
/-! Samples off bytes: the walk. -/
namespace Go.Proofs.Ythajbeooemngpaa
open Go.RowKit
set_option linter.unusedVariables false
set_option linter.unusedSimpArgs false
theorem Rdr.keep {w w' : World} {g b B : Nat} {xs : List Nat} {e : Int} (h : Rdr w g b xs e) (hb : Below B w w') (h1 : g < B) (h2 : b < B) (hs : b < w'.heap.size) : Rdr w' g b xs e := by
  obtain ⟨⟨A, c, h3, h4, h5⟩, hn⟩ := h
  exact ⟨⟨A, c, (hb.block g h1).trans h3, h4.keep hs (hb.block b h2), h5⟩, hn⟩
theorem own_only {w w' : World} {base g : Nat} {t : TypeId} {size n : Nat} {v : Value} {xs : List Value} (h : w.ownsRow base t size v n xs) (ho : Only w w' g) (hg : g < base) : w'.ownsRow base t size v n xs := by
  refine ⟨h.1, ?_⟩
  rcases h.2 with h1 | ⟨k, cap, cur, rfl, h2, h3, h4⟩
  · exact .inl h1
  · exact .inr ⟨k, cap, cur, rfl, h2, (ho.block k (blk_lt h3) (by omega)).trans h3, h4⟩
theorem own_later {w w' : World} {base : Nat} {t : TypeId} {size n : Nat} {v : Value} {xs : List Value} (h : w.ownsRow base t size v n xs) (hb : Below w.heap.size w w') : w'.ownsRow base t size v n xs := by
  refine ⟨h.1, ?_⟩
  rcases h.2 with h1 | ⟨k, cap, cur, rfl, h2, h3, h4⟩
  · exact .inl h1
  · exact .inr ⟨k, cap, cur, rfl, h2, (hb.block k (blk_lt h3)).trans h3, h4⟩
def UnpP (b : List Nat) (w : World) (e' : Ending) (w' : World) : Prop :=
  ((∃ l, unpackP b = some l ∧ l.length ≤ 65536 ∧ ∃ v, e' = .returned (.tuple #[v, .int .i64 0]) ∧ w'.ownsRow w.heap.size 36 2 v l.length (smps l)) ∨
    (unpackP b = none ∧ ∃ er : Int, er ≠ 0 ∧ e' = .returned (.tuple #[.slice none 0 0, .int .i64 er]))) ∧ Below w.heap.size w w'
theorem fine_bad (out : List (Int × Int)) {T : Int} (U : Int) (h : ¬(0 ≤ T ∧ T ≤ 4611686018427387904)) : fineP (out ++ [(T, U)]) = false := by
  have h1 : (out ++ [(T, U)])[out.length]? = some (T, U) := by rw [List.getElem?_append_right (Nat.le_refl _), Nat.sub_self]; rfl
  unfold fineP
  rw [goodP_not (i := out.length) (by simp) (okP_lo h1 h), Bool.and_false]
theorem unp_err {b : List Nat} {xs : List Nat} {e t nu st : Int} {out : List (Int × Int)} (h : uEnd b = ⟨⟨xs, e⟩, t, nu, st, out⟩) (he : e ≠ 0) : unpackP b = none := by
  unfold unpackP; rw [h, if_neg (fun h => he h.1)]
theorem unp_bad {b : List Nat} {xs : List Nat} {e t nu st : Int} {out : List (Int × Int)} (h : uEnd b = ⟨⟨xs, e⟩, t, nu, st, out⟩) (he : fineP out = false) : unpackP b = none := by
  unfold unpackP; rw [h, if_neg (fun h => by rw [he] at h; cases h.2.1)]
theorem unp_more {b : List Nat} {xs : List Nat} {e t nu st : Int} {out : List (Int × Int)} (h : uEnd b = ⟨⟨xs, e⟩, t, nu, st, out⟩) (he : xs ≠ []) : unpackP b = none := by
  unfold unpackP; rw [h, if_neg (fun h => he h.2.2)]
theorem unp_ok {b : List Nat} {t nu st : Int} {out : List (Int × Int)} (h : uEnd b = ⟨⟨[], 0⟩, t, nu, st, out⟩) (he : fineP out = true) : unpackP b = some out := by
  unfold unpackP; rw [h, if_pos ⟨rfl, he, rfl⟩]
set_option maxRecDepth 100000 in
set_option maxHeartbeats 8000000 in
theorem unpack_any (A : Option Addr) (c : Nat) (l : List Nat) (w : World) (hr : Reads w w.heap.size 1 A l.length (u8s l)) (hx : ∀ x ∈ l, x < 256) (hnil : A = none → c = 0) (hlen : l.length ≤ 140737488355328) :
    Calls Try.prog 42 #[.slice A l.length c] w (UnpP l w) := by
  obtain ⟨i0, hi, hz0, hz1, hz2⟩ := info_parts infoS
  have HE : Hid (uRun (countP 65536 ⟨l, 0⟩).1 ⟨(countP 65536 ⟨l, 0⟩).2, 0, 0, 0, []⟩ = uEnd l) := show uRun (countP 65536 ⟨l, 0⟩).1 ⟨(countP 65536 ⟨l, 0⟩).2, 0, 0, 0, []⟩ = uEnd l from rfl
  have hN : (countP 65536 ⟨l, 0⟩).1 ≤ 65536 := by
    unfold countP
    split
    · simp
    · rename_i h
      by_cases h1 : (65536 : Int).toNat < (numP ⟨l, 0⟩).1
      · exact absurd (.inl h1) h
      · omega
  have hcn := fun w1 g b (h1 : Rdr w1 g b l 0) => rdcount_any g b l 0 65536 w1 h1 (by unfold I64; omega)
  generalize countP 65536 ⟨l, 0⟩ = q at *
  obtain ⟨N, q⟩ := q
  simp only at hcn hN
  dsimp only at HE
  go_enter Try.func42, Try.ntmps42
  go_wp2_with (first | (go_at_call 55; (with_reducible refine (read_any _ _ _ _ hr hx hnil hlen).mono ?_); rintro e w1 ⟨g, b, rfl, hr1, hgw, hbw, hb1⟩) | (go_at_call 60; (with_reducible refine (hcn _ _ _ hr1).mono ?_); rintro e w2 ⟨rfl, hr2, ho2⟩))
  have hs1 := hb1.size
  have hl1 := hr1.lt
  have hs2 := ho2.size
  have hb2 := hb1.trans (ho2.below hgw hs1)
  generalize hB : w2.heap.size = B at *
  have hgB : g < B := by omega
  have hbB : b < B := by omega
  have hwB : w.heap.size ≤ B := by omega
  clear hr1 hb1 hr hcn
  go_loopw [5, 6, 7, 8, 9] (fun vo vt vu vs vk wr => ∃ (k : Nat) (s : US), vk = .int .i64 (k : Int) ∧ vt = .int .i64 s.t ∧ vu = .int .i64 s.nu ∧ vs = .int .i64 s.st ∧ k + s.out.length ≤ 65536 ∧ Hid (uRun k s = uEnd l) ∧ wr.ownsRow B 36 2 vo s.out.length (smps s.out) ∧ Rdr wr g b s.r.xs s.r.e ∧ Below w.heap.size w wr ∧ B ≤ wr.heap.size) (fun _ _ _ _ vk _ => (intOf vk).toNat)
  case atStart => exact ⟨N, ⟨q, 0, 0, 0, []⟩, rfl, rfl, rfl, rfl, by simp; omega, HE, ⟨rfl, .inl ⟨rfl, rfl⟩⟩, hr2, hb2, by omega⟩
  case round =>
    clear hr2 hb2 HE hN
    obtain ⟨k, s, rfl, rfl, rfl, rfl, hk, HE, hown, hrd, hb, hsB⟩ := hrel
    obtain ⟨⟨xs, e⟩, t, nu, st, out⟩ := s
    dsimp only at *
    obtain ⟨wo, rfl⟩ : ∃ wo : World, wo = wr := ⟨_, rfl⟩
    have hs := hb.size
    by_cases h0 : e = 0
    · match k, HE, hk with
      | 0, HE, hk =>
        have hE := HE.out
        rw [show uRun 0 ⟨⟨xs, e⟩, t, nu, st, out⟩ = ⟨⟨xs, e⟩, t, nu, st, out⟩ from rfl] at hE
        subst h0
        clear HE
        rw [show ((0 : Nat) : Int) = 0 from rfl]
        obtain ⟨Ao, co, rfl, hco⟩ := own_slice hown
        have hro := Reads.of_own hown
        have hpr := fun w1 (h1 : Reads w1 w1.heap.size 2 Ao out.length (smps out)) => pright_any Ao out.length co out w1 h1 (by omega)
        rw [show (decide (out.length ≤ 65536) && goodP out) = fineP out from rfl] at hpr
        have hen := fun w1 (h1 : Rdr w1 g b xs 0) => rdend_any g b xs 0 w1 h1
        cases hf : fineP out with
        | false =>
          rw [hf] at hpr
          have HU := hide (unp_bad hE.symm hf)
          clear hE hf
          go_wp2_with (first | (go_at_call 53; (with_reducible refine (rderr_any _ _ _ _ _ hrd).mono ?_); rintro e w5 ⟨rfl, rfl⟩) | (go_at_call 19; (with_reducible refine (hpr _ hro).mono ?_); rintro e w6 ⟨rfl, hb6⟩; have hrd6 := hrd.below hb6)); refine bodyPost_ret (v := .tuple #[.slice none 0 0, .int .i64 10]) (by simp [results, Try.results42, go_sem] <;> rfl) rfl ?_; exact ⟨.inr ⟨HU.out, 10, by decide, rfl⟩, hb.trans (hb6.mono hs)⟩
        | true =>
          rw [hf] at hpr
          by_cases hxs : xs = []
          · subst hxs
            have HU := hide (unp_ok hE.symm hf)
            clear hE hf
            rw [show endP ⟨[], 0⟩ = ⟨[], 0⟩ from rfl] at hen
            go_wp2_with (first | (go_at_call 53; (with_reducible refine (rderr_any _ _ _ _ _ hrd).mono ?_); rintro e w5 ⟨rfl, rfl⟩) | (go_at_call 19; (with_reducible refine (hpr _ hro).mono ?_); rintro e w6 ⟨rfl, hb6⟩; have hrd6 := hrd.below hb6) | (go_at_call 54; (with_reducible refine (hen _ hrd6).mono ?_); rintro e w7 ⟨rfl, hr7, ho7⟩))
            refine bodyPost_ret (v := .tuple #[.slice Ao out.length co, .int .i64 0]) (by simp [results, Try.results42, go_sem] <;> rfl) rfl ?_
            exact ⟨.inl ⟨out, HU.out, by omega, _, rfl, own_base (own_only (own_later hown hb6) ho7 (by omega)) hwB⟩, (hb.trans (hb6.mono hs)).trans (ho7.below hgw (by have := hb6.size; omega))⟩
          · have HU := hide (unp_more hE.symm hxs)
            clear hE hf
            rw [show endP ⟨xs, 0⟩ = ⟨[], 10⟩ by (unfold endP failP; rw [if_pos ⟨rfl, List.length_pos_iff.2 hxs⟩]; rfl)] at hen
            go_wp2_with (first | (go_at_call 53; (with_reducible refine (rderr_any _ _ _ _ _ hrd).mono ?_); rintro e w5 ⟨rfl, rfl⟩) | (go_at_call 19; (with_reducible refine (hpr _ hro).mono ?_); rintro e w6 ⟨rfl, hb6⟩; have hrd6 := hrd.below hb6) | (go_at_call 54; (with_reducible refine (hen _ hrd6).mono ?_); rintro e w7 ⟨rfl, hr7, ho7⟩))
            refine bodyPost_ret (v := .tuple #[.slice none 0 0, .int .i64 10]) (by simp [results, Try.results42, go_sem] <;> rfl) rfl ?_
            exact ⟨.inr ⟨HU.out, 10, by decide, rfl⟩, (hb.trans (hb6.mono hs)).trans (ho7.below hgw (by have := hb6.size; omega))⟩
      | k + 1, HE, hk =>
        subst h0
        have hk1 : (0 : Int) < ((k + 1 : Nat) : Int) := by omega
        have hq1 := fun w1 (h1 : Rdr w1 g b xs 0) => rdint_any g b xs 0 w1 h1
        have HS : Hid (uStep ⟨⟨xs, 0⟩, t, nu, st, out⟩ = ⟨(numP (numP ⟨xs, 0⟩).2).2, wrap64 (t + wrap64 (st + zag (numP ⟨xs, 0⟩).1)), wrap64 (nu + zag (numP (numP ⟨xs, 0⟩).2).1), wrap64 (st + zag (numP ⟨xs, 0⟩).1), out ++ [(wrap64 (t + wrap64 (st + zag (numP ⟨xs, 0⟩).1)), wrap64 (nu + zag (numP (numP ⟨xs, 0⟩).2).1))]⟩) := show _ = _ from rfl
        have HR := HE.out
        unfold uRun at HR
        rw [if_pos rfl, HS.out] at HR
        generalize numP ⟨xs, 0⟩ = z1 at *
        obtain ⟨n1, x1, e1⟩ := z1
        dsimp only at hq1 HR
        have hq2 := fun w1 (h1 : Rdr w1 g b x1 e1) => rdint_any g b x1 e1 w1 h1
        generalize numP ⟨x1, e1⟩ = z2 at *
        obtain ⟨n2, x2, e2⟩ := z2
        dsimp only at hq2 HR
        clear HS HE
        generalize zag n1 = a1 at *
        generalize zag n2 = a2 at *
        generalize hW : wrap64 (st + a1) = W at *
        generalize hT : wrap64 (t + W) = T at *
        generalize hU : wrap64 (nu + a2) = U at *
        have HR' := hide HR
        clear HR
        go_wp2_with (first | (go_at_call 53; (with_reducible refine (rderr_any _ _ _ _ _ hrd).mono ?_); rintro e w5 ⟨rfl, rfl⟩) | (go_at_call 50; (with_reducible refine (hq2 _ hr3).mono ?_); rintro e w4 ⟨rfl, hr4, ho4⟩; have hown4 := own_only hown3 ho4 hgB) | (go_at_call 50; (with_reducible refine (hq1 _ hrd).mono ?_); rintro e w3 ⟨rfl, hr3, ho3⟩; have hown3 := own_only hown ho3 hgB) | (at_builtin; go_must (refine wpList_append_own _ rfl (.tmp 35) (.tmp 39) 27 rfl (B) 36 i0 (.agg #[.int .i64 0, .int .i64 0]) 2 16 Try.underlying27 hi hz0 hz1 hz2 rfl (by decide) u5 (out.length) _ rfl (hown4.alloc _) ⟨w4.heap.size, 0, none⟩ 1 1 [.int .i64 T, .int .i64 U] rfl rfl ?c1 ?c2 ?c3 ?c4 ?c5 ?_)))
        case c1 => exact cells_new_at _ #[_, _] _ (by simp)
        case c2 => simp [Value.oneCell']
        case c3 => unfold maxLen; omega
        case c4 => omega
        case c5 => have := ho3.size; have := ho4.size; simp; omega
        intro v' w5 hown5 hg5 _
        have hs3 := ho3.size
        have hs4 := ho4.size
        have hb4 : Below w.heap.size w w4 := (hb.trans (ho3.below hgw hs)).trans (ho4.below hgw (by omega))
        have hg54 : Below B w4 w5 := own_below ((Below.refl _ _).alloc (by omega) _) (hown4.alloc _) hg5 (Nat.le_refl _) (by simp; omega)
        have hb5 := hb4.trans (hg54.mono hwB)
        have hs5 := hg54.size
        have hrd := hr4.keep hg54 hgB hbB (by omega)
        have hsm : smps (out ++ [(T, U)]) = smps out ++ [.int .i64 T, .int .i64 U] := by rw [smps_append]; rfl
        rw [← hsm] at hown5
        clear hsm hg5 hr3 hr4 hown hown3 hown4 hq1 hq2
        clear hW hT hU
        have hol : (out ++ [(T, U)]).length = out.length + 1 := by simp
        rw [← hol] at hown5
        have hs := hb5.size
        by_cases h1 : T < 0
        · have hE : uEnd l = ⟨⟨x2, e2⟩, T, U, W, out ++ [(T, U)]⟩ := by have := HR'.out; rw [if_pos (.inl h1)] at this; exact this.symm
          have hbad := fine_bad out U (show ¬(0 ≤ T ∧ T ≤ 4611686018427387904) by omega)
          clear HR'
          by_cases h3 : e2 = 0
          · subst h3
            obtain ⟨Ao, co, rfl, hco⟩ := own_slice hown5
            have hro := Reads.of_own hown5
            have hpr := fun w1 (h1 : Reads w1 w1.heap.size 2 Ao (out ++ [(T, U)]).length (smps (out ++ [(T, U)]))) => pright_any Ao (out ++ [(T, U)]).length co (out ++ [(T, U)]) w1 h1 (by omega)
            rw [show (decide ((out ++ [(T, U)]).length ≤ 65536) && goodP (out ++ [(T, U)])) = fineP (out ++ [(T, U)]) from rfl, hbad] at hpr
            have HU := hide (unp_bad hE hbad)
            clear hE hbad hol
            generalize out ++ [(T, U)] = out' at *
            have hb := hb5
            go_wp2_with (first | (go_at_call 53; (with_reducible refine (rderr_any _ _ _ _ _ hrd).mono ?_); rintro e w5 ⟨rfl, rfl⟩) | (go_at_call 19; (with_reducible refine (hpr _ hro).mono ?_); rintro e w6 ⟨rfl, hb6⟩; have hrd6 := hrd.below hb6))
            refine bodyPost_ret (v := .tuple #[.slice none 0 0, .int .i64 10]) (by simp [results, Try.results42, go_sem] <;> rfl) rfl ?_
            exact ⟨.inr ⟨HU.out, 10, by decide, rfl⟩, hb.trans (hb6.mono hs)⟩
          · have h3' : (e2 != 0) = true := by simpa using h3
            have HU := hide (unp_err hE h3)
            clear hE hbad hol
            go_wp2_with (first | (go_at_call 53; (with_reducible refine (rderr_any _ _ _ _ _ hrd).mono ?_); rintro e w5 ⟨rfl, rfl⟩))
            refine bodyPost_ret (v := .tuple #[.slice none 0 0, .int .i64 e2]) (by simp [results, Try.results42, go_sem] <;> rfl) rfl ?_
            exact ⟨.inr ⟨HU.out, e2, h3, rfl⟩, hb5⟩
        · by_cases h2 : 4611686018427387904 < T
          · have hE : uEnd l = ⟨⟨x2, e2⟩, T, U, W, out ++ [(T, U)]⟩ := by have := HR'.out; rw [if_pos (.inr h2)] at this; exact this.symm
            have hbad := fine_bad out U (show ¬(0 ≤ T ∧ T ≤ 4611686018427387904) by omega)
            clear HR'
            by_cases h3 : e2 = 0
            · subst h3
              obtain ⟨Ao, co, rfl, hco⟩ := own_slice hown5
              have hro := Reads.of_own hown5
              have hpr := fun w1 (h1 : Reads w1 w1.heap.size 2 Ao (out ++ [(T, U)]).length (smps (out ++ [(T, U)]))) => pright_any Ao (out ++ [(T, U)]).length co (out ++ [(T, U)]) w1 h1 (by omega)
              rw [show (decide ((out ++ [(T, U)]).length ≤ 65536) && goodP (out ++ [(T, U)])) = fineP (out ++ [(T, U)]) from rfl, hbad] at hpr
              have HU := hide (unp_bad hE hbad)
              clear hE hbad hol
              generalize out ++ [(T, U)] = out' at *
              have hb := hb5
              go_wp2_with (first | (go_at_call 53; (with_reducible refine (rderr_any _ _ _ _ _ hrd).mono ?_); rintro e w5 ⟨rfl, rfl⟩) | (go_at_call 19; (with_reducible refine (hpr _ hro).mono ?_); rintro e w6 ⟨rfl, hb6⟩; have hrd6 := hrd.below hb6))
              refine bodyPost_ret (v := .tuple #[.slice none 0 0, .int .i64 10]) (by simp [results, Try.results42, go_sem] <;> rfl) rfl ?_
              exact ⟨.inr ⟨HU.out, 10, by decide, rfl⟩, hb.trans (hb6.mono hs)⟩
            · have h3' : (e2 != 0) = true := by simpa using h3
              have HU := hide (unp_err hE h3)
              clear hE hbad hol
              go_wp2_with (first | (go_at_call 53; (with_reducible refine (rderr_any _ _ _ _ _ hrd).mono ?_); rintro e w5 ⟨rfl, rfl⟩))
              refine bodyPost_ret (v := .tuple #[.slice none 0 0, .int .i64 e2]) (by simp [results, Try.results42, go_sem] <;> rfl) rfl ?_
              exact ⟨.inr ⟨HU.out, e2, h3, rfl⟩, hb5⟩
          · have h1' : (0 : Int) ≤ T := by omega
            have h2' : T ≤ 4611686018427387904 := by omega
            go_wp2
            go_roundw
            case rel => exact ⟨k, ⟨⟨x2, e2⟩, T, U, W, out ++ [(T, U)]⟩, by go_num, rfl, rfl, rfl, by rw [hol]; omega, by have := HR'.out; rw [if_neg (by omega)] at this; exact this, hown5, hrd, hb5, by omega⟩
            case measure => simp [intOf]
    · have h0' : (e == 0) = false := by simpa using h0
      have h0'' : (e != 0) = true := by simpa using h0
      have hE := HE.out
      rw [uRun_stop (s := ⟨⟨xs, e⟩, t, nu, st, out⟩) h0] at hE
      have HU := hide (unp_err hE.symm h0)
      clear HE hE
      rcases Nat.eq_zero_or_pos k with hk0 | hk0
      · subst hk0
        go_wp2_with (first | (go_at_call 53; (with_reducible refine (rderr_any _ _ _ _ _ hrd).mono ?_); rintro e w5 ⟨rfl, rfl⟩))
        refine bodyPost_ret (v := .tuple #[.slice none 0 0, .int .i64 e]) (by simp [results, Try.results42, go_sem] <;> rfl) rfl ?_
        exact ⟨.inr ⟨HU.out, e, h0, rfl⟩, hb⟩
      · have hk1 : (0 : Int) < k := by omega
        go_wp2_with (first | (go_at_call 53; (with_reducible refine (rderr_any _ _ _ _ _ hrd).mono ?_); rintro e w5 ⟨rfl, rfl⟩))
        refine bodyPost_ret (v := .tuple #[.slice none 0 0, .int .i64 e]) (by simp [results, Try.results42, go_sem] <;> rfl) rfl ?_
        exact ⟨.inr ⟨HU.out, e, h0, rfl⟩, hb⟩
end Go.Proofs.Ythajbeooemngpaa
