import Derived.Test.YtamnononemallaaGreatDoorJ1
/-! A query's text: the document's. -/
namespace Go.Proofs.YtamnononemallaaGreatDoor
open Go.RowKit Go.Maps
set_option linter.unusedVariables false
set_option linter.unusedSimpArgs false
set_option maxRecDepth 100000 in
set_option maxHeartbeats 16000000 in
theorem dtext_any (q : Qy) (rv : Value) (w : World) (hr : Rz w rv q.r) (hok : q.ok) (hz : (rj q.r).length ≤ 100000000) (hsh : ShortR q.r) :
    Calls Tryz.prog 13 #[.agg #[.int .i64 q.op, rv, .int .i64 q.f, .int .i64 q.t, .int .i64 q.s, .bool q.n]] w fun e w' => e = .returned (.string ⟨(textQ q).toArray⟩) ∧ Below w.heap.size w w' := by
  have hM := fun W hz => rrtext_any rv q.r W hz hsh
  have hW := fun W => dword_any q.op W
  have hF1 := fun W => whole_any q.f hok.f.1 hok.f.2 W
  have hF2 := fun W => whole_any q.t hok.t.1 hok.t.2 W
  have hF3 := fun W => whole_any q.s hok.s.1 hok.s.2 W
  have hlen := partsT_len q hok hz
  have hT : textQ q = wordOf q.op ++ ((rtB q.r).data.toList ++ (32 :: (Lib.itoa q.f ++ 32 :: (Lib.itoa q.t ++ (if q.op = 0 then [] else 32 :: Lib.itoa q.s))) ++ formT q.n)) := rfl
  have hl := congrArg List.length hT
  obtain ⟨A, c, rfl⟩ := hr.shape
  obtain ⟨op, r, f, t, s, n⟩ := q
  dsimp only at *
  obtain ⟨wd, hwd⟩ : ∃ wd : ByteArray, (⟨(wordOf op).toArray⟩ : ByteArray) = wd := ⟨_, rfl⟩
  obtain ⟨s1, hs1⟩ : ∃ wd : ByteArray, (⟨(Lib.itoa f).toArray⟩ : ByteArray) = wd := ⟨_, rfl⟩
  obtain ⟨s2, hs2⟩ : ∃ wd : ByteArray, (⟨(Lib.itoa t).toArray⟩ : ByteArray) = wd := ⟨_, rfl⟩
  obtain ⟨s3, hs3⟩ : ∃ wd : ByteArray, (⟨(Lib.itoa s).toArray⟩ : ByteArray) = wd := ⟨_, rfl⟩
  have ew : wordOf op = wd.data.toList := by rw [← hwd]
  have e1 : Lib.itoa f = s1.data.toList := by rw [← hs1]
  have e2 : Lib.itoa t = s2.data.toList := by rw [← hs2]
  have e3 : Lib.itoa s = s3.data.toList := by rw [← hs3]
  rw [hwd] at hW
  rw [hs1] at hF1
  rw [hs2] at hF2
  rw [hs3] at hF3
  rw [ew, e1, e2, e3] at hT hl
  simp only [List.length_append, List.length_cons, ← Lib.size_eq] at hl
  generalize rtB r = rt at *
  clear hwd hs1 hs2 hs3 ew e1 e2 e3 hz hsh hok
  by_cases h0 : op = 0
  · subst h0
    rw [if_pos rfl] at hT hl
    have g1 : ¬ (9223372036854775807 < wd.size + rt.size) := by omega
    have g2 : ¬ (9223372036854775807 < wd.size + rt.size + 1) := by omega
    have g3 : ¬ (9223372036854775807 < wd.size + rt.size + 1 + s1.size) := by omega
    have g4 : ¬ (9223372036854775807 < wd.size + rt.size + 1 + s1.size + 1) := by omega
    have g5 : ¬ (9223372036854775807 < wd.size + rt.size + 1 + s1.size + 1 + s2.size) := by omega
    cases n with
    | false =>
      have hE := hide (show wd ++ rt ++ (⟨#[32]⟩ : ByteArray) ++ s1 ++ (⟨#[32]⟩ : ByteArray) ++ s2 = ⟨(textQ ⟨0, r, f, t, s, false⟩).toArray⟩ from by
        rw [hT]; simp only [ba_app]; simp [formT])
      clear hT hl hlen
      go_enter Tryz.func13, Tryz.ntmps13
      go_wp2
      refine wp_region_ext_lit (by kernel_rfl) (by kernel_rfl) ?_
      (repeat (first | ((with_reducible refine wpQuiet_step (fun K hK => ?_)); go_simp; first | ((with_reducible refine hK _ ?_); clear hK K) | (apply Exists.intro; (with_reducible refine ⟨fun _ => ?_, hK _ ?_⟩); first | (go_at_call 31; with_reducible exact Calls.ext_of (hW _)) | (go_at_call 41; with_reducible exact Calls.ext_of (hM _ ((hr.alloc _).ext _))) | (go_at_call 42; with_reducible exact Calls.ext_of (hF1 _)) | (go_at_call 42; with_reducible exact Calls.ext_of (hF2 _)); clear hK K)) | ((with_reducible refine quiet_skipN ?_ (fun K hK => ?_)); (rfl); go_simp; (with_reducible refine hK _ ?_); clear hK K)))
      (with_reducible refine wpQuiet_nil ?_); intro _ hw'; obtain ⟨X, hw''⟩ := hw'; subst hw''
      go_wp2_with (go_at_call 42; (with_reducible refine (hF3 _).mono ?_); rintro e w' ⟨rfl, hb⟩; obtain ⟨X3, rfl⟩ := World.ext_of_below hb; clear hb)
      go_ret
      exact ⟨by rw [← hE.out]; rfl, by (repeat' (first | with_reducible (first | exact Below.refl _ _ | refine Below.ext ?_ ?_ _ | refine Below.alloc ?_ ?_ _ | refine Below.setCell ?_ ?_ _ | refine Below.drew ?_ | assumption) | (simp [World.size_ext]; done) | (simp [World.size_ext]; omega)))⟩
    | true =>
      have g6 : ¬ (9223372036854775807 < wd.size + rt.size + 1 + s1.size + 1 + s2.size + 6) := by omega
      have hE := hide (show wd ++ rt ++ (⟨#[32]⟩ : ByteArray) ++ s1 ++ (⟨#[32]⟩ : ByteArray) ++ s2 ++ (⟨#[32, 110, 111, 116, 101, 115]⟩ : ByteArray) = ⟨(textQ ⟨0, r, f, t, s, true⟩).toArray⟩ from by
        rw [hT]; simp only [ba_app]; simp [formT, notesB])
      clear hT hl hlen
      go_enter Tryz.func13, Tryz.ntmps13
      go_wp2
      refine wp_region_ext_lit (by kernel_rfl) (by kernel_rfl) ?_
      (repeat (first | ((with_reducible refine wpQuiet_step (fun K hK => ?_)); go_simp; first | ((with_reducible refine hK _ ?_); clear hK K) | (apply Exists.intro; (with_reducible refine ⟨fun _ => ?_, hK _ ?_⟩); first | (go_at_call 31; with_reducible exact Calls.ext_of (hW _)) | (go_at_call 41; with_reducible exact Calls.ext_of (hM _ ((hr.alloc _).ext _))) | (go_at_call 42; with_reducible exact Calls.ext_of (hF1 _)) | (go_at_call 42; with_reducible exact Calls.ext_of (hF2 _)); clear hK K)) | ((with_reducible refine quiet_skipN ?_ (fun K hK => ?_)); (rfl); go_simp; (with_reducible refine hK _ ?_); clear hK K)))
      (with_reducible refine wpQuiet_nil ?_); intro _ hw'; obtain ⟨X, hw''⟩ := hw'; subst hw''
      go_wp2_with (go_at_call 42; (with_reducible refine (hF3 _).mono ?_); rintro e w' ⟨rfl, hb⟩; obtain ⟨X3, rfl⟩ := World.ext_of_below hb; clear hb)
      go_ret
      exact ⟨by rw [← hE.out]; rfl, by (repeat' (first | with_reducible (first | exact Below.refl _ _ | refine Below.ext ?_ ?_ _ | refine Below.alloc ?_ ?_ _ | refine Below.setCell ?_ ?_ _ | refine Below.drew ?_ | assumption) | (simp [World.size_ext]; done) | (simp [World.size_ext]; omega)))⟩
  · rw [if_neg h0] at hT hl
    simp only [List.length_cons, ← Lib.size_eq] at hl
    have d0 : (op != 0) = true := by simpa using h0
    have g1 : ¬ (9223372036854775807 < wd.size + rt.size) := by omega
    have g2 : ¬ (9223372036854775807 < wd.size + rt.size + 1) := by omega
    have g3 : ¬ (9223372036854775807 < wd.size + rt.size + 1 + s1.size) := by omega
    have g4 : ¬ (9223372036854775807 < wd.size + rt.size + 1 + s1.size + 1) := by omega
    have g5 : ¬ (9223372036854775807 < wd.size + rt.size + 1 + s1.size + 1 + s2.size) := by omega
    have g6 : ¬ (9223372036854775807 < wd.size + rt.size + 1 + s1.size + 1 + s2.size + 1) := by omega
    have g7 : ¬ (9223372036854775807 < wd.size + rt.size + 1 + s1.size + 1 + s2.size + 1 + s3.size) := by omega
    cases n with
    | false =>
      have hE := hide (show wd ++ rt ++ (⟨#[32]⟩ : ByteArray) ++ s1 ++ (⟨#[32]⟩ : ByteArray) ++ s2 ++ (⟨#[32]⟩ : ByteArray) ++ s3 = ⟨(textQ ⟨op, r, f, t, s, false⟩).toArray⟩ from by
        rw [hT]; simp only [ba_app]; simp [formT])
      clear hT hl hlen
      go_enter Tryz.func13, Tryz.ntmps13
      go_wp2
      refine wp_region_ext_lit (by kernel_rfl) (by kernel_rfl) ?_
      (repeat (first | ((with_reducible refine wpQuiet_step (fun K hK => ?_)); go_simp; first | ((with_reducible refine hK _ ?_); clear hK K) | (apply Exists.intro; (with_reducible refine ⟨fun _ => ?_, hK _ ?_⟩); first | (go_at_call 31; with_reducible exact Calls.ext_of (hW _)) | (go_at_call 41; with_reducible exact Calls.ext_of (hM _ ((hr.alloc _).ext _))) | (go_at_call 42; with_reducible exact Calls.ext_of (hF1 _)) | (go_at_call 42; with_reducible exact Calls.ext_of (hF2 _)); clear hK K)) | ((with_reducible refine quiet_skipN ?_ (fun K hK => ?_)); (rfl); go_simp; (with_reducible refine hK _ ?_); clear hK K)))
      (with_reducible refine wpQuiet_nil ?_); intro _ hw'; obtain ⟨X, hw''⟩ := hw'; subst hw''
      go_wp2_with (go_at_call 42; (with_reducible refine (hF3 _).mono ?_); rintro e w' ⟨rfl, hb⟩; obtain ⟨X3, rfl⟩ := World.ext_of_below hb; clear hb)
      go_ret
      exact ⟨by rw [← hE.out]; rfl, by (repeat' (first | with_reducible (first | exact Below.refl _ _ | refine Below.ext ?_ ?_ _ | refine Below.alloc ?_ ?_ _ | refine Below.setCell ?_ ?_ _ | refine Below.drew ?_ | assumption) | (simp [World.size_ext]; done) | (simp [World.size_ext]; omega)))⟩
    | true =>
      have g8 : ¬ (9223372036854775807 < wd.size + rt.size + 1 + s1.size + 1 + s2.size + 1 + s3.size + 6) := by omega
      have hE := hide (show wd ++ rt ++ (⟨#[32]⟩ : ByteArray) ++ s1 ++ (⟨#[32]⟩ : ByteArray) ++ s2 ++ (⟨#[32]⟩ : ByteArray) ++ s3 ++ (⟨#[32, 110, 111, 116, 101, 115]⟩ : ByteArray) = ⟨(textQ ⟨op, r, f, t, s, true⟩).toArray⟩ from by
        rw [hT]; simp only [ba_app]; simp [formT, notesB])
      clear hT hl hlen
      go_enter Tryz.func13, Tryz.ntmps13
      go_wp2
      refine wp_region_ext_lit (by kernel_rfl) (by kernel_rfl) ?_
      (repeat (first | ((with_reducible refine wpQuiet_step (fun K hK => ?_)); go_simp; first | ((with_reducible refine hK _ ?_); clear hK K) | (apply Exists.intro; (with_reducible refine ⟨fun _ => ?_, hK _ ?_⟩); first | (go_at_call 31; with_reducible exact Calls.ext_of (hW _)) | (go_at_call 41; with_reducible exact Calls.ext_of (hM _ ((hr.alloc _).ext _))) | (go_at_call 42; with_reducible exact Calls.ext_of (hF1 _)) | (go_at_call 42; with_reducible exact Calls.ext_of (hF2 _)); clear hK K)) | ((with_reducible refine quiet_skipN ?_ (fun K hK => ?_)); (rfl); go_simp; (with_reducible refine hK _ ?_); clear hK K)))
      (with_reducible refine wpQuiet_nil ?_); intro _ hw'; obtain ⟨X, hw''⟩ := hw'; subst hw''
      go_wp2_with (go_at_call 42; (with_reducible refine (hF3 _).mono ?_); rintro e w' ⟨rfl, hb⟩; obtain ⟨X3, rfl⟩ := World.ext_of_below hb; clear hb)
      go_ret
      exact ⟨by rw [← hE.out]; rfl, by (repeat' (first | with_reducible (first | exact Below.refl _ _ | refine Below.ext ?_ ?_ _ | refine Below.alloc ?_ ?_ _ | refine Below.setCell ?_ ?_ _ | refine Below.drew ?_ | assumption) | (simp [World.size_ext]; done) | (simp [World.size_ext]; omega)))⟩
end Go.Proofs.YtamnononemallaaGreatDoor
