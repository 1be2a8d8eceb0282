import Derived.Test.YthajbeooemngpaaVCopy
/-! The law: step by step the program's control is the document's. -/
namespace Go.Proofs.Ythajbeooemngpaa
open Go.RowKit
set_option linter.unusedVariables false
set_option linter.unusedSimpArgs false
theorem Blk.both2 {w w' : World} {b g s : Nat} {t : TypeId} {cs : Array Value} (h : Blk w b t cs) (ho : Both2 w w' g s) (hg : b ≠ g) (hs : b ≠ s) : Blk w' b t cs := (ho.block b h.lt hg hs).trans h
theorem Ctl.set_ {w : World} {g bm bs : Nat} {k : Vw} (h : Ctl w g bm bs k) {q : Addr} (hg : g ≠ q.block) (hm : bm ≠ q.block) (hs : bs ≠ q.block) (u : Value) : Ctl (w.setCell q u) g bm bs k :=
  h.keep (Below.heap_setCell w q u g hg) (Below.heap_setCell w q u bm hm) (Below.heap_setCell w q u bs hs)
/-- Only blocks of a kind are changed. -/
structure Kp (S : Nat → Prop) (w w' : World) : Prop where
  os : w'.os = w.os
  tape : w'.tape = w.tape
  output : w'.output = w.output
  size : w.heap.size ≤ w'.heap.size
  block : ∀ k, k < w.heap.size → ¬S k → w'.heap[k]? = w.heap[k]?
section
variable {S : Nat → Prop} {w w' w'' : World}
theorem Kp.refl (S : Nat → Prop) (w : World) : Kp S w w := ⟨rfl, rfl, rfl, Nat.le_refl _, fun _ _ _ => rfl⟩
theorem Kp.trans (h : Kp S w w') (k : Kp S w' w'') : Kp S w w'' := ⟨k.os.trans h.os, k.tape.trans h.tape, k.output.trans h.output, Nat.le_trans h.size k.size, fun i hi h1 => (k.block i (Nat.lt_of_lt_of_le hi h.size) h1).trans (h.block i hi h1)⟩
theorem Kp.of_below (h : Below w.heap.size w w') : Kp S w w' := ⟨h.os, h.tape, h.output, h.size, fun k hk _ => h.block k hk⟩
theorem Kp.of_both {g s : Nat} (h : Both2 w w' g s) (hg : S g) (hs : S s) : Kp S w w' := ⟨h.os, h.tape, h.output, h.size, fun k hk hn => h.block k hk (fun e => hn (e ▸ hg)) (fun e => hn (e ▸ hs))⟩
theorem Kp.of_scr {A : Option Addr} (h : Scr A w w') (hA : ∀ a, A = some a → S a.block) : Kp S w w' := ⟨h.os, h.tape, h.output, h.size, fun k hk hn => h.block k hk (fun a ha e => hn (e ▸ hA a ha))⟩
theorem Kp.alloc (h : Kp S w w') (o : Obj) : Kp S w (w'.alloc o) := h.trans (Kp.of_below (Below.alloc (Below.refl _ _) (Nat.le_refl _) o))
theorem Kp.set_ (h : Kp S w w') {p : Addr} (hp : S p.block ∨ w.heap.size ≤ p.block) (u : Value) : Kp S w (w'.setCell p u) :=
  ⟨h.os, h.tape, h.output, by simpa using h.size, fun k hk hn => (Below.heap_setCell w' p u k (by rintro rfl; rcases hp with hp | hp; exact hn hp; omega)).trans (h.block k hk hn)⟩
theorem Kp.below (h : Kp S w w') {B : Nat} (hB : B ≤ w.heap.size) (hS : ∀ k, S k → B ≤ k) : Below B w w' := ⟨h.os, h.tape, h.output, h.size, fun k hk => h.block k (by omega) (fun hs => by have := hS k hs; omega)⟩
theorem Blk.kp {b : Nat} {t : TypeId} {cs : Array Value} (h : Blk w b t cs) (hk : Kp S w w') (hn : ¬S b) : Blk w' b t cs := (hk.block b h.lt hn).trans h
theorem Ctl.kp {g bm bs : Nat} {k : Vw} (h : Ctl w g bm bs k) (hk : Kp S w w') (hg : ¬S g) (hm : ¬S bm) (hs : ¬S bs) : Ctl w' g bm bs k := h.keep (hk.block _ h.lt.1 hg) (hk.block _ h.lt.2.1 hm) (hk.block _ h.lt.2.2 hs)
theorem Reads.kp {B : Option Addr} {size n : Nat} {xs : List Value} (h : Reads w w.heap.size size B n xs) (hk : Kp S w w') (hB : 0 < n → ∀ b, B = some b → ¬S b.block) : Reads w' w'.heap.size size B n xs :=
  ⟨h.1, fun hn => by
    obtain ⟨ad, e, hb, hc⟩ := h.2 hn
    refine ⟨ad, e, Nat.lt_of_lt_of_le hb hk.size, fun j u hu => ?_⟩
    have : w'.cell? (ad.add j) = w.cell? (ad.add j) := by
      unfold World.cell?
      rw [hk.block (ad.add j).block (by rw [block_of_add]; exact hb) (by rw [block_of_add]; exact hB hn _ e)]
    exact this.trans (hc j u hu)⟩
theorem Wr.kp {A : Option Addr} {m : Nat} (h : Wr w A m) (hk : Kp S w w') (hA : ∀ a, A = some a → ¬S a.block) : Wr w' A m := h.keep fun a ha hl => hk.block _ hl (hA a ha)
end
theorem rvright_yes (k : Vw) (hk : k.ok) (A : Option Addr) (n c : Nat) (w : World) (hr : Reads w w.heap.size 1 A n (ints k.ms)) (hn : n ≤ 9223372036854775807) :
    Calls Try.prog 40 #[.agg #[.int .i64 k.e, .int .i64 k.p, .slice A n c]] w fun r w' => r = .returned (.bool true) ∧ Below w.heap.size w w' := by
  have h := rvright_any k.e k.p A n c k.ms w hr hn
  have h2 : rightV k.e k.p k.ms = true := by
    have he := hk.e
    simp [rightV, he.1, he.2, hk.up, hasB_mem.2 hk.p]
  rw [h2] at h
  exact h
/-- What stands between two steps: the program's control, and the document's, in a block p. -/
structure Mid (w W : World) (g p bm bs : Nat) (k : Vw) (A : Option Addr) (c : Nat) (B : Option Addr) (d : Nat) : Prop where
  ok : k.ok
  ctl : Ctl W g bm bs k
  lm : w.heap.size ≤ bm
  ls : w.heap.size ≤ bs
  lg : w.heap.size ≤ g
  lp : w.heap.size ≤ p
  doc : Blk W p 68 #[.int .i64 k.e, .int .i64 k.p, .slice A k.ms.length c, .slice B k.ss.length d]
  ra : Reads w w.heap.size 1 A k.ms.length (ints k.ms)
  rb : Reads W W.heap.size 1 B k.ss.length (ints k.ss)
  nb : 0 < k.ss.length → ∀ b, B = some b → b.block ≠ g ∧ b.block ≠ bs ∧ b.block ≠ p
  gp : g ≠ p
  mp : bm ≠ p
  sp : bs ≠ p
  below : Below w.heap.size w W
theorem Mid.grow {w W : World} {g p bm bs : Nat} {k : Vw} {A : Option Addr} {c : Nat} {B : Option Addr} {d : Nat} (h : Mid w W g p bm bs k A c B d) (X : Ext) : Mid w (W.ext X) g p bm bs k A c B d :=
  ⟨h.ok, h.ctl.below (World.below_ext W X), h.lm, h.ls, h.lg, h.lp, h.doc.ext X, h.ra, h.rb.grown X, h.nb, h.gp, h.mp, h.sp, Below.ext h.below h.below.size X⟩
theorem Mid.kp {S : Nat → Prop} {w W W' : World} {g p bm bs : Nat} {k : Vw} {A : Option Addr} {c : Nat} {B : Option Addr} {d : Nat} (h : Mid w W g p bm bs k A c B d) (hk : Kp S W W') (n1 : ¬S g) (n2 : ¬S bm) (n3 : ¬S bs) (n4 : ¬S p)
    (n5 : 0 < k.ss.length → ∀ b, B = some b → ¬S b.block) (n6 : ∀ i, S i → w.heap.size ≤ i) : Mid w W' g p bm bs k A c B d :=
  ⟨h.ok, Ctl.kp h.ctl hk n1 n2 n3, h.lm, h.ls, h.lg, h.lp, Blk.kp h.doc hk n4, h.ra, Reads.kp h.rb hk n5, h.nb, h.gp, h.mp, h.sp, h.below.trans (hk.below h.below.size n6)⟩
/-- Behind the program's Change, ahead of the document's: a step's block po, the view's block pv. -/
structure Va (w W : World) (g p po pv bm bs : Nat) (k k2 : Vw) (A1 : Option Addr) (c1 : Nat) (B1 : Option Addr) (d1 : Nat) (nn : Int) (A : Option Addr) (m c : Nat) (e5 p5 : Int) (A5 : Option Addr) (m5 c5 : Nat) (ms5 : List Int) : Prop where
  ctl : Ctl W g bm bs k2
  doc : Blk W p 68 #[.int .i64 k.e, .int .i64 k.p, .slice A1 k.ms.length c1, .slice B1 k.ss.length d1]
  rb : Reads W W.heap.size 1 B1 k.ss.length (ints k.ss)
  op : Blk W po 72 #[.int .i64 0, .int .i64 nn, .slice A m c]
  view : Blk W pv 56 #[.int .i64 e5, .int .i64 p5, .slice A5 m5 c5]
  rv : Reads W W.heap.size 1 A5 m5 (ints ms5)
  wv : Wr W A5 m5
  below : Below w.heap.size w W
theorem Va.kp {S : Nat → Prop} {w W W' : World} {g p po pv bm bs : Nat} {k k2 : Vw} {A1 : Option Addr} {c1 : Nat} {B1 : Option Addr} {d1 : Nat} {nn : Int} {A : Option Addr} {m c : Nat} {e5 p5 : Int} {A5 : Option Addr} {m5 c5 : Nat} {ms5 : List Int}
    (h : Va w W g p po pv bm bs k k2 A1 c1 B1 d1 nn A m c e5 p5 A5 m5 c5 ms5) (hk : Kp S W W') (n1 : ¬S g) (n2 : ¬S bm) (n3 : ¬S bs) (n4 : ¬S p) (n5 : ¬S po) (n6 : ¬S pv) (n7 : 0 < k.ss.length → ∀ b, B1 = some b → ¬S b.block) (n8 : ∀ b, A5 = some b → ¬S b.block) (n9 : ∀ i, S i → w.heap.size ≤ i) :
    Va w W' g p po pv bm bs k k2 A1 c1 B1 d1 nn A m c e5 p5 A5 m5 c5 ms5 :=
  ⟨Ctl.kp h.ctl hk n1 n2 n3, Blk.kp h.doc hk n4, Reads.kp h.rb hk n7, Blk.kp h.op hk n5, Blk.kp h.view hk n6, Reads.kp h.rv hk (fun _ => n8), Wr.kp h.wv hk n8, h.below.trans (hk.below h.below.size n9)⟩
/-- Behind both. -/
structure Vb (w W : World) (g p pv p16 p17 bm bs : Nat) (k2 : Vw) (A7 : Option Addr) (c7 : Nat) (B7 : Option Addr) (d7 : Nat) (e5 p5 : Int) (A5 : Option Addr) (m5 c5 : Nat) (A6 : Option Addr) (c6 : Nat) (ms5 : List Int) (x0 x1 x2 x3 : Value) : Prop where
  ok : k2.ok
  ctl : Ctl W g bm bs k2
  lm : w.heap.size ≤ bm
  ls : w.heap.size ≤ bs
  lg : w.heap.size ≤ g
  lp : w.heap.size ≤ p
  doc : Blk W p 68 #[x0, x1, x2, x3]
  new : Blk W p16 68 #[.int .i64 k2.e, .int .i64 k2.p, .slice A7 k2.ms.length c7, .slice B7 k2.ss.length d7]
  ra : Reads w w.heap.size 1 A7 k2.ms.length (ints k2.ms)
  rb : Reads W W.heap.size 1 B7 k2.ss.length (ints k2.ss)
  nb : 0 < k2.ss.length → ∀ b, B7 = some b → b.block ≠ g ∧ b.block ≠ bs ∧ b.block ≠ p
  gp : g ≠ p
  mp : bm ≠ p
  sp : bs ≠ p
  below : Below w.heap.size w W
  view : Blk W pv 56 #[.int .i64 e5, .int .i64 p5, .slice A5 m5 c5]
  same : Blk W p17 66 #[.int .i64 e5, .int .i64 p5, .slice A6 m5 c6]
  r5 : Reads W W.heap.size 1 A5 m5 (ints ms5)
  r6 : Reads W W.heap.size 1 A6 m5 (ints ms5)
  w5 : Wr W A5 m5
  n5 : ∀ a, A5 = some a → a.block ≠ g ∧ a.block ≠ bm ∧ a.block ≠ bs ∧ a.block ≠ p ∧ a.block ≠ pv ∧ w.heap.size ≤ a.block
  n7 : ∀ a, A5 = some a → 0 < k2.ss.length → ∀ b, B7 = some b → b.block ≠ a.block
  vp : pv ≠ p
  np : p16 ≠ p
end Go.Proofs.Ythajbeooemngpaa
