import Derived.Test.YtjhcgnmibnjocaaGreatY29
/-! A message of the law as the program's. -/
namespace Go.Proofs.YtjhcgnmibnjocaaGreat
open Go.RowKit Go.Maps
set_option linter.unusedVariables false
set_option linter.unusedSimpArgs false
theorem Blk.eight {w : World} {g : Nat} {t : TypeId} {a b c d e f h i a' b' c' d' e' f' h' i' : Value} (H : Blk w g t #[a, b, c, d, e, f, h, i]) :
  Blk ((((((((w.setCell ⟨g, 0, none⟩ a').setCell ⟨g, 1, none⟩ b').setCell ⟨g, 2, none⟩ c').setCell ⟨g, 3, none⟩ d').setCell ⟨g, 4, none⟩ e').setCell ⟨g, 5, none⟩ f').setCell ⟨g, 6, none⟩ h').setCell ⟨g, 7, none⟩ i') g t #[a', b', c', d', e', f', h', i'] := by
 have H0 : Blk (w.setCell ⟨g, 0, none⟩ a') g t #[a', b, c, d, e, f, h, i] := H.set_ 0 a'
 have H1 : Blk ((w.setCell ⟨g, 0, none⟩ a').setCell ⟨g, 1, none⟩ b') g t #[a', b', c, d, e, f, h, i] := H0.set_ 1 b'
 have H2 : Blk (((w.setCell ⟨g, 0, none⟩ a').setCell ⟨g, 1, none⟩ b').setCell ⟨g, 2, none⟩ c') g t #[a', b', c', d, e, f, h, i] := H1.set_ 2 c'
 have H3 : Blk ((((w.setCell ⟨g, 0, none⟩ a').setCell ⟨g, 1, none⟩ b').setCell ⟨g, 2, none⟩ c').setCell ⟨g, 3, none⟩ d') g t #[a', b', c', d', e, f, h, i] := H2.set_ 3 d'
 have H4 : Blk (((((w.setCell ⟨g, 0, none⟩ a').setCell ⟨g, 1, none⟩ b').setCell ⟨g, 2, none⟩ c').setCell ⟨g, 3, none⟩ d').setCell ⟨g, 4, none⟩ e') g t #[a', b', c', d', e', f, h, i] := H3.set_ 4 e'
 have H5 : Blk ((((((w.setCell ⟨g, 0, none⟩ a').setCell ⟨g, 1, none⟩ b').setCell ⟨g, 2, none⟩ c').setCell ⟨g, 3, none⟩ d').setCell ⟨g, 4, none⟩ e').setCell ⟨g, 5, none⟩ f') g t #[a', b', c', d', e', f', h, i] := H4.set_ 5 f'
 have H6 : Blk (((((((w.setCell ⟨g, 0, none⟩ a').setCell ⟨g, 1, none⟩ b').setCell ⟨g, 2, none⟩ c').setCell ⟨g, 3, none⟩ d').setCell ⟨g, 4, none⟩ e').setCell ⟨g, 5, none⟩ f').setCell ⟨g, 6, none⟩ h') g t #[a', b', c', d', e', f', h', i] := H5.set_ 6 h'
 have H7 : Blk ((((((((w.setCell ⟨g, 0, none⟩ a').setCell ⟨g, 1, none⟩ b').setCell ⟨g, 2, none⟩ c').setCell ⟨g, 3, none⟩ d').setCell ⟨g, 4, none⟩ e').setCell ⟨g, 5, none⟩ f').setCell ⟨g, 6, none⟩ h').setCell ⟨g, 7, none⟩ i') g t #[a', b', c', d', e', f', h', i'] := H6.set_ 7 i'
 exact H7
theorem Kp.eight {S : Nat → Prop} {w w1 : World} {g : Nat} (h : Kp S w w1) (hg : S g) (a' b' c' d' e' f' h' i' : Value) :
  Kp S w ((((((((w1.setCell ⟨g, 0, none⟩ a').setCell ⟨g, 1, none⟩ b').setCell ⟨g, 2, none⟩ c').setCell ⟨g, 3, none⟩ d').setCell ⟨g, 4, none⟩ e').setCell ⟨g, 5, none⟩ f').setCell ⟨g, 6, none⟩ h').setCell ⟨g, 7, none⟩ i') :=
 (((((((h.set_ (.inl hg) a').set_ (.inl hg) b').set_ (.inl hg) c').set_ (.inl hg) d').set_ (.inl hg) e').set_ (.inl hg) f').set_ (.inl hg) h').set_ (.inl hg) i'
end Go.Proofs.YtjhcgnmibnjocaaGreat
