/- Points: how a vector reads. -/
import Derived.Test.YtkflhfdpdgnbfaaLa15
import Derived.Test.YtkflhfdpdgnbfaaLa13
import Derived.Test.YtkflhfdpdgnbfaaFl2
namespace Go.Proofs.Ytkflhfdpdgnbfaa
open Go Go.RowKit
set_option linter.unusedVariables false
set_option linter.unusedSimpArgs false
set_option maxRecDepth 100000
/-- A point as it lies: its labels' slice, its value's bits. -/
abbrev RPt := Value × Nat
def penc (p : RPt) : List Value := [p.1, .float .f64 p.2]
theorem penc_len (p : RPt) : (penc p).length = 2 := rfl
/-- A point as it reads. -/
abbrev Pt := List Lb × Nat
/-- A vector: raw points, and what each reads as. -/
def VS (w : World) (v : Value) (ps : List Pt) : Prop := ∃ raw : List RPt, Sl penc w v raw ∧ raw.length = ps.length ∧ ∀ k (h : k < raw.length) (h2 : k < ps.length), Sl lenc w raw[k].1 ps[k].1 ∧ raw[k].2 = ps[k].2
theorem VS.below {w w' : World} {B : Nat} {v : Value} {ps : List Pt} (h : VS w v ps) (hb : Below B w w') (hB : w.heap.size ≤ B) : VS w' v ps := by
  obtain ⟨raw, h1, h2, h3⟩ := h
  exact ⟨raw, h1.below hb hB, h2, fun k a b => ⟨(h3 k a b).1.below hb hB, (h3 k a b).2⟩⟩
theorem VS.nil (w : World) : VS w (.slice none 0 0) [] := ⟨[], Sl.nil _, rfl, fun k h => absurd h (Nat.not_lt_zero _)⟩
theorem VS.split {w : World} {v : Value} {ps : List Pt} (h : VS w v ps) :
    ∃ a cap, v = .slice a ps.length cap ∧ (ps.length ≤ cap ∧ cap ≤ 9223372036854775807) ∧
      ∀ k (hk : k < ps.length), ∃ b off lv, a = some ⟨b, off, none⟩ ∧ w.cell? ⟨b, off + k * 2, none⟩ = some lv ∧ w.cell? ⟨b, off + k * 2 + 1, none⟩ = some (.float .f64 ps[k].2) ∧ Sl lenc w lv ps[k].1 := by
  obtain ⟨raw, h1, h2, h3⟩ := h
  obtain ⟨a, cap, rfl, hm, -, hc⟩ := h1.split penc_len
  rw [h2] at hm ⊢
  refine ⟨a, cap, rfl, hm, fun k hk => ?_⟩
  obtain ⟨b, off, rfl, hd⟩ := hc k (by omega)
  obtain ⟨h4, h5⟩ := h3 k (by omega) hk
  exact ⟨b, off, _, rfl, hd 0 _ rfl, by rw [← h5]; exact hd 1 _ rfl, h4⟩
end Go.Proofs.Ytkflhfdpdgnbfaa
