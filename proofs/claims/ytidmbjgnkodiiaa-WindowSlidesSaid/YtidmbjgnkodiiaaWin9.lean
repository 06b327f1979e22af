/- Contracts of value (shapes). -/
import Derived.Test.YtidmbjgnkodiiaaWin8
namespace Go.Proofs.Ytidmbjgnkodiiaa
open Go.RowKit
set_option linter.unusedVariables false
set_option linter.unusedSimpArgs false

def KK : Nat := 4652007308841189376
def pick14 (fn a1 a2 a3 a4 a5 a6 a7 a8 a9 a10 a11 a12 a13 a14 : Nat) : Nat :=
  match fn with
  | 1 => a1
  | 2 => a2
  | 3 => a3
  | 4 => a4
  | 5 => a5
  | 6 => a6
  | 7 => a7
  | 8 => a8
  | 9 => a9
  | 10 => a10
  | 11 => a11
  | 12 => a12
  | 13 => a13
  | 14 => a14
  | _ => 0
def fnV (fn : Nat) (x : Nat) (l : List Nat) (d : Int) : Nat :=
  canon (pick14 fn (fenc ((l.length : Int) + 1)) (fsum (x :: l)) (cop .quo (fsum (x :: l)) (fenc ((l.length : Int) + 1))) (least false (x :: l)) (least true (x :: l)) (fx (x :: l) l.length) (x) (incr (x :: l)) (cop .quo (incr (x :: l)) (cop .quo (fenc d) KK)) (cop .sub (fx (x :: l) l.length) x) (fenc (cnt says1 (x :: l))) (fenc (cnt says2 (x :: l))) (mag (ws (x :: l) (l.length + 1)).1 (ws (x :: l) (l.length + 1)).2) (fenc (quarter (ws (x :: l) (l.length + 1)).1 (ws (x :: l) (l.length + 1)).2)))
theorem pick14_1 (a1 a2 a3 a4 a5 a6 a7 a8 a9 a10 a11 a12 a13 a14 : Nat) : pick14 1 a1 a2 a3 a4 a5 a6 a7 a8 a9 a10 a11 a12 a13 a14 = a1 := rfl
theorem pick14_2 (a1 a2 a3 a4 a5 a6 a7 a8 a9 a10 a11 a12 a13 a14 : Nat) : pick14 2 a1 a2 a3 a4 a5 a6 a7 a8 a9 a10 a11 a12 a13 a14 = a2 := rfl
theorem pick14_3 (a1 a2 a3 a4 a5 a6 a7 a8 a9 a10 a11 a12 a13 a14 : Nat) : pick14 3 a1 a2 a3 a4 a5 a6 a7 a8 a9 a10 a11 a12 a13 a14 = a3 := rfl
theorem pick14_4 (a1 a2 a3 a4 a5 a6 a7 a8 a9 a10 a11 a12 a13 a14 : Nat) : pick14 4 a1 a2 a3 a4 a5 a6 a7 a8 a9 a10 a11 a12 a13 a14 = a4 := rfl
theorem pick14_5 (a1 a2 a3 a4 a5 a6 a7 a8 a9 a10 a11 a12 a13 a14 : Nat) : pick14 5 a1 a2 a3 a4 a5 a6 a7 a8 a9 a10 a11 a12 a13 a14 = a5 := rfl
theorem pick14_6 (a1 a2 a3 a4 a5 a6 a7 a8 a9 a10 a11 a12 a13 a14 : Nat) : pick14 6 a1 a2 a3 a4 a5 a6 a7 a8 a9 a10 a11 a12 a13 a14 = a6 := rfl
theorem pick14_7 (a1 a2 a3 a4 a5 a6 a7 a8 a9 a10 a11 a12 a13 a14 : Nat) : pick14 7 a1 a2 a3 a4 a5 a6 a7 a8 a9 a10 a11 a12 a13 a14 = a7 := rfl
theorem pick14_8 (a1 a2 a3 a4 a5 a6 a7 a8 a9 a10 a11 a12 a13 a14 : Nat) : pick14 8 a1 a2 a3 a4 a5 a6 a7 a8 a9 a10 a11 a12 a13 a14 = a8 := rfl
theorem pick14_9 (a1 a2 a3 a4 a5 a6 a7 a8 a9 a10 a11 a12 a13 a14 : Nat) : pick14 9 a1 a2 a3 a4 a5 a6 a7 a8 a9 a10 a11 a12 a13 a14 = a9 := rfl
theorem pick14_10 (a1 a2 a3 a4 a5 a6 a7 a8 a9 a10 a11 a12 a13 a14 : Nat) : pick14 10 a1 a2 a3 a4 a5 a6 a7 a8 a9 a10 a11 a12 a13 a14 = a10 := rfl
theorem pick14_11 (a1 a2 a3 a4 a5 a6 a7 a8 a9 a10 a11 a12 a13 a14 : Nat) : pick14 11 a1 a2 a3 a4 a5 a6 a7 a8 a9 a10 a11 a12 a13 a14 = a11 := rfl
theorem pick14_12 (a1 a2 a3 a4 a5 a6 a7 a8 a9 a10 a11 a12 a13 a14 : Nat) : pick14 12 a1 a2 a3 a4 a5 a6 a7 a8 a9 a10 a11 a12 a13 a14 = a12 := rfl
theorem pick14_13 (a1 a2 a3 a4 a5 a6 a7 a8 a9 a10 a11 a12 a13 a14 : Nat) : pick14 13 a1 a2 a3 a4 a5 a6 a7 a8 a9 a10 a11 a12 a13 a14 = a13 := rfl
theorem pick14_14 (a1 a2 a3 a4 a5 a6 a7 a8 a9 a10 a11 a12 a13 a14 : Nat) : pick14 14 a1 a2 a3 a4 a5 a6 a7 a8 a9 a10 a11 a12 a13 a14 = a14 := rfl
theorem fnV_1 (x : Nat) (l : List Nat) (d : Int) : fnV 1 x l d = canon (fenc ((l.length : Int) + 1)) := congrArg canon (pick14_1 _ _ _ _ _ _ _ _ _ _ _ _ _ _)
theorem fnV_2 (x : Nat) (l : List Nat) (d : Int) : fnV 2 x l d = canon (fsum (x :: l)) := congrArg canon (pick14_2 _ _ _ _ _ _ _ _ _ _ _ _ _ _)
theorem fnV_3 (x : Nat) (l : List Nat) (d : Int) : fnV 3 x l d = canon (cop .quo (fsum (x :: l)) (fenc ((l.length : Int) + 1))) := congrArg canon (pick14_3 _ _ _ _ _ _ _ _ _ _ _ _ _ _)
theorem fnV_4 (x : Nat) (l : List Nat) (d : Int) : fnV 4 x l d = canon (least false (x :: l)) := congrArg canon (pick14_4 _ _ _ _ _ _ _ _ _ _ _ _ _ _)
theorem fnV_5 (x : Nat) (l : List Nat) (d : Int) : fnV 5 x l d = canon (least true (x :: l)) := congrArg canon (pick14_5 _ _ _ _ _ _ _ _ _ _ _ _ _ _)
theorem fnV_6 (x : Nat) (l : List Nat) (d : Int) : fnV 6 x l d = canon (fx (x :: l) l.length) := congrArg canon (pick14_6 _ _ _ _ _ _ _ _ _ _ _ _ _ _)
theorem fnV_7 (x : Nat) (l : List Nat) (d : Int) : fnV 7 x l d = canon (x) := congrArg canon (pick14_7 _ _ _ _ _ _ _ _ _ _ _ _ _ _)
theorem fnV_8 (x : Nat) (l : List Nat) (d : Int) : fnV 8 x l d = canon (incr (x :: l)) := congrArg canon (pick14_8 _ _ _ _ _ _ _ _ _ _ _ _ _ _)
theorem fnV_9 (x : Nat) (l : List Nat) (d : Int) : fnV 9 x l d = canon (cop .quo (incr (x :: l)) (cop .quo (fenc d) KK)) := congrArg canon (pick14_9 _ _ _ _ _ _ _ _ _ _ _ _ _ _)
theorem fnV_10 (x : Nat) (l : List Nat) (d : Int) : fnV 10 x l d = canon (cop .sub (fx (x :: l) l.length) x) := congrArg canon (pick14_10 _ _ _ _ _ _ _ _ _ _ _ _ _ _)
theorem fnV_11 (x : Nat) (l : List Nat) (d : Int) : fnV 11 x l d = canon (fenc (cnt says1 (x :: l))) := congrArg canon (pick14_11 _ _ _ _ _ _ _ _ _ _ _ _ _ _)
theorem fnV_12 (x : Nat) (l : List Nat) (d : Int) : fnV 12 x l d = canon (fenc (cnt says2 (x :: l))) := congrArg canon (pick14_12 _ _ _ _ _ _ _ _ _ _ _ _ _ _)
theorem fnV_13 (x : Nat) (l : List Nat) (d : Int) : fnV 13 x l d = canon (mag (ws (x :: l) (l.length + 1)).1 (ws (x :: l) (l.length + 1)).2) := congrArg canon (pick14_13 _ _ _ _ _ _ _ _ _ _ _ _ _ _)
theorem fnV_14 (x : Nat) (l : List Nat) (d : Int) : fnV 14 x l d = canon (fenc (quarter (ws (x :: l) (l.length + 1)).1 (ws (x :: l) (l.length + 1)).2)) := congrArg canon (pick14_14 _ _ _ _ _ _ _ _ _ _ _ _ _ _)
theorem canon_fop_eq {op : BinOp} {a b r : Nat} (w : World) (h : r = cop op a b) : canon (fop op a b w) = canon r := by rw [canon_fop, h, canon_cop]
theorem canon_fop_r {o op : BinOp} {a b c r : Nat} (w w2 : World) (h : r = cop o a (cop op b c)) : canon (fop o a (fop op b c w) w2) = canon r := by rw [canon_fop, cop_fop_r, h, canon_cop]
structure Row1 (w : World) (a : Option Addr) (cap x : Nat) (l : List Nat) (b off y : Nat) : Prop where
  sl : Sl fenc1 w (.slice a (l.length + 1) cap) (x :: l)
  fr : FRow w a (x :: l)
  ha : a = some ⟨b, off, none⟩
  hle : l.length + 1 ≤ cap ∧ cap ≤ 9223372036854775807
  d0 : w.cell? ⟨b, off, none⟩ = some (.float .f64 x)
  d1 : w.cell? ⟨b, off + l.length, none⟩ = some (.float .f64 y)
  hy : y = fx (x :: l) l.length
  hl : l.length ≤ 1000000
  ws : ∀ w2, FRow w2 a (x :: l) → Calls Try.prog 48 #[.slice a (l.length + 1) cap] w2 fun e w' => e = .returned (.complex .f64 (ws (x :: l) (l.length + 1)).1 (ws (x :: l) (l.length + 1)).2) ∧ ∃ n, w' = w2.drewN n
theorem row1 {w : World} {a : Option Addr} {cap x : Nat} {l : List Nat} (h : Sl fenc1 w (.slice a (l.length + 1) cap) (x :: l)) (hl : l.length ≤ 1000000) : ∃ b off y, Row1 w a cap x l b off y := by
  have hfr : FRow w a (x :: l) := frow_of h (by simp; omega)
  obtain ⟨a', cap', e, ⟨hle, hcap⟩, hc⟩ := h.floats
  simp only [List.length_cons, Value.slice.injEq, true_and] at e hle
  obtain ⟨rfl, rfl⟩ := e
  obtain ⟨b, off, rfl, hcell⟩ := hc 0 (by simp)
  exact ⟨b, off, _, h, hfr, rfl, ⟨hle, hcap⟩, hcell 0 (by simp), hcell l.length (by simp), rfl, hl, fun w2 h2 => wsum_any (some ⟨b, off, none⟩) cap (x :: l) w2 h2⟩
end Go.Proofs.Ytidmbjgnkodiiaa
