/- Contracts of package cost: cut, up, values, Card. -/
import Derived.Test.YtidmbjgnkodiiaaOpen
import Derived.Test.YtidmbjgnkodiiaaSl
import Derived.Deep.Light
namespace Go.Proofs.Ytidmbjgnkodiiaa
open Go.RowKit
set_option linter.unusedVariables false
set_option linter.unusedSimpArgs false

def cutI (n : Int) : Int := min (max n 0) 1099511627776
def upI (a b : Int) : Int := a / b + min (a % b) 1
def cenc (m : ByteArray × Int) : List Value := [.string m.1, .int .i64 m.2]
theorem cenc_len (m : ByteArray × Int) : (cenc m).length = 2 := rfl
/-- A row of counts (a name, a number). -/
abbrev CRow (w : World) (v : Value) (cs : List (ByteArray × Int)) : Prop := Sl cenc w v cs
theorem cell_below {w w' : World} {B : Nat} {p : Addr} {u : Value} (hb : Below B w w') (hB : w.heap.size ≤ B) (h : w.cell? p = some u) : w'.cell? p = some u := by
  rw [hb.cell (by have := World.block_lt_of_cell? w _ h; omega)]; exact h
def cx (cs : List (ByteArray × Int)) (k : Nat) : ByteArray × Int := cs.getD k (ByteArray.empty, 0)
theorem cx_at {cs : List (ByteArray × Int)} {k : Nat} (h : k < cs.length) : cx cs k = cs[k] := by simp [cx, h]
/-- The first count of a name, from k on. -/
def valuesI (name : ByteArray) : List (ByteArray × Int) → Int
  | [] => 1
  | c :: cs => if c.1.toList == name.toList then max c.2 1 else valuesI name cs

def menc (m : Int × ByteArray × ByteArray) : List Value := [.int .i64 m.1, .string m.2.1, .string m.2.2]
theorem menc_len (x : Int × ByteArray × ByteArray) : (menc x).length = 3 := rfl
/-- A row of matchers (a kind, a name, a value). -/
abbrev MRow (w : World) (v : Value) (ms : List (Int × ByteArray × ByteArray)) : Prop := Sl menc w v ms
def mx (ms : List (Int × ByteArray × ByteArray)) (k : Nat) : Int × ByteArray × ByteArray := ms.getD k (0, ByteArray.empty, ByteArray.empty)
theorem mx_at {ms : List (Int × ByteArray × ByteArray)} {k : Nat} (h : k < ms.length) : mx ms k = ms[k] := by simp [mx, h]
theorem below_cells {W w1 : World} {B : Nat} (hb : Below B W w1) : ∀ b o, b < B → w1.cell? ⟨b, o, none⟩ = W.cell? ⟨b, o, none⟩ := fun b o h => hb.cell (p := ⟨b, o, none⟩) h
theorem below_frozen {W w1 : World} {B : Nat} (hb : Below B W w1) : ∀ b o, b < B → w1.frozen? ⟨b, o, none⟩ = W.frozen? ⟨b, o, none⟩ := fun b o h => hb.frozen (p := ⟨b, o, none⟩) h
def cardStep (cs : List (ByteArray × Int)) (n : Int) (m : Int × ByteArray × ByteArray) : Int :=
  if m.1 = 1 then upI n (valuesI m.2.1 cs) else if m.1 = 3 then upI n 2 else n
def cardI (cs : List (ByteArray × Int)) (se : Int) (ms : List (Int × ByteArray × ByteArray)) : Int := ms.foldl (cardStep cs) (cutI se)
theorem upI_bd {a b : Int} (ha : 0 ≤ a) (hb : 1 ≤ b) : 0 ≤ upI a b ∧ upI a b ≤ a := by
  have q1 : 0 ≤ a / b := Int.ediv_nonneg ha (by omega)
  have r1 : 0 ≤ a % b := Int.emod_nonneg a (by omega)
  have h := Int.mul_ediv_add_emod a b
  have h2 : a / b ≤ b * (a / b) := by
    have := Int.mul_le_mul_of_nonneg_right hb q1
    rwa [Int.one_mul] at this
  unfold upI
  omega
theorem valuesI_pos (name : ByteArray) (cs : List (ByteArray × Int)) : 1 ≤ valuesI name cs := by
  induction cs with
  | nil => simp [valuesI]
  | cons c cs ih => simp only [valuesI]; split <;> omega
theorem cardStep_bd (cs : List (ByteArray × Int)) {n : Int} (m : Int × ByteArray × ByteArray) (h : 0 ≤ n) : 0 ≤ cardStep cs n m ∧ cardStep cs n m ≤ n := by
  unfold cardStep
  split
  · exact upI_bd h (valuesI_pos _ _)
  · split
    · exact upI_bd h (by omega)
    · omega
theorem card_bd (cs : List (ByteArray × Int)) (ms : List (Int × ByteArray × ByteArray)) : ∀ n : Int, 0 ≤ n → 0 ≤ ms.foldl (cardStep cs) n ∧ ms.foldl (cardStep cs) n ≤ n := by
  induction ms with
  | nil => intro n h; simp [h]
  | cons m ms ih =>
    intro n h
    have h1 := cardStep_bd cs m h
    have h2 := ih _ h1.1
    simp only [List.foldl_cons]
    omega
theorem cutI_bd (n : Int) : 0 ≤ cutI n ∧ cutI n ≤ 1099511627776 := by unfold cutI; omega

end Go.Proofs.Ytidmbjgnkodiiaa
