/- Slices in memory, whatever their elements: element x lies as the cells 'enc x', all of one length. -/
import Derived.Test.YtidmbjgnkodiiaaApp
namespace Go.Proofs.Ytidmbjgnkodiiaa
open Go.RowKit
set_option linter.unusedVariables false
set_option linter.unusedSimpArgs false

section
variable {α : Type} {enc : α → List Value} {sz : Nat}

/-- The slice v reads as the list xs. -/
def Sl (enc : α → List Value) (w : World) (v : Value) (xs : List α) : Prop :=
  ∃ a cap, v = .slice a xs.length cap ∧ (xs.length ≤ cap ∧ cap ≤ 9223372036854775807) ∧ (a = none → cap = 0 ∧ xs = []) ∧
    (xs ≠ [] → ∃ b off, a = some ⟨b, off, none⟩ ∧ ∀ j u, (xs.flatMap enc)[j]? = some u → w.cell? ⟨b, off + j, none⟩ = some u)

theorem flat_length (hsz : ∀ x, (enc x).length = sz) (xs : List α) : (xs.flatMap enc).length = xs.length * sz := by
  induction xs with
  | nil => simp
  | cons x xs ih => rw [List.flatMap_cons, List.length_append, ih, hsz, List.length_cons, Nat.succ_mul]; omega
theorem flat_get (hsz : ∀ x, (enc x).length = sz) (xs : List α) (k i : Nat) (hi : i < sz) (h : k < xs.length) : (xs.flatMap enc)[k * sz + i]? = (enc xs[k])[i]? := by
  induction xs generalizing k with
  | nil => simp at h
  | cons x xs ih =>
    rw [List.flatMap_cons]
    cases k with
    | zero => rw [Nat.zero_mul, Nat.zero_add, List.getElem?_append_left (by rw [hsz]; exact hi)]; rfl
    | succ k =>
      rw [List.getElem?_append_right (by rw [hsz, Nat.succ_mul]; omega), hsz, show (k + 1) * sz + i - sz = k * sz + i by rw [Nat.succ_mul]; omega]
      exact ih k (by simpa using h)

theorem Sl.below {w w' : World} {B : Nat} {v : Value} {xs : List α} (h : Sl enc w v xs) (hb : Below B w w') (hB : w.heap.size ≤ B) : Sl enc w' v xs := by
  obtain ⟨a, cap, rfl, hm, hn, hc⟩ := h
  refine ⟨a, cap, rfl, hm, hn, fun hx => ?_⟩
  obtain ⟨b, off, rfl, hd⟩ := hc hx
  refine ⟨b, off, rfl, fun j u hu => ?_⟩
  have := hd j u hu
  rw [hb.cell (by have := World.block_lt_of_cell? w _ this; omega)]; exact this
theorem Sl.drewN {w : World} {v : Value} {xs : List α} (h : Sl enc w v xs) (n : Nat) : Sl enc (w.drewN n) v xs := h
theorem Sl.nil (w : World) : Sl enc w (.slice none 0 0) [] := ⟨none, 0, rfl, by simp, fun _ => ⟨rfl, rfl⟩, fun e => (e rfl).elim⟩
/-- Its cells, element by element. -/
theorem Sl.split {w : World} {v : Value} {xs : List α} (hsz : ∀ x, (enc x).length = sz) (h : Sl enc w v xs) :
    ∃ a cap, v = .slice a xs.length cap ∧ (xs.length ≤ cap ∧ cap ≤ 9223372036854775807) ∧ (a = none → cap = 0 ∧ xs = []) ∧
      ∀ k (hk : k < xs.length), ∃ b off, a = some ⟨b, off, none⟩ ∧ ∀ i u, (enc xs[k])[i]? = some u → w.cell? ⟨b, off + (k * sz + i), none⟩ = some u := by
  obtain ⟨a, cap, rfl, hm, hn, hc⟩ := h
  refine ⟨a, cap, rfl, hm, hn, fun k hk => ?_⟩
  obtain ⟨b, off, rfl, hd⟩ := hc (by intro e; simp [e] at hk)
  refine ⟨b, off, rfl, fun i u hu => hd _ u ?_⟩
  rw [flat_get hsz xs k i (by rw [← hsz xs[k]]; exact (List.getElem?_eq_some_iff.1 hu).1) hk]; exact hu
theorem Sl.len {w : World} {v : Value} {xs : List α} (h : Sl enc w v xs) (h0 : ∀ x, 0 < (enc x).length) : ∃ a cap, v = .slice a xs.length cap ∧ (xs.length ≤ cap ∧ cap ≤ 9223372036854775807) ∧ (a = none → cap = 0 ∧ xs = []) ∧ (∀ ad, a = some ad → ∀ j u, (xs.flatMap enc)[j]? = some u → w.cell? (ad.add j) = some u) := by
  obtain ⟨a, cap, rfl, hm, hn, hc⟩ := h
  refine ⟨a, cap, rfl, hm, hn, fun ad e j u hu => ?_⟩
  obtain ⟨b, off, e2, hd⟩ := hc (by intro e; subst e; simp at hu)
  rw [e] at e2; injection e2 with e2; subst e2
  rw [Addr.add_lit]; exact hd j u hu
/-- Of a row that the call owns. -/
theorem Sl.own {w : World} {base : Nat} {e : TypeId} {v : Value} {n : Nat} {xs : List α} (hsz : ∀ x, (enc x).length = sz) (h0 : 0 < sz) (h : w.ownsRow base e sz v n (xs.flatMap enc)) : Sl enc w v xs := by
  have hn : n = xs.length := by
    have := h.1
    rw [flat_length hsz] at this
    exact (Nat.eq_of_mul_eq_mul_right h0 this).symm
  subst hn
  rcases h.2 with ⟨rfl, h0⟩ | ⟨g, cap, cur, rfl, _, _, hle, hcap, _⟩
  · have hx : xs = [] := List.eq_nil_of_length_eq_zero h0
    subst hx
    exact Sl.nil w
  · refine ⟨_, cap, rfl, ⟨hle, by unfold maxLen at hcap; omega⟩, (fun e => by cases e), fun _ => ⟨g, 0, rfl, fun j u hu => ?_⟩⟩
    have := h.cells (g := g) rfl j u hu
    rw [Addr.add_lit] at this
    exact this
/-- A literal. -/
theorem Sl.lit {w : World} {b : Nat} {t : TypeId} {xs : List α} {cap : Nat} {cs : Array Value} {n : Nat} {fr : Nat × Nat} (hb : w.heap[b]? = some (.cells cs t fr)) (hcs : cs.toList = xs.flatMap enc) (hn : n = xs.length) (hm : n ≤ cap ∧ cap ≤ 9223372036854775807) : Sl enc w (.slice (some ⟨b, 0, none⟩) n cap) xs := by
  subst hn
  refine ⟨_, cap, rfl, hm, (fun e => by cases e), fun _ => ⟨b, 0, rfl, fun j u hu => ?_⟩⟩
  rw [Nat.zero_add, cell_of_row w b j cs t fr hb, ← Array.getElem?_toList, hcs]; exact hu
theorem heap_new (w : World) (o : Obj) : (w.alloc o).heap[w.heap.size]? = some o := by
  show (w.heap.push o)[w.heap.size]? = some o
  simp
theorem lit1 (w : World) (o : Obj) : (w.alloc o).drew.heap[w.heap.size]? = some o := heap_new w o
theorem lit2 (w : World) (o p : Obj) : ((w.alloc o).alloc p).drew.heap[w.heap.size]? = some o := (Below.heap_alloc (w.alloc o) p _ (by simp)).trans (heap_new w o)
theorem lit3 (w : World) (o p : Obj) : ((w.alloc p).alloc o).drew.heap[w.heap.size + 1]? = some o := by
  have := heap_new (w.alloc p) o
  rw [show (w.alloc p).heap.size = w.heap.size + 1 by simp] at this
  exact this
theorem heap_keep {w w' : World} {B b : Nat} {o : Obj} (hb : Below B w w') (hB : b < B) (h : w.heap[b]? = some o) : w'.heap[b]? = some o := by rw [hb.block b hB]; exact h
theorem flat_snoc (xs : List α) (x : α) : (xs ++ [x]).flatMap enc = xs.flatMap enc ++ enc x := by simp
end
/-- One cell an element. -/
def fenc1 (x : Nat) : List Value := [.float .f64 x]
def ienc1 (k : IntKind) (x : Int) : List Value := [.int k x]
def senc1 (x : ByteArray) : List Value := [.string x]
def benc1 (x : Bool) : List Value := [.bool x]
end Go.Proofs.Ytidmbjgnkodiiaa
