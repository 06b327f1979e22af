/- How the arguments of a law are opened: rows of whole numbers. -/
import Derived.Test.YtidmbjgnkodiiaaFlt
import Derived.ProofKit
import Derived.SizedLaws
import Derived.ChangeSlices
import Derived.Deep.Slices
namespace Go.Proofs.Ytidmbjgnkodiiaa
open Go.RowKit Go.ChangeShapes Go.WideShapes
set_option linter.unusedVariables false
set_option linter.unusedSimpArgs false

/-- A row of whole numbers in memory. -/
def IRow (k : IntKind) (w : World) (a : Option Addr) (zs : List Int) : Prop :=
  (∀ z ∈ zs, (Lit.int k z).wf = true) ∧ (zs ≠ [] → ∃ b off, a = some ⟨b, off, none⟩ ∧ ∀ j, j < zs.length → w.cell? ⟨b, off + j, none⟩ = some (.int k (zs.getD j 0)))

theorem add_spot {w : World} {x : Addr} {j : Nat} {u : Value} (h : w.cell? (x.add j) = some u) (hs : x.spot = none) : w.cell? ⟨x.block, x.off + j, none⟩ = some u := by
  obtain ⟨b, off, sp⟩ := x
  subst hs
  rw [Addr.add_lit] at h
  exact h

theorem open_int_row {H : Type} {enc : TypeId × Value → H} {P : Program} {W : World} {base b0 : Nat} {r : Reach} {spare : Nat → Bool} {held : Bool} {t e : TypeId} {k : IntKind} {v : Value} {d : DataW H} {ps : List MemPlace} {ts : List TypeId} {ds : List (DataW H)} {j : Nat} {B : Nat}
    (hu : P.underlying t = some (.slice e)) (he : P.underlying e = some (.int k)) (hc : P.cellsOf e = 1) (hB : P.bytesOf e = B)
    (hval : Value.okWide P W r b0 t v) (h : DataW.Trod enc P W base spare held t v d ps)
    (hsz : (DataW.weightsEach P ts ds).all (· ≤ reachBytes) = true) (ht : ts[j]? = some t) (hd : ds[j]? = some d) :
    ∃ a cap zs, v = .slice a zs.length cap ∧ IRow k W a zs ∧ zs.length * B ≤ 140737488351232 := by
  obtain ⟨a, len, cap, rfl⟩ := okWide_slice hu hval
  obtain ⟨fuel, hf⟩ := h
  rcases open_ints hu he hc hf with ⟨hcs, _⟩ | ⟨x, l, c, zs, hcs, _, hl, _, hz, hx, hcell, hwz⟩
  · simp [Value.cells] at hcs
    obtain ⟨rfl, rfl, rfl⟩ := hcs
    exact ⟨none, 0, [], rfl, ⟨by simp, fun e => (e rfl).elim⟩, by simp⟩
  · simp [Value.cells] at hcs
    obtain ⟨rfl, rfl, rfl⟩ := hcs
    have hl2 : len ≤ zs.length := by rw [hz]; split <;> omega
    refine ⟨some x, cap, zs.take len, by rw [List.length_take, Nat.min_eq_left hl2], ⟨fun z hz' => hwz z (List.mem_of_mem_take hz'), fun hne => ?_⟩, ?_⟩
    · have h0 : 0 < zs.length := by
        cases zs with
        | nil => simp at hne
        | cons => simp
      have hsp : x.spot = none := by
        have := World.cell?_spot (hcell 0 h0)
        simpa [Addr.add] using this
      refine ⟨x.block, x.off, ?_, fun j hj => ?_⟩
      · obtain ⟨b, off, sp⟩ := x
        simp only at hsp
        subst hsp
        rfl
      · rw [List.length_take] at hj
        rw [add_spot (hcell j (by omega)) hsp]
        simp [List.getElem?_take, show j < len by omega]
    · obtain ⟨hx, _⟩ := Prod.mk.inj hx
      subst hx
      have z := sized_slice hsz ht hd hu
      rw [hB] at z
      have h1 : (lits (H := H) k (zs.take len)).length + (lits (H := H) k (zs.drop len)).length = zs.length := by
        simp [lits]
        omega
      rw [h1] at z
      rw [List.length_take, Nat.min_eq_left hl2]
      exact Nat.le_trans (Nat.mul_le_mul_right _ hl2) z
end Go.Proofs.Ytidmbjgnkodiiaa
