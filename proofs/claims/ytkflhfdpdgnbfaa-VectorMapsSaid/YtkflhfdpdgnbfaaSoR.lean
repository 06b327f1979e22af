/- A row of one's own, sorted in its place: how it is met and how it is read behind. -/
import Derived.Test.YtkflhfdpdgnbfaaSoL
import Derived.Laws.OwnMore
namespace Go.Proofs.Ytkflhfdpdgnbfaa
open Go.Shelf Go.RowKit Go.Lib Go.Sort
set_option linter.unusedVariables false
set_option linter.unusedSimpArgs false
section
variable {α : Type} [Inhabited α] {enc : α → List Value} {k : Nat}
theorem holdsK_own {w : World} {base g n cap : Nat} {e : TypeId} {l : List α} (hk : ∀ x, (enc x).length = k) (h0 : 0 < k) (h : w.ownsRow base e k (.slice (some ⟨g, 0, none⟩) n cap) n (l.flatMap enc)) : HoldsK enc k w g 0 l.toArray := by
  intro j hj
  rw [size_flatK] at hj
  have hj2 : j < l.length * k := by simpa using hj
  refine ⟨?_, h.frozenAt _⟩
  have hq : j / k < l.length := Nat.div_lt_of_lt_mul (by rw [Nat.mul_comm]; exact hj2)
  have hr : j % k < k := Nat.mod_lt _ h0
  have e1 := flat_get hk l (j / k) (j % k) hr hq
  rw [show j / k * k + j % k = j by rw [Nat.mul_comm]; exact Nat.div_add_mod j k] at e1
  rw [get_flatK enc k _ j hj]
  have e2 : l.toArray[j / k]! = l[j / k] := by simp [hq]
  rw [e2]
  have hr2 : j % k < (enc l[j / k]).length := by rw [hk]; exact hr
  rw [List.getElem?_eq_getElem hr2] at e1
  have e3 := h.cells (g := g) rfl j _ e1
  rw [Addr.add_lit, Nat.zero_add] at e3
  rw [Nat.zero_add]
  show w.cell? _ = some ((enc l[j / k])[j % k]!)
  rw [getElem!_pos (enc l[j / k]) (j % k) hr2]
  exact e3
theorem SWK.slice {w0 W : World} {g cap : Nat} {d0 d : Array α} (h : SWK enc k w0 g 0 d W) (hk : ∀ x, (enc x).length = k) (h0 : 0 < k) (hH : HoldsK enc k w0 g 0 d0) (hg : g < w0.heap.size) (hs : d.size = d0.size) (hc : d.size ≤ cap ∧ cap ≤ 9223372036854775807) : Sl enc W (.slice (some ⟨g, 0, none⟩) d.size cap) d.toList := by
  have hh := h.holds hg hH hs
  refine ⟨_, cap, by simp, by simpa using hc, (fun e => by cases e), fun _ => ⟨g, 0, rfl, fun j u hu => ?_⟩⟩
  have hj : j < d.size * k := by
    have := (List.getElem?_eq_some_iff.1 hu).1
    rw [flat_length hk] at this
    simpa using this
  have hq : j / k < d.size := Nat.div_lt_of_lt_mul (by rw [Nat.mul_comm]; exact hj)
  have hr : j % k < k := Nat.mod_lt _ h0
  have e1 := flat_get hk d.toList (j / k) (j % k) hr (by simpa using hq)
  rw [show j / k * k + j % k = j by rw [Nat.mul_comm]; exact Nat.div_add_mod j k, hu] at e1
  have hx : d[j / k]! = d.toList[j / k]'(by simpa using hq) := by simp [hq]
  have := HoldsK.cells hh hk hq (j % k) u (by rw [hx]; exact e1.symm)
  rw [Addr.add_lit, Nat.zero_add, show j / k * k + j % k = j by rw [Nat.mul_comm]; exact Nat.div_add_mod j k] at this
  rw [Nat.zero_add]; exact this
theorem SWK.grownBy {w0 W : World} {g : Nat} {d : Array α} (h : SWK enc k w0 g 0 d W) : w0.grownBy W (some g) := by
  obtain ⟨n, os, rfl⟩ := h
  unfold sortWorldK putRowK
  refine ⟨rfl, rfl, rfl, by simp, fun b hk hne => ?_⟩
  rw [heap_grow_old _ _ (by simpa using hk)]
  have : g ≠ b := fun e => hne (by rw [e])
  simp [putRow, mapBlock, Sort.ahead, Array.getElem?_modify, this]
end
end Go.Proofs.Ytkflhfdpdgnbfaa
