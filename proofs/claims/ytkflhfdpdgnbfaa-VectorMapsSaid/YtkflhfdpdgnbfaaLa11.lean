/- Labels, sorted by their names. -/
import Derived.Test.YtkflhfdpdgnbfaaLa10
import Derived.Test.YtkflhfdpdgnbfaaSoR
namespace Go.Proofs.Ytkflhfdpdgnbfaa
open Go.RowKit
set_option linter.unusedVariables false
set_option linter.unusedSimpArgs false
set_option maxRecDepth 100000
def cmpN (x y : Lb) : Int := cmpS x.1 y.1
theorem swo_of {α : Type} {cf : α → α → Int} (neg : ∀ x y, cf y x = - cf x y) (tr : ∀ x y z, cf x y ≤ 0 → cf y z ≤ 0 → cf x z ≤ 0 ∧ (cf x y < 0 ∨ cf y z < 0 → cf x z < 0)) : Sort.SWO (ltOf cf) where
  irrefl x := by have := neg x x; exact decide_eq_false (by omega)
  trans x y z h1 h2 := by
    have h1 : cf x y < 0 := of_decide_eq_true h1
    have h2 : cf y z < 0 := of_decide_eq_true h2
    exact decide_eq_true ((tr x y z (by omega) (by omega)).2 (.inl h1))
  ntrans x y z h1 h2 := by
    have h1 : ¬ cf x y < 0 := of_decide_eq_false h1
    have h2 : ¬ cf y z < 0 := of_decide_eq_false h2
    have n1 := neg x y
    have n2 := neg y z
    have n3 := neg x z
    have := (tr z y x (by omega) (by omega)).1
    exact decide_eq_false (by omega)
theorem cmpN_swo : Sort.SWO (ltOf cmpN) := swo_of (fun x y => cmpS_neg x.1 y.1) (fun x y z h1 h2 => cmpS_trans h1 h2)
theorem cmpLays_of {g : Nat} {α : Type} [Inhabited α] {enc : α → List Value} {k : Nat} {cf : α → α → Int} {blk off size : Nat} {w0 : World} (h : ∀ x y w, Calls Try.prog g #[.agg (enc x).toArray, .agg (enc y).toArray] w fun e w' => e = .returned (.int .i64 (cf x y)) ∧ Grew w w') : CmpLays Try.prog g #[] enc k cf blk off size w0 := by
  intro m os dk hs x y
  refine (h x y _).mono ?_
  rintro e w' ⟨rfl, q, os', rfl⟩
  exact ⟨rfl, q, os', rfl⟩
end Go.Proofs.Ytkflhfdpdgnbfaa
