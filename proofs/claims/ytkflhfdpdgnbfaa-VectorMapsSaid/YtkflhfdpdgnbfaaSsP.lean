/- The library's stable sort at elements of k cells: symMerge, at every part. -/
import Derived.Test.YtkflhfdpdgnbfaaSnP
namespace Go.Proofs.Ytkflhfdpdgnbfaa
open Go.Shelf Go.RowKit Go.Lib Go.Sort
set_option linter.unusedVariables false
set_option linter.unusedSimpArgs false
set_option maxRecDepth 100000

section
variable {α : Type} [Inhabited α] {enc : α → List Value}
theorem symMerge_P (k : Nat) (zE : ∀ w, (Go.sizeOf 35).run Try.prog w = .ok k w) (g : Nat) (cb : Array Value) (eg : ∀ args w, (callFunc g args).run Try.prog w = .ok (.enter g args) w) (cf : α → α → Int) (blk off cap : Nat) (d0 : Array α) (w0 : World)
    (R : RowK enc k w0 blk off d0) (hC : CmpLays Try.prog g cb enc k cf blk off d0.size w0) (hS : SWO (ltOf cf)) (hsz : d0.size < 4611686018427387904) :
    ∀ (f a m b : Nat) (d : Array α) (w : World), b - a ≤ f → d0.size = d.size → SWK enc k w0 blk off d w → a < m → m < b → b ≤ d.size → SortedIn (ltOf cf) a m d → SortedIn (ltOf cf) m b d →
      Calls Try.prog 78 #[.slice (some ⟨blk, off, none⟩) d.size cap, .int .i64 a, .int .i64 m, .int .i64 b, .func (.func g) #[] cb] w fun e w' => e = .returned (.tuple #[]) ∧ Merged enc k w0 blk off (ltOf cf) a b d w' := by
  intro f
  induction f with
  | zero => intro a m b d w h; intros; omega
  | succ f ih =>
    intro a m b d w hf hs S ham hmb hb h1 h2
    by_cases c1 : m = a + 1
    · exact mergeA_P k zE g cb eg cf blk off cap a m b d0 d w0 w R hs S hC hS c1 hmb hb (by omega) h2
    · by_cases c2 : b = m + 1
      · exact mergeB_P k zE g cb eg cf blk off cap a m b d0 d w0 w R hs S hC hS (by omega) c2 hb (by omega) h1
      · refine mergeC_P k zE g cb eg cf blk off cap a m b d0 d w0 w R hs S hC hS (by omega) (by omega) hb (by omega) h1 h2 ?_
        intro a' m' b' d' w' hlt hz hS' ham' hmb' hb' h1' h2'
        have h := ih a' m' b' d' w' (by omega) (by omega) hS' ham' hmb' (by omega) h1' h2'
        rw [hz] at h
        exact h
end
end Go.Proofs.Ytkflhfdpdgnbfaa
