/- A list's copy: slices.Clone. -/
import Derived.Test.YtkflhfdpdgnbfaaLa9
namespace Go.Proofs.Ytkflhfdpdgnbfaa
open Go.RowKit
set_option linter.unusedVariables false
set_option linter.unusedSimpArgs false
set_option maxRecDepth 100000
theorem oneCell_flat (l : List Lb) : ∀ u ∈ l.flatMap lenc, u.oneCell' = true := by
  intro u hu
  rw [List.mem_flatMap] at hu
  obtain ⟨x, _, hx⟩ := hu
  simp [lenc] at hx
  rcases hx with rfl | rfl <;> rfl
set_option maxHeartbeats 2000000 in
theorem clone_any (v : Value) (l : List Lb) (w : World) (h : Sl lenc w v l) (hl : l.length ≤ 1000000) :
    Calls Try.prog 28 #[v] w fun e w' => ∃ v', e = .returned v' ∧ w'.ownsRow w.heap.size 49 2 v' l.length (l.flatMap lenc) ∧ Below w.heap.size w w' := by
  obtain ⟨a, cap, rfl, hlen, hnone, hc⟩ := h.len (fun x => by rw [lenc_len]; decide)
  obtain ⟨i0, hi, hz0, hz1, hz2⟩ := info_parts Try.infoLb
  cases a with
  | none =>
    obtain ⟨rfl, rfl⟩ := hnone rfl
    have he : ∀ w : World, (binOp .eql 33 (.slice none 0 0) (.slice none 0 0)).run Try.prog w = .ok (.bool true) w := fun _ => rfl
    go_enter Try.func28, Try.ntmps28
    go_wp2_with fail
    go_ret
    exact ⟨_, rfl, by simpa using World.ownsRow_nil _ _ _ _, Below.refl _ _⟩
  | some ad =>
    have HCC := Lib.hid hc
    have he : ∀ (n c : Nat) (w : World), (binOp .eql 33 (.slice (some ad) n c) (.slice none 0 0)).run Try.prog w = .ok (.bool false) w := fun _ _ _ => rfl
    have hb0 : Below w.heap.size w (w.alloc (.cells #[] 49)) := (Below.refl _ _).alloc (Nat.le_refl _) _
    have hslb := Sl.below h hb0 (Nat.le_refl _)
    obtain ⟨a2, cap2, e2, -, -, hc2⟩ := hslb.len (fun x => by rw [lenc_len]; decide)
    injection e2 with e2 e3 e4
    subst e2
    have HC2 := Lib.hid hc2
    clear hc hc2 hslb hnone h
    have HF1 := Lib.hid (flat_length lenc_len l)
    have HF2 := Lib.hid (oneCell_flat l)
    generalize l.flatMap lenc = F at HF1 HF2 HC2 ⊢
    go_enter Try.func28, Try.ntmps28
    go_wp2_with (at_builtin; refine wpList_append_rd rfl (.tmp 5) (.tmp 6) _ rfl w.heap.size 49 i0 (.agg #[.string ⟨#[]⟩, .string ⟨#[]⟩]) 2 32 Try.underlying33 hi hz0 hz1 hz2 rfl (by decide) _ 0 [] rfl (owns_lit (heap_new _ _) (Nat.le_refl _)) _ _ _ F rfl ?e1 ?e2 ?e3 ?e4 ?e5 ?e6 ?e7 ?_)
    case e2 => exact HF1.out
    case e3 => exact HC2.out ad rfl
    case e4 => exact HF2.out
    case e5 => unfold maxLen; omega
    case e6 => omega
    intro v' w1 hown hgrow
    have HO := Lib.hid hown
    have HG := Lib.hid hgrow
    clear hown hgrow
    go_wp2_with fail
    go_ret
    exact ⟨_, rfl, by simpa using HO.out, hb0.grown HG.out (by simp) (fun j hj => by simp [Value.ownBlock] at hj; omega)⟩
end Go.Proofs.Ytkflhfdpdgnbfaa
