/- Labels, sorted by their names. -/
import Derived.Test.YtdpigfcnphklgaaDoorLa10
import Derived.Test.YtdpigfcnphklgaaDoorSoR
import Derived.Test.YtdpigfcnphklgaaDoorSbLb
namespace Go.Proofs.YtdpigfcnphklgaaDoor
open Go.RowKit
set_option linter.unusedVariables false
set_option linter.unusedSimpArgs false
set_option maxRecDepth 100000
def cmpN (x y : Lb) : Int := cmpS x.1 y.1
theorem set1_any (x y : Lb) (w : World) : Calls Tryd.prog 58 #[.agg (lenc x).toArray, .agg (lenc y).toArray] w fun e w' => e = .returned (.int .i64 (cmpN x y)) ∧ Grew w w' := by
  obtain ⟨a, b⟩ := x
  obtain ⟨c, d⟩ := y
  show Calls Tryd.prog 58 #[.agg #[.string a, .string b], .agg #[.string c, .string d]] w _
  go_enter Tryd.func58, Tryd.ntmps58
  go_wp2_with fail
  refine (Tryd.strings_Compare _ _ _).mono ?_
  rintro e w1 ⟨rfl, rfl⟩
  go_wp2_with fail
  go_ret
  exact ⟨rfl, ((Grew.refl _).alloc _).alloc _⟩
theorem swo_of {α : Type} {cf : α → α → Int} (neg : ∀ x y, cf y x = - cf x y) (tr : ∀ x y z, cf x y ≤ 0 → cf y z ≤ 0 → cf x z ≤ 0 ∧ (cf x y < 0 ∨ cf y z < 0 → cf x z < 0)) : Sort.SWO (ltOf cf) where
  irrefl x := by have := neg x x; exact decide_eq_false (by omega)
  trans x y z h1 h2 := by
    have h1 : cf x y < 0 := of_decide_eq_true h1
    have h2 : cf y z < 0 := of_decide_eq_true h2
    exact decide_eq_true ((tr x y z (by omega) (by omega)).2 (.inl h1))
  ntrans x y z h1 h2 := by
    have h1 : ¬ cf x y < 0 := of_decide_eq_false h1
    have h2 : ¬ cf y z < 0 := of_decide_eq_false h2
    have n1 := neg x y
    have n2 := neg y z
    have n3 := neg x z
    have := (tr z y x (by omega) (by omega)).1
    exact decide_eq_false (by omega)
theorem cmpN_swo : Sort.SWO (ltOf cmpN) := swo_of (fun x y => cmpS_neg x.1 y.1) (fun x y z h1 h2 => cmpS_trans h1 h2)
theorem cmpLays_of {g : Nat} {α : Type} [Inhabited α] {enc : α → List Value} {k : Nat} {cf : α → α → Int} {blk off size : Nat} {w0 : World} (h : ∀ x y w, Calls Tryd.prog g #[.agg (enc x).toArray, .agg (enc y).toArray] w fun e w' => e = .returned (.int .i64 (cf x y)) ∧ Grew w w') : CmpLays Tryd.prog g #[] enc k cf blk off size w0 := by
  intro m os dk hs x y
  refine (h x y _).mono ?_
  rintro e w' ⟨rfl, q, os', rfl⟩
  exact ⟨rfl, q, os', rfl⟩
set_option maxHeartbeats 2000000 in
theorem sortstable_any (v : Value) (n : Nat) (l : List Lb) (base : Nat) (w : World) (h : w.ownsRow base 33 2 v n (l.flatMap lenc)) (hne : l ≠ []) (hl : l.length ≤ 1000000) :
    Calls Tryd.prog 57 #[v, .func (.func 58) #[] #[]] w fun e w' => e = .returned (.tuple #[]) ∧ ∃ l' : List Lb, l'.Perm l ∧ l'.Pairwise (fun x y => cmpN x y ≤ 0) ∧ Sl lenc w' v l' ∧ (∀ W, Below base W w → Below base W w') := by
  have hn : n = l.length := by
    have := h.1
    rw [flat_length lenc_len] at this
    omega
  subst hn
  rcases h.2 with ⟨rfl, h0⟩ | ⟨g, cap, cur, rfl, hbg, hg, hle, hcap, -, -⟩
  · exact absurd (List.eq_nil_of_length_eq_zero h0) hne
  · have hgl : g < w.heap.size := (Array.getElem?_eq_some_iff.1 hg).1
    have hH := holdsK_own lenc_len (by decide) h
    have R : RowK lenc 2 w g 0 l.toArray := ⟨lenc_len, fun x v hv => by simp [lenc] at hv; rcases hv with rfl | rfl <;> rfl, hH, hgl⟩
    have HF := stable_Lb 2 (fun w => by rfl) 58 #[] (fun args w => by rfl) cmpN g 0 cap l.toArray l.toArray w w R rfl (SWK.start hH) (cmpLays_of fun x y w => set1_any x y w) cmpN_swo (by simp; omega)
    rw [List.size_toArray] at HF
    have HFF := Lib.hid HF
    have HR := Lib.hid R
    have HHH := Lib.hid hH
    unfold maxLen at hcap
    clear HF R hH h hg
    go_enter Tryd.func57, Tryd.ntmps57
    go_wp2_with fail
    refine HFF.out.mono ?_
    rintro e w1 ⟨rfl, d', hS, hz, hp, hs⟩
    have HS := Lib.hid hS
    have HZ := Lib.hid hz
    have HP := Lib.hid hp
    have HO := Lib.hid hs
    clear hS hz hp hs
    go_wp2_with fail
    go_end0
    have hz : d'.size = l.length := by have := HZ.out; simpa using this
    refine ⟨rfl, d'.toList, ?_, ?_, ?_, ?_⟩
    · have := HP.out.2.2
      simp only [List.extract_toArray, List.extract_eq_take_drop, List.drop_zero] at this
      have e1 : (d'.extract 0 l.length).toList = d'.toList := by rw [← hz, Array.extract_size]
      rw [e1] at this
      simpa using this
    · rw [List.pairwise_iff_getElem]
      intro i j hi hj hij
      have := HO.out i j (Nat.zero_le _) hij (by simpa [hz] using hj)
      have hi2 : i < d'.size := by simpa using hi
      have hj2 : j < d'.size := by simpa using hj
      rw [getElem!_pos d' i hi2, getElem!_pos d' j hj2] at this
      have h2 : ¬ cmpN d'[j] d'[i] < 0 := of_decide_eq_false this
      have h3 := cmpS_neg d'[j].1 d'[i].1
      show cmpS _ _ ≤ 0
      have h4 : ¬ cmpS d'[j].1 d'[i].1 < 0 := h2
      simp only [Array.getElem_toList]
      omega
    · have := SWK.slice (cap := cap) HS.out lenc_len (by decide) HHH.out hgl (by rw [hz]; simp) ⟨by omega, by omega⟩
      rw [hz] at this
      exact this
    · intro W hW
      exact hW.grown (SWK.grownBy HS.out) (by omega) (fun j hj => by injection hj with hj; omega)
end Go.Proofs.YtdpigfcnphklgaaDoor
