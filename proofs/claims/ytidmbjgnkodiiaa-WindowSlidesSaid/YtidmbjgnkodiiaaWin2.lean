/- More contracts of package window: the reference's least, increases, counts. -/
import Derived.Test.YtidmbjgnkodiiaaWin
import Derived.Test.YtidmbjgnkodiiaaFm
namespace Go.Proofs.Ytidmbjgnkodiiaa
open Go.RowKit
set_option linter.unusedVariables false
set_option linter.unusedSimpArgs false

set_option maxRecDepth 100000 in
set_option maxHeartbeats 1000000 in
theorem rleast_any (a : Option Addr) (cap : Nat) (x : Nat) (l : List Nat) (most : Bool) (w : World) (h : Sl fenc1 w (.slice a (l.length + 1) cap) (x :: l)) : Calls Try.prog 35 #[.slice a (l.length + 1) cap, .bool most] w fun e w' => e = .returned (.float .f64 (least most (x :: l))) ∧ w = w' := by
  obtain ⟨a', cap', e, ⟨hle, hcap⟩, hc⟩ := h.floats
  simp only [List.length_cons, Value.slice.injEq, true_and] at e hle
  obtain ⟨rfl, rfl⟩ := e
  obtain ⟨b, off, rfl, hcell⟩ := hc 0 (by simp)
  have h0 : w.cell? ⟨b, off, none⟩ = some (.float .f64 x) := hcell 0 (by simp)
  have HC := Lib.hid hcell
  clear hcell hc h
  obtain ⟨mo, hmo⟩ : ∃ mo : Bool, mo = most := ⟨_, rfl⟩
  have HMO := Lib.hid hmo
  clear hmo
  cases most
  all_goals
    go_enter Try.func35, Try.ntmps35
    go_wp2_with fail
    go_loop [5, 6] (fun o i => ∃ (k p : Nat), k ≤ l.length ∧ i = .int .i64 ((k + 1 : Nat) : Int) ∧ o = .float .f64 p ∧ p = (l.take k).foldl (lstep mo) x) (fun _ i => l.length + 1 - (intOf i).toNat)
    case atStart => exact ⟨0, x, Nat.zero_le _, rfl, rfl, rfl⟩
    case round =>
      obtain ⟨k, p, hk, rfl, rfl, hp⟩ := hrel
      have HP := Lib.hid hp
      clear hp
      by_cases hlt : k < l.length
      · have hc0 : w.cell? ⟨b, off + (k + 1), none⟩ = some (.float .f64 l[k]) := by
          have := HC.out (k + 1) (by simp; omega)
          rw [fx_at (by simp; omega)] at this
          exact this
        obtain ⟨y, hy⟩ : ∃ y, y = l[k] := ⟨_, rfl⟩
        rw [← hy] at hc0
        have HY := Lib.hid hy
        clear hy
        go_wp2_with fail
        all_goals
          go_round
          case rel =>
            refine ⟨k + 1, _, by omega, by go_num, rfl, ?_⟩
            rw [foldl_snoc _ _ _ _ hlt, ← HP.out, ← HY.out, HMO.out]
            go_light
            unfold lstep fnan fo
            simp_all
          case measure => simp [intOf]; omega
      · obtain rfl : k = l.length := by omega
        go_wp2_with fail
        go_ret
        refine ⟨ret_f ?_, rfl⟩
        rw [HP.out, List.take_length, HMO.out]; rfl

theorem fo_some {x y : Nat} (hx : fnan x = false) (hy : fnan y = false) : ∃ o, fo x y = some o := by
  have h1 := read_number hx
  have h2 := read_number hy
  show ∃ o, Ieee.Datum.order (Ieee.double.read x) (Ieee.double.read y) = some o
  cases e1 : Ieee.double.read x with
  | nan n q => exact (h1 n q e1).elim
  | number s m p => cases e2 : Ieee.double.read y with
    | nan n q => exact (h2 n q e2).elim
    | number t n q => exact ⟨_, rfl⟩
    | infinity t => exact ⟨_, rfl⟩
  | infinity s => cases e2 : Ieee.double.read y with
    | nan n q => exact (h2 n q e2).elim
    | number t n q => exact ⟨_, rfl⟩
    | infinity t => exact ⟨_, rfl⟩
theorem fo_self {x : Nat} (hx : fnan x = false) : FloatKind.f64.format.order x x = some .eq := by unfold fnan at hx; simpa using hx
theorem fo_self_nan {x : Nat} (hx : fnan x = true) : FloatKind.f64.format.order x x = none := fo_nan_l x hx
/-- The five ways two floats stand to each other. -/
theorem fo_ways (x p : Nat) : (∃ o, FloatKind.f64.format.order x p = some o ∧ FloatKind.f64.format.order x x = some .eq ∧ FloatKind.f64.format.order p p = some .eq) ∨
    (FloatKind.f64.format.order x p = none ∧ FloatKind.f64.format.order x x = none ∧ FloatKind.f64.format.order p p = none) ∨
    (FloatKind.f64.format.order x p = none ∧ FloatKind.f64.format.order x x = none ∧ FloatKind.f64.format.order p p = some .eq) ∨
    (FloatKind.f64.format.order x p = none ∧ FloatKind.f64.format.order x x = some .eq ∧ FloatKind.f64.format.order p p = none) := by
  cases hx : fnan x <;> cases hp : fnan p
  · obtain ⟨o, ho⟩ := fo_some hx hp
    exact .inl ⟨o, ho, fo_self hx, fo_self hp⟩
  · exact .inr (.inr (.inr ⟨fo_nan_r _ hp, fo_self hx, fo_self_nan hp⟩))
  · exact .inr (.inr (.inl ⟨fo_nan_l _ hx, fo_self_nan hx, fo_self hp⟩))
  · exact .inr (.inl ⟨fo_nan_l _ hx, fo_self_nan hx, fo_self_nan hp⟩)

/-- What a value rose: it itself, if it is below the one ahead. -/
def riseOf (p x : Nat) : Nat := if fo x p == some .lt then canon x else cop .sub x p
def rises : List Nat → List Nat
  | x :: y :: l => riseOf x y :: rises (y :: l)
  | _ => []
def incr (xs : List Nat) : Nat := fsum (0 :: rises xs)
theorem fsum_congr {xs ys : List Nat} (h : xs.map canon = ys.map canon) : fsum xs = fsum ys := by
  have key : ∀ (l m : List Nat) (a : Nat), l.map canon = m.map canon → l.foldl (cop .add) a = m.foldl (cop .add) a := by
    intro l
    induction l with
    | nil => intro m a h; cases m with | nil => rfl | cons => simp at h
    | cons x l ih =>
      intro m a h
      cases m with
      | nil => simp at h
      | cons y m =>
        simp only [List.map_cons, List.cons.injEq] at h
        simp only [List.foldl_cons]
        rw [cop_congr .add (rfl : canon a = canon a) h.1]
        exact ih m _ h.2
  cases xs with
  | nil => cases ys with | nil => rfl | cons => simp at h
  | cons x l =>
    cases ys with
    | nil => simp at h
    | cons y m =>
      simp only [List.map_cons, List.cons.injEq] at h
      show l.foldl _ (canon x) = m.foldl _ (canon y)
      rw [h.1]; exact key l m _ h.2
theorem rises_snoc (x : Nat) (l : List Nat) (k : Nat) (h : k < l.length) : rises ((x :: l).take (k + 2)) = rises ((x :: l).take (k + 1)) ++ [riseOf ((x :: l)[k]'(by simp; omega)) l[k]] := by
  induction l generalizing x k with
  | nil => simp at h
  | cons y l ih =>
    cases k with
    | zero => simp [rises]
    | succ k =>
      have := ih y k (by simpa using h)
      simp only [List.take_succ_cons, rises, List.cons_append, List.getElem_cons_succ] at this ⊢
      rw [this]
end Go.Proofs.Ytidmbjgnkodiiaa
