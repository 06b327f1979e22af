/- Contracts of package window's inner functions and of their references. -/
import Derived.Test.YtidmbjgnkodiiaaWref
import Derived.Test.YtidmbjgnkodiiaaSl
import Derived.WalkSpells
namespace Go.Proofs.Ytidmbjgnkodiiaa
open Go.RowKit
set_option linter.unusedVariables false
set_option linter.unusedSimpArgs false

theorem fenc1_len (x : Nat) : (fenc1 x).length = 1 := rfl
theorem flat1 (xs : List Nat) : xs.flatMap fenc1 = xs.map (Value.float .f64) := by
  induction xs with
  | nil => rfl
  | cons x xs ih => rw [List.flatMap_cons, ih]; rfl
theorem fx_at {xs : List Nat} {k : Nat} (h : k < xs.length) : fx xs k = xs[k] := by simp [fx, h]
/-- A slice of floats: its cells one by one. -/
theorem Sl.floats {w : World} {v : Value} {xs : List Nat} (h : Sl fenc1 w v xs) : ∃ a cap, v = .slice a xs.length cap ∧ (xs.length ≤ cap ∧ cap ≤ 9223372036854775807) ∧
    ∀ k, k < xs.length → ∃ b off, a = some ⟨b, off, none⟩ ∧ ∀ j, j < xs.length → w.cell? ⟨b, off + j, none⟩ = some (.float .f64 (fx xs j)) := by
  obtain ⟨a, cap, rfl, hm, hn, hc⟩ := h
  refine ⟨a, cap, rfl, hm, fun k hk => ?_⟩
  obtain ⟨b, off, rfl, hd⟩ := hc (by intro e; simp [e] at hk)
  refine ⟨b, off, rfl, fun j hj => hd j _ ?_⟩
  rw [flat1, fx_at hj]; simp [hj]
theorem frow_of {w : World} {a : Option Addr} {n cap : Nat} {xs : List Nat} (h : Sl fenc1 w (.slice a n cap) xs) (hm : xs.length ≤ 140737488351232) : FRow w a xs := by
  obtain ⟨a', cap', e, hle, hn, hc⟩ := h
  injection e with e1 e2 e3
  subst e1
  refine ⟨hm, fun hx => ?_⟩
  obtain ⟨b, off, rfl, hd⟩ := hc hx
  refine ⟨b, off, rfl, fun k hk => hd k _ ?_⟩
  rw [flat1]; simp [hk]

/-- The sum from the first on. -/
def fsum : List Nat → Nat
  | [] => 0
  | x :: l => l.foldl (cop .add) (canon x)
theorem foldl_snoc {α β : Type} (f : β → α → β) (b : β) (l : List α) (k : Nat) (h : k < l.length) : (l.take (k + 1)).foldl f b = f ((l.take k).foldl f b) l[k] := by
  rw [List.take_succ_eq_append_getElem h, List.foldl_append]; rfl

set_option maxHeartbeats 1000000 in
theorem fsum_any (v : Value) (xs : List Nat) (w : World) (h : Sl fenc1 w v xs) : Calls Try.prog 41 #[v] w fun e w' => e = .returned (.float .f64 (fsum xs)) ∧ ∃ n, w' = w.drewN n := by
  obtain ⟨a, cap, rfl, ⟨hle, hcap⟩, hc⟩ := h.floats
  cases xs with
  | nil =>
    go_enter Try.func41, Try.ntmps41
    go_wp2
    go_ret
    exact ⟨rfl, 0, rfl⟩
  | cons x l =>
    obtain ⟨b, off, rfl, hcell⟩ := hc 0 (by simp)
    have h0 : w.cell? ⟨b, off, none⟩ = some (.float .f64 x) := hcell 0 (by simp)
    have HC := Lib.hid hcell
    clear hcell hc h
    simp only [List.length_cons] at hle ⊢
    by_cases h1 : cap = 1
    · subst h1
      obtain rfl : l = [] := List.eq_nil_of_length_eq_zero (by omega)
      go_enter Try.func41, Try.ntmps41
      go_wp2_with fail
      refine wp_loop_rounds 1 ?_
      rw [rounds_succ]
      go_wp2_with (go_at_call 24; refine (canon_any _ _).mono ?_; rintro e w' ⟨rfl, rfl⟩)
      go_ret
      exact ⟨rfl, 0, rfl⟩
    · have h2 : 2 ≤ cap := by omega
      clear h1
      go_enter Try.func41, Try.ntmps41
      go_wp2_with fail
      go_loopw [3, 15] (fun o i wr => ∃ (k p : Nat), k ≤ l.length ∧ i = .int .i64 k ∧ o = .float .f64 p ∧ canon p = (l.take k).foldl (cop .add) (canon x) ∧ ∃ n, wr = w.drewN n) (fun _ i _ => l.length - (intOf i).toNat)
      case atStart => exact ⟨0, x, Nat.zero_le _, rfl, rfl, rfl, 0, rfl⟩
      case round =>
        obtain ⟨k, p, hk, rfl, rfl, hp, n, rfl⟩ := hrel
        have HP := Lib.hid hp
        clear hp
        by_cases hlt : k < l.length
        · have hc0 : w.cell? ⟨b, off + 1 + k, none⟩ = some (.float .f64 l[k]) := by
            have := HC.out (k + 1) (by simp; omega)
            rw [fx_at (by simp; omega)] at this
            rw [show off + 1 + k = off + (k + 1) by omega]
            exact this
          go_wp2_with fail
          go_roundw
          case rel =>
            refine ⟨k + 1, _, by omega, by go_num, rfl, ?_, _, rfl⟩
            rw [canon_fop, foldl_snoc _ _ _ _ hlt, ← HP.out, cop_canon_l]
          case measure => simp [intOf]; omega
        · obtain rfl : k = l.length := by omega
          go_wp2_with (go_at_call 24; refine (canon_any _ _).mono ?_; rintro e w' ⟨rfl, rfl⟩)
          go_ret
          refine ⟨ret_f ?_, _, rfl⟩
          rw [HP.out, List.take_length]; rfl

set_option maxHeartbeats 1000000 in
theorem rfsum_any (v : Value) (xs : List Nat) (w : World) (h : Sl fenc1 w v xs) : Calls Try.prog 34 #[v] w fun e w' => e = .returned (.float .f64 (fsum xs)) ∧ ∃ n, w' = w.drewN n := by
  obtain ⟨a, cap, rfl, ⟨hle, hcap⟩, hc⟩ := h.floats
  cases xs with
  | nil =>
    go_enter Try.func34, Try.ntmps34
    go_wp2
    go_ret
    exact ⟨rfl, 0, rfl⟩
  | cons x l =>
    obtain ⟨b, off, rfl, hcell⟩ := hc 0 (by simp)
    have h0 : w.cell? ⟨b, off, none⟩ = some (.float .f64 x) := hcell 0 (by simp)
    have HC := Lib.hid hcell
    clear hcell hc h
    simp only [List.length_cons] at hle ⊢
    go_enter Try.func34, Try.ntmps34
    go_wp2_with fail
    go_loopw [3, 4] (fun o i wr => ∃ (k p : Nat), k ≤ l.length ∧ i = .int .i64 ((k + 1 : Nat) : Int) ∧ o = .float .f64 p ∧ canon p = (l.take k).foldl (cop .add) (canon x) ∧ ∃ n, wr = w.drewN n) (fun _ i _ => l.length + 1 - (intOf i).toNat)
    case atStart => exact ⟨0, x, Nat.zero_le _, rfl, rfl, rfl, 0, rfl⟩
    case round =>
      obtain ⟨k, p, hk, rfl, rfl, hp, n, rfl⟩ := hrel
      have HP := Lib.hid hp
      clear hp
      by_cases hlt : k < l.length
      · have hc0 : w.cell? ⟨b, off + (k + 1), none⟩ = some (.float .f64 l[k]) := by
          have := HC.out (k + 1) (by simp; omega)
          rw [fx_at (by simp; omega)] at this
          exact this
        go_wp2_with fail
        go_roundw
        case rel =>
          refine ⟨k + 1, _, by omega, by go_num, rfl, ?_, _, rfl⟩
          rw [canon_fop, foldl_snoc _ _ _ _ hlt, ← HP.out, cop_canon_l]
        case measure => simp [intOf]; omega
      · obtain rfl : k = l.length := by omega
        go_wp2_with (go_at_call 23; refine (rcanon_any _ _).mono ?_; rintro e w' ⟨rfl, rfl⟩)
        go_ret
        refine ⟨ret_f ?_, _, rfl⟩
        rw [HP.out, List.take_length]; rfl

/-- The least, or the greatest, that is no NaN. -/
def lstep (most : Bool) (o x : Nat) : Nat := if fnan o || (!most && fo x o == some .lt) || (most && fo x o == some .gt) then x else o
def least (most : Bool) : List Nat → Nat
  | [] => 0
  | x :: l => l.foldl (lstep most) x

set_option maxHeartbeats 1000000 in
theorem least_any (a : Option Addr) (cap : Nat) (x : Nat) (l : List Nat) (most : Bool) (w : World) (h : Sl fenc1 w (.slice a (l.length + 1) cap) (x :: l)) : Calls Try.prog 42 #[.slice a (l.length + 1) cap, .bool most] w fun e w' => e = .returned (.float .f64 (least most (x :: l))) ∧ w = w' := by
  obtain ⟨a', cap', e, ⟨hle, hcap⟩, hc⟩ := h.floats
  simp only [List.length_cons, Value.slice.injEq, true_and] at e hle
  obtain ⟨rfl, rfl⟩ := e
  obtain ⟨b, off, rfl, hcell⟩ := hc 0 (by simp)
  have h0 : w.cell? ⟨b, off, none⟩ = some (.float .f64 x) := hcell 0 (by simp)
  have HC := Lib.hid hcell
  clear hcell hc h
  by_cases h1 : cap = 1
  · subst h1
    obtain rfl : l = [] := List.eq_nil_of_length_eq_zero (by omega)
    go_enter Try.func42, Try.ntmps42
    go_wp2_with fail
    refine wp_loop_rounds 1 ?_
    rw [rounds_succ]
    go_wp2_with fail
    go_ret
    exact ⟨rfl, rfl⟩
  · have h2 : 2 ≤ cap := by omega
    clear h1
    obtain ⟨mo, hmo⟩ : ∃ mo : Bool, mo = most := ⟨_, rfl⟩
    have HMO := Lib.hid hmo
    clear hmo
    cases most
    all_goals
      go_enter Try.func42, Try.ntmps42
      go_wp2_with fail
      go_loop [5, 14] (fun o i => ∃ (k p : Nat), k ≤ l.length ∧ i = .int .i64 k ∧ o = .float .f64 p ∧ p = (l.take k).foldl (lstep mo) x) (fun _ i => l.length - (intOf i).toNat)
      case atStart => exact ⟨0, x, Nat.zero_le _, rfl, rfl, rfl⟩
      case round =>
        obtain ⟨k, p, hk, rfl, rfl, hp⟩ := hrel
        have HP := Lib.hid hp
        clear hp
        by_cases hlt : k < l.length
        · have hc0 : w.cell? ⟨b, off + 1 + k, none⟩ = some (.float .f64 l[k]) := by
            have := HC.out (k + 1) (by simp; omega)
            rw [fx_at (by simp; omega)] at this
            rw [show off + 1 + k = off + (k + 1) by omega]
            exact this
          obtain ⟨y, hy⟩ : ∃ y, y = l[k] := ⟨_, rfl⟩
          rw [← hy] at hc0
          have HY := Lib.hid hy
          clear hy
          go_wp2_with fail
          all_goals
            go_round
            case rel =>
              refine ⟨k + 1, _, by omega, by go_num, rfl, ?_⟩
              rw [foldl_snoc _ _ _ _ hlt, ← HP.out, ← HY.out, HMO.out]
              go_light
              unfold lstep fnan fo
              simp_all
            case measure => simp [intOf]; omega
        · obtain rfl : k = l.length := by omega
          go_wp2_with fail
          go_ret
          refine ⟨ret_f ?_, rfl⟩
          rw [HP.out, List.take_length, HMO.out]; rfl
end Go.Proofs.Ytidmbjgnkodiiaa
