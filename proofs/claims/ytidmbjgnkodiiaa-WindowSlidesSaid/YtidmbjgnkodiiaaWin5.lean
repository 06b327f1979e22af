/- Contracts of the counts of changes and resets. -/
import Derived.Test.YtidmbjgnkodiiaaWin4
namespace Go.Proofs.Ytidmbjgnkodiiaa
open Go.RowKit
set_option linter.unusedVariables false
set_option linter.unusedSimpArgs false

/-- How many pairs of neighbours f says yes to. -/
def cnt (f : Nat → Nat → Bool) : List Nat → Nat
  | x :: y :: l => (if f x y then 1 else 0) + cnt f (y :: l)
  | _ => 0
theorem cnt_snoc (f : Nat → Nat → Bool) (x : Nat) (l : List Nat) (k : Nat) (h : k < l.length) : cnt f ((x :: l).take (k + 2)) = cnt f ((x :: l).take (k + 1)) + if f ((x :: l)[k]'(by simp; omega)) l[k] then 1 else 0 := by
  induction l generalizing x k with
  | nil => simp at h
  | cons y l ih =>
    cases k with
    | zero => simp [cnt]
    | succ k =>
      have := ih y k (by simpa using h)
      simp only [List.take_succ_cons, cnt, List.getElem_cons_succ] at this ⊢
      rw [this]; omega
theorem cnt_le (f : Nat → Nat → Bool) (l : List Nat) : cnt f l ≤ l.length := by
  induction l with
  | nil => simp [cnt]
  | cons x l ih =>
    cases l with
    | nil => simp [cnt]
    | cons y l => simp only [cnt, List.length_cons] at ih ⊢; split <;> omega
def says1 (a b : Nat) : Bool := !fsame a b
def says2 (a b : Nat) : Bool := fo b a == some .lt

theorem says1_any (a b : Nat) (w : World) : Calls Try.prog 45 #[.float .f64 a, .float .f64 b] w fun e w' => e = .returned (.bool (says1 a b)) ∧ w = w' := by
  go_enter Try.func45, Try.ntmps45
  go_wp2_with (go_at_call 26; refine (same_any _ _ _).mono ?_; rintro e w' ⟨rfl, rfl⟩)
  go_ret
  exact ⟨rfl, rfl⟩
theorem says2_any (a b : Nat) (w : World) : Calls Try.prog 46 #[.float .f64 a, .float .f64 b] w fun e w' => e = .returned (.bool (says2 a b)) ∧ w = w' := by
  go_enter Try.func46, Try.ntmps46
  go_wp2
  go_ret
  exact ⟨rfl, rfl⟩

set_option maxRecDepth 100000 in
set_option maxHeartbeats 2000000 in
theorem count_any (g : Nat) (f : Nat → Nat → Bool) (hf : ∀ (a b : Nat) (w : World), Calls Try.prog g #[.float .f64 a, .float .f64 b] w fun e w' => e = .returned (.bool (f a b)) ∧ w = w')
    (hcf : ∀ (args : Array Value) (w : World), (callFunc g args).run Try.prog w = .ok (.enter g args) w)
    (a : Option Addr) (cap : Nat) (x : Nat) (l : List Nat) (w : World) (h : Sl fenc1 w (.slice a (l.length + 1) cap) (x :: l)) (hl : l.length ≤ 1000000) :
    Calls Try.prog 44 #[.slice a (l.length + 1) cap, .func (.func g) #[] #[]] w fun e w' => e = .returned (.float .f64 (fenc (cnt f (x :: l)))) ∧ w = w' := by
  obtain ⟨a', cap', e, ⟨hle, hcap⟩, hc⟩ := h.floats
  simp only [List.length_cons, Value.slice.injEq, true_and] at e hle
  obtain ⟨rfl, rfl⟩ := e
  obtain ⟨b, off, rfl, hcell⟩ := hc 0 (by simp)
  have HC := Lib.hid hcell
  have HF := Lib.hid hf
  clear hcell hc h hf
  by_cases h1 : cap = 1
  · subst h1
    obtain rfl : l = [] := List.eq_nil_of_length_eq_zero (by omega)
    go_enter Try.func44, Try.ntmps44
    go_wp2_with fail
    refine wp_loop_rounds 1 ?_
    rw [rounds_succ]
    go_wp2_with fail
    go_ret
    exact ⟨rfl, rfl⟩
  · have h2 : 2 ≤ cap := by omega
    clear h1
    go_enter Try.func44, Try.ntmps44
    go_wp2_with fail
    go_loop [5, 11] (fun n i => ∃ (k m : Nat), k ≤ l.length ∧ i = .int .i64 k ∧ n = .int .i64 m ∧ m ≤ k ∧ m = cnt f ((x :: l).take (k + 1))) (fun _ i => l.length - (intOf i).toNat)
    case atStart => exact ⟨0, 0, Nat.zero_le _, rfl, rfl, Nat.le_refl _, by simp [cnt]⟩
    case round =>
      obtain ⟨k, m, hk, rfl, rfl, hmk, hm⟩ := hrel
      have HM := Lib.hid hm
      clear hm
      by_cases hlt : k < l.length
      · have hc0 : w.cell? ⟨b, off + 1 + k, none⟩ = some (.float .f64 l[k]) := by
          have := HC.out (k + 1) (by simp; omega)
          rw [fx_at (by simp; omega)] at this
          rw [show off + 1 + k = off + (k + 1) by omega]
          exact this
        have hc1 : w.cell? ⟨b, off + k, none⟩ = some (.float .f64 ((x :: l)[k]'(by simp; omega))) := by
          have := HC.out k (by simp; omega)
          rw [fx_at (by simp; omega)] at this
          exact this
        have hr := cnt_snoc f x l k hlt
        obtain ⟨y, hy⟩ : ∃ y, y = l[k] := ⟨_, rfl⟩
        obtain ⟨p, hp⟩ : ∃ p, p = (x :: l)[k]'(by simp; omega) := ⟨_, rfl⟩
        rw [← hy] at hc0
        rw [← hp] at hc1
        rw [← hy, ← hp] at hr
        have HR := Lib.hid hr
        clear hy hp hr
        go_wp2_with fail
        refine (HF.out _ _ _).mono ?_
        cases hfb : f p y
        · have HFB := Lib.hid hfb
          clear hfb
          rintro e w' ⟨rfl, rfl⟩
          go_wp2_with fail
          go_round
          case rel => exact ⟨k + 1, m, by omega, by go_num, rfl, by omega, by rw [HR.out, HFB.out, ← HM.out]; simp⟩
          case measure => simp [intOf]; omega
        · have HFB := Lib.hid hfb
          clear hfb
          rintro e w' ⟨rfl, rfl⟩
          go_wp2_with fail
          go_round
          case rel => exact ⟨k + 1, m + 1, by omega, by go_num, by go_num, by omega, by rw [HR.out, HFB.out, ← HM.out]; simp⟩
          case measure => simp [intOf]; omega
      · obtain rfl : k = l.length := by omega
        go_wp2_with fail
        go_ret
        refine ⟨ret_f ?_, rfl⟩
        rw [HM.out, List.take_of_length_le (by simp)]; rfl

theorem enter1 (args : Array Value) (w : World) : (callFunc 45 args).run Try.prog w = .ok (.enter 45 args) w := by
  simp [go_sem, Try.func45]
theorem enter2 (args : Array Value) (w : World) : (callFunc 46 args).run Try.prog w = .ok (.enter 46 args) w := by
  simp [go_sem, Try.func46]

theorem rbits_any (b : Nat) (w : World) : Calls Try.prog 9 #[.float .f64 b] w fun e w' => e = .returned (.int .u64 (canon b)) ∧ w = w' := by
  have hf := call_bits
  go_enter Try.func9, Try.ntmps9
  go_wp2_with (go_at_call 23; refine (rcanon_any _ _).mono ?_; rintro e w' ⟨rfl, rfl⟩)
  go_ret
  exact ⟨rfl, rfl⟩
theorem rsame_any (a b : Nat) (w : World) : Calls Try.prog 11 #[.float .f64 a, .float .f64 b] w fun e w' => e = .returned (.bool (fsame a b)) ∧ w = w' := by
  go_enter Try.func11, Try.ntmps11
  go_wp2_with (go_at_call 9; refine (rbits_any _ _).mono ?_; rintro e w' ⟨rfl, rfl⟩)
  go_ret
  refine ⟨?_, rfl⟩
  unfold fsame
  rw [← natbeq]
  rfl

def rsays (below : Bool) (a b : Nat) : Bool := if below then fo b a == some .lt else !fsame b a
set_option maxRecDepth 100000 in
set_option maxHeartbeats 2000000 in
theorem changes_any (below : Bool) (a : Option Addr) (cap : Nat) (x : Nat) (l : List Nat) (w : World) (h : Sl fenc1 w (.slice a (l.length + 1) cap) (x :: l)) (hl : l.length ≤ 1000000) :
    Calls Try.prog 37 #[.slice a (l.length + 1) cap, .bool below] w fun e w' => e = .returned (.float .f64 (fenc (cnt (rsays below) (x :: l)))) ∧ ∃ n, w' = w.drewN n := by
  obtain ⟨a', cap', e, ⟨hle, hcap⟩, hc⟩ := h.floats
  simp only [List.length_cons, Value.slice.injEq, true_and] at e hle
  obtain ⟨rfl, rfl⟩ := e
  obtain ⟨b, off, rfl, hcell⟩ := hc 0 (by simp)
  have HC := Lib.hid hcell
  clear hcell hc h
  obtain ⟨bl, hbl⟩ : ∃ bl : Bool, bl = below := ⟨_, rfl⟩
  have HBL := Lib.hid hbl
  clear hbl
  cases below
  · go_enter Try.func37, Try.ntmps37
    go_wp2_with fail
    go_loopw [5, 6] (fun n i wr => ∃ (k m : Nat), k ≤ l.length ∧ i = .int .i64 ((k : Int) + 1) ∧ n = .int .i64 m ∧ m ≤ k ∧ m = cnt (rsays bl) ((x :: l).take (k + 1)) ∧ ∃ q, wr = w.drewN q) (fun _ i _ => l.length + 1 - (intOf i).toNat)
    case atStart => exact ⟨0, 0, Nat.zero_le _, rfl, rfl, Nat.le_refl _, by simp [cnt], 0, rfl⟩
    case round =>
      obtain ⟨k, m, hk, rfl, rfl, hmk, hm, q, rfl⟩ := hrel
      have HM := Lib.hid hm
      clear hm
      by_cases hlt : k < l.length
      · have hc0 : w.cell? ⟨b, off + (k + 1), none⟩ = some (.float .f64 l[k]) := by
          have := HC.out (k + 1) (by simp; omega)
          rw [fx_at (by simp; omega)] at this
          exact this
        have hc1 : w.cell? ⟨b, off + k, none⟩ = some (.float .f64 ((x :: l)[k]'(by simp; omega))) := by
          have := HC.out k (by simp; omega)
          rw [fx_at (by simp; omega)] at this
          exact this
        have hr := cnt_snoc (rsays bl) x l k hlt
        obtain ⟨y, hy⟩ : ∃ y, y = l[k] := ⟨_, rfl⟩
        obtain ⟨p, hp⟩ : ∃ p, p = (x :: l)[k]'(by simp; omega) := ⟨_, rfl⟩
        rw [← hy] at hc0
        rw [← hp] at hc1
        rw [← hy, ← hp] at hr
        have HR := Lib.hid hr
        clear hy hp hr
        have hk1 : (k : Int) + 1 < (l.length : Int) + 1 := by omega
        have hk2 : (0 : Int) ≤ (k : Int) + 1 := by omega
        have hk3 : (k : Int) < (l.length : Int) + 1 := by omega
        have hk4 : IntKind.i64.wrap (k : Int) = (k : Int) := IntWalk.i64_in _ (by omega)
        have hrs : rsays bl p y = if bl then FloatKind.f64.format.order y p == some .lt else !fsame y p := rfl
        have HRS := Lib.hid hrs
        clear hrs
        have hsm := fun w => rsame_any y p w
        cases e1 : fsame y p
        all_goals
          rw [e1] at hsm
          have HE := Lib.hid e1
          have HS := Lib.hid hsm
          clear e1 hsm
          go_wp2_with fail
          go_quiet ((go_at_call 11; refine qs (HS.out _)))
          go_wp2_with fail
          go_roundw
          case rel => first
            | exact ⟨k + 1, m, by omega, by go_num, rfl, by omega, (by rw [HR.out, ← HM.out, HRS.out, HBL.out, HE.out]; simp), _, rfl⟩
            | exact ⟨k + 1, m + 1, by omega, by go_num, by go_num, by omega, (by rw [HR.out, ← HM.out, HRS.out, HBL.out, HE.out]; simp), _, rfl⟩
          case measure => simp [intOf]; omega
      · obtain rfl : k = l.length := by omega
        go_wp2_with fail
        go_ret
        refine ⟨ret_f ?_, _, rfl⟩
        rw [HM.out, HBL.out, List.take_of_length_le (by simp)]; rfl
  · go_enter Try.func37, Try.ntmps37
    go_wp2_with fail
    go_loopw [5, 6] (fun n i wr => ∃ (k m : Nat), k ≤ l.length ∧ i = .int .i64 ((k : Int) + 1) ∧ n = .int .i64 m ∧ m ≤ k ∧ m = cnt (rsays bl) ((x :: l).take (k + 1)) ∧ ∃ q, wr = w.drewN q) (fun _ i _ => l.length + 1 - (intOf i).toNat)
    case atStart => exact ⟨0, 0, Nat.zero_le _, rfl, rfl, Nat.le_refl _, by simp [cnt], 0, rfl⟩
    case round =>
      obtain ⟨k, m, hk, rfl, rfl, hmk, hm, q, rfl⟩ := hrel
      have HM := Lib.hid hm
      clear hm
      by_cases hlt : k < l.length
      · have hc0 : w.cell? ⟨b, off + (k + 1), none⟩ = some (.float .f64 l[k]) := by
          have := HC.out (k + 1) (by simp; omega)
          rw [fx_at (by simp; omega)] at this
          exact this
        have hc1 : w.cell? ⟨b, off + k, none⟩ = some (.float .f64 ((x :: l)[k]'(by simp; omega))) := by
          have := HC.out k (by simp; omega)
          rw [fx_at (by simp; omega)] at this
          exact this
        have hr := cnt_snoc (rsays bl) x l k hlt
        obtain ⟨y, hy⟩ : ∃ y, y = l[k] := ⟨_, rfl⟩
        obtain ⟨p, hp⟩ : ∃ p, p = (x :: l)[k]'(by simp; omega) := ⟨_, rfl⟩
        rw [← hy] at hc0
        rw [← hp] at hc1
        rw [← hy, ← hp] at hr
        have HR := Lib.hid hr
        clear hy hp hr
        have hk1 : (k : Int) + 1 < (l.length : Int) + 1 := by omega
        have hk2 : (0 : Int) ≤ (k : Int) + 1 := by omega
        have hk3 : (k : Int) < (l.length : Int) + 1 := by omega
        have hk4 : IntKind.i64.wrap (k : Int) = (k : Int) := IntWalk.i64_in _ (by omega)
        have hrs : rsays bl p y = if bl then FloatKind.f64.format.order y p == some .lt else !fsame y p := rfl
        have HRS := Lib.hid hrs
        clear hrs
        cases e1 : (FloatKind.f64.format.order y p == some .lt)
        all_goals
          go_wp2_with fail
          go_quiet (fail)
          go_wp2_with fail
          have HE := Lib.hid e1
          clear e1
          go_roundw
          case rel => first
            | exact ⟨k + 1, m, by omega, by go_num, rfl, by omega, (by rw [HR.out, ← HM.out, HRS.out, HBL.out, HE.out]; simp), _, rfl⟩
            | exact ⟨k + 1, m + 1, by omega, by go_num, by go_num, by omega, (by rw [HR.out, ← HM.out, HRS.out, HBL.out, HE.out]; simp), _, rfl⟩
          case measure => simp [intOf]; omega
      · obtain rfl : k = l.length := by omega
        go_wp2_with fail
        go_ret
        refine ⟨ret_f ?_, _, rfl⟩
        rw [HM.out, HBL.out, List.take_of_length_le (by simp)]; rfl
end Go.Proofs.Ytidmbjgnkodiiaa
