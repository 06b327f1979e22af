/- Contracts of value (11..14). -/
import Derived.Test.YtidmbjgnkodiiaaWin9
namespace Go.Proofs.Ytidmbjgnkodiiaa
open Go.RowKit
set_option linter.unusedVariables false
set_option linter.unusedSimpArgs false

set_option maxRecDepth 100000 in
set_option maxHeartbeats 2000000 in
theorem value_11 (a : Option Addr) (cap x : Nat) (l : List Nat) (d : Int) (w : World) (b off y : Nat) (h : Row1 w a cap x l b off y) :
    Calls Try.prog 25 #[.int .i64 11, .slice a (l.length + 1) cap, .int .i64 d] w fun e w' => ∃ r, e = .returned (.float .f64 r) ∧ canon r = fnV 11 x l d ∧ Below w.heap.size w w' := by
  have H := Lib.hid h
  obtain ⟨-, -, rfl, ⟨hle, hcap⟩, d0, d1, -, -, -⟩ := h
  go_enter Try.func25, Try.ntmps25
  go_wp2_with fail
  refine (count_any _ says1 says1_any enter1 _ _ _ _ _ H.out.sl H.out.hl).mono ?_
  rintro e w1 ⟨rfl, rfl⟩
  go_wp2_with fail
  go_ret
  exact ⟨_, rfl, (fnV_11 _ _ _).symm, Below.refl _ _⟩

set_option maxRecDepth 100000 in
set_option maxHeartbeats 2000000 in
theorem value_12 (a : Option Addr) (cap x : Nat) (l : List Nat) (d : Int) (w : World) (b off y : Nat) (h : Row1 w a cap x l b off y) :
    Calls Try.prog 25 #[.int .i64 12, .slice a (l.length + 1) cap, .int .i64 d] w fun e w' => ∃ r, e = .returned (.float .f64 r) ∧ canon r = fnV 12 x l d ∧ Below w.heap.size w w' := by
  have H := Lib.hid h
  obtain ⟨-, -, rfl, ⟨hle, hcap⟩, d0, d1, -, -, -⟩ := h
  go_enter Try.func25, Try.ntmps25
  go_wp2_with fail
  refine (count_any _ says2 says2_any enter2 _ _ _ _ _ H.out.sl H.out.hl).mono ?_
  rintro e w1 ⟨rfl, rfl⟩
  go_wp2_with fail
  go_ret
  exact ⟨_, rfl, (fnV_12 _ _ _).symm, Below.refl _ _⟩

set_option maxRecDepth 100000 in
set_option maxHeartbeats 2000000 in
theorem value_13 (a : Option Addr) (cap x : Nat) (l : List Nat) (d : Int) (w : World) (b off y : Nat) (h : Row1 w a cap x l b off y) :
    Calls Try.prog 25 #[.int .i64 13, .slice a (l.length + 1) cap, .int .i64 d] w fun e w' => ∃ r, e = .returned (.float .f64 r) ∧ canon r = fnV 13 x l d ∧ Below w.heap.size w w' := by
  have H := Lib.hid h
  obtain ⟨-, -, rfl, ⟨hle, hcap⟩, d0, d1, -, -, -⟩ := h
  go_enter Try.func25, Try.ntmps25
  go_wp2_with fail
  refine (H.out.ws _ H.out.fr).mono ?_
  rintro e w1 ⟨rfl, n, rfl⟩
  go_wp2_with fail
  refine (mag_any _ _ _).mono ?_
  rintro e w1 ⟨rfl, n2, rfl⟩
  go_wp2_with fail
  go_ret
  exact ⟨_, rfl, (fnV_13 _ _ _).symm, below_drewN (Below.refl _ _) _⟩

set_option maxRecDepth 100000 in
set_option maxHeartbeats 2000000 in
theorem value_14 (a : Option Addr) (cap x : Nat) (l : List Nat) (d : Int) (w : World) (b off y : Nat) (h : Row1 w a cap x l b off y) :
    Calls Try.prog 25 #[.int .i64 14, .slice a (l.length + 1) cap, .int .i64 d] w fun e w' => ∃ r, e = .returned (.float .f64 r) ∧ canon r = fnV 14 x l d ∧ Below w.heap.size w w' := by
  have H := Lib.hid h
  obtain ⟨-, -, rfl, ⟨hle, hcap⟩, d0, d1, -, -, -⟩ := h
  go_enter Try.func25, Try.ntmps25
  go_wp2_with fail
  refine (H.out.ws _ H.out.fr).mono ?_
  rintro e w1 ⟨rfl, n, rfl⟩
  go_wp2_with fail
  refine (wquarter_any _ _ _).mono ?_
  rintro e w1 ⟨rfl, rfl⟩
  go_wp2_with fail
  go_ret
  exact ⟨_, rfl, (fnV_14 _ _ _).symm, below_drewN (Below.refl _ _) _⟩
end Go.Proofs.Ytidmbjgnkodiiaa
