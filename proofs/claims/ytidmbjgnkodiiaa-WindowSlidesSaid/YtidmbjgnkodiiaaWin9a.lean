/- Contracts of value (1..5). -/
import Derived.Test.YtidmbjgnkodiiaaWin9
namespace Go.Proofs.Ytidmbjgnkodiiaa
open Go.RowKit
set_option linter.unusedVariables false
set_option linter.unusedSimpArgs false

set_option maxRecDepth 100000 in
set_option maxHeartbeats 2000000 in
theorem value_1 (a : Option Addr) (cap x : Nat) (l : List Nat) (d : Int) (w : World) (b off y : Nat) (h : Row1 w a cap x l b off y) :
    Calls Try.prog 25 #[.int .i64 1, .slice a (l.length + 1) cap, .int .i64 d] w fun e w' => ∃ r, e = .returned (.float .f64 r) ∧ canon r = fnV 1 x l d ∧ Below w.heap.size w w' := by
  have H := Lib.hid h
  obtain ⟨-, -, rfl, ⟨hle, hcap⟩, d0, d1, -, -, -⟩ := h
  go_enter Try.func25, Try.ntmps25
  go_wp2_with fail
  go_ret
  exact ⟨_, rfl, (fnV_1 _ _ _).symm, Below.refl _ _⟩

set_option maxRecDepth 100000 in
set_option maxHeartbeats 2000000 in
theorem value_2 (a : Option Addr) (cap x : Nat) (l : List Nat) (d : Int) (w : World) (b off y : Nat) (h : Row1 w a cap x l b off y) :
    Calls Try.prog 25 #[.int .i64 2, .slice a (l.length + 1) cap, .int .i64 d] w fun e w' => ∃ r, e = .returned (.float .f64 r) ∧ canon r = fnV 2 x l d ∧ Below w.heap.size w w' := by
  have H := Lib.hid h
  obtain ⟨-, -, rfl, ⟨hle, hcap⟩, d0, d1, -, -, -⟩ := h
  go_enter Try.func25, Try.ntmps25
  go_wp2_with fail
  refine (fsum_any _ _ _ H.out.sl).mono ?_
  rintro e w1 ⟨rfl, n, rfl⟩
  go_wp2_with fail
  go_ret
  exact ⟨_, rfl, (fnV_2 _ _ _).symm, below_drewN (Below.refl _ _) _⟩

set_option maxRecDepth 100000 in
set_option maxHeartbeats 2000000 in
theorem value_3 (a : Option Addr) (cap x : Nat) (l : List Nat) (d : Int) (w : World) (b off y : Nat) (h : Row1 w a cap x l b off y) :
    Calls Try.prog 25 #[.int .i64 3, .slice a (l.length + 1) cap, .int .i64 d] w fun e w' => ∃ r, e = .returned (.float .f64 r) ∧ canon r = fnV 3 x l d ∧ Below w.heap.size w w' := by
  have H := Lib.hid h
  obtain ⟨-, -, rfl, ⟨hle, hcap⟩, d0, d1, -, -, -⟩ := h
  go_enter Try.func25, Try.ntmps25
  go_wp2_with fail
  refine (fsum_any _ _ _ H.out.sl).mono ?_
  rintro e w1 ⟨rfl, n, rfl⟩
  go_wp2_with fail
  go_ret
  exact ⟨_, rfl, (canon_fop_eq _ rfl).trans (fnV_3 _ _ _).symm, below_drewN (Below.refl _ _) _⟩

set_option maxRecDepth 100000 in
set_option maxHeartbeats 2000000 in
theorem value_4 (a : Option Addr) (cap x : Nat) (l : List Nat) (d : Int) (w : World) (b off y : Nat) (h : Row1 w a cap x l b off y) :
    Calls Try.prog 25 #[.int .i64 4, .slice a (l.length + 1) cap, .int .i64 d] w fun e w' => ∃ r, e = .returned (.float .f64 r) ∧ canon r = fnV 4 x l d ∧ Below w.heap.size w w' := by
  have H := Lib.hid h
  obtain ⟨-, -, rfl, ⟨hle, hcap⟩, d0, d1, -, -, -⟩ := h
  go_enter Try.func25, Try.ntmps25
  go_wp2_with fail
  refine (least_any _ _ _ _ _ _ H.out.sl).mono ?_
  rintro e w1 ⟨rfl, rfl⟩
  go_wp2_with fail
  go_ret
  exact ⟨_, rfl, (fnV_4 _ _ _).symm, Below.refl _ _⟩

set_option maxRecDepth 100000 in
set_option maxHeartbeats 2000000 in
theorem value_5 (a : Option Addr) (cap x : Nat) (l : List Nat) (d : Int) (w : World) (b off y : Nat) (h : Row1 w a cap x l b off y) :
    Calls Try.prog 25 #[.int .i64 5, .slice a (l.length + 1) cap, .int .i64 d] w fun e w' => ∃ r, e = .returned (.float .f64 r) ∧ canon r = fnV 5 x l d ∧ Below w.heap.size w w' := by
  have H := Lib.hid h
  obtain ⟨-, -, rfl, ⟨hle, hcap⟩, d0, d1, -, -, -⟩ := h
  go_enter Try.func25, Try.ntmps25
  go_wp2_with fail
  refine (least_any _ _ _ _ _ _ H.out.sl).mono ?_
  rintro e w1 ⟨rfl, rfl⟩
  go_wp2_with fail
  go_ret
  exact ⟨_, rfl, (fnV_5 _ _ _).symm, Below.refl _ _⟩
end Go.Proofs.Ytidmbjgnkodiiaa
