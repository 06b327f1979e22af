/- Contracts of value (6..10). -/
import Derived.Test.YtidmbjgnkodiiaaWin9
namespace Go.Proofs.Ytidmbjgnkodiiaa
open Go.RowKit
set_option linter.unusedVariables false
set_option linter.unusedSimpArgs false

set_option maxRecDepth 100000 in
set_option maxHeartbeats 2000000 in
theorem value_6 (a : Option Addr) (cap x : Nat) (l : List Nat) (d : Int) (w : World) (b off y : Nat) (h : Row1 w a cap x l b off y) :
    Calls Try.prog 25 #[.int .i64 6, .slice a (l.length + 1) cap, .int .i64 d] w fun e w' => ∃ r, e = .returned (.float .f64 r) ∧ canon r = fnV 6 x l d ∧ Below w.heap.size w w' := by
  have H := Lib.hid h
  obtain ⟨-, -, rfl, ⟨hle, hcap⟩, d0, d1, -, -, -⟩ := h
  go_enter Try.func25, Try.ntmps25
  go_wp2_with fail
  go_ret
  exact ⟨_, rfl, (congrArg canon H.out.hy).trans (fnV_6 _ _ _).symm, Below.refl _ _⟩

set_option maxRecDepth 100000 in
set_option maxHeartbeats 2000000 in
theorem value_7 (a : Option Addr) (cap x : Nat) (l : List Nat) (d : Int) (w : World) (b off y : Nat) (h : Row1 w a cap x l b off y) :
    Calls Try.prog 25 #[.int .i64 7, .slice a (l.length + 1) cap, .int .i64 d] w fun e w' => ∃ r, e = .returned (.float .f64 r) ∧ canon r = fnV 7 x l d ∧ Below w.heap.size w w' := by
  have H := Lib.hid h
  obtain ⟨-, -, rfl, ⟨hle, hcap⟩, d0, d1, -, -, -⟩ := h
  go_enter Try.func25, Try.ntmps25
  go_wp2_with fail
  go_ret
  exact ⟨_, rfl, (fnV_7 _ _ _).symm, Below.refl _ _⟩

set_option maxRecDepth 100000 in
set_option maxHeartbeats 2000000 in
theorem value_8 (a : Option Addr) (cap x : Nat) (l : List Nat) (d : Int) (w : World) (b off y : Nat) (h : Row1 w a cap x l b off y) :
    Calls Try.prog 25 #[.int .i64 8, .slice a (l.length + 1) cap, .int .i64 d] w fun e w' => ∃ r, e = .returned (.float .f64 r) ∧ canon r = fnV 8 x l d ∧ Below w.heap.size w w' := by
  have H := Lib.hid h
  obtain ⟨-, -, rfl, ⟨hle, hcap⟩, d0, d1, -, -, -⟩ := h
  go_enter Try.func25, Try.ntmps25
  go_wp2_with fail
  refine (incr_any _ _ _ _ _ H.out.sl H.out.hl).mono ?_
  rintro e w1 ⟨rfl, hb⟩
  go_wp2_with fail
  go_ret
  exact ⟨_, rfl, (fnV_8 _ _ _).symm, hb⟩

set_option maxRecDepth 100000 in
set_option maxHeartbeats 2000000 in
theorem value_9 (a : Option Addr) (cap x : Nat) (l : List Nat) (d : Int) (w : World) (b off y : Nat) (h : Row1 w a cap x l b off y) :
    Calls Try.prog 25 #[.int .i64 9, .slice a (l.length + 1) cap, .int .i64 d] w fun e w' => ∃ r, e = .returned (.float .f64 r) ∧ canon r = fnV 9 x l d ∧ Below w.heap.size w w' := by
  have H := Lib.hid h
  obtain ⟨-, -, rfl, ⟨hle, hcap⟩, d0, d1, -, -, -⟩ := h
  go_enter Try.func25, Try.ntmps25
  go_wp2_with fail
  refine (incr_any _ _ _ _ _ H.out.sl H.out.hl).mono ?_
  rintro e w1 ⟨rfl, hb⟩
  go_wp2_with fail
  go_ret
  exact ⟨_, rfl, (canon_fop_r _ _ rfl).trans (fnV_9 _ _ _).symm, below_drewN hb _⟩

set_option maxRecDepth 100000 in
set_option maxHeartbeats 2000000 in
theorem value_10 (a : Option Addr) (cap x : Nat) (l : List Nat) (d : Int) (w : World) (b off y : Nat) (h : Row1 w a cap x l b off y) :
    Calls Try.prog 25 #[.int .i64 10, .slice a (l.length + 1) cap, .int .i64 d] w fun e w' => ∃ r, e = .returned (.float .f64 r) ∧ canon r = fnV 10 x l d ∧ Below w.heap.size w w' := by
  have H := Lib.hid h
  obtain ⟨-, -, rfl, ⟨hle, hcap⟩, d0, d1, -, -, -⟩ := h
  go_enter Try.func25, Try.ntmps25
  go_wp2_with fail
  go_ret
  exact ⟨_, rfl, (canon_fop_eq _ (by rw [H.out.hy])).trans (fnV_10 _ _ _).symm, below_drewN (Below.refl _ _) _⟩
end Go.Proofs.Ytidmbjgnkodiiaa
