/- Contracts of Equal (bools) and Same (columns): what is the same is told so. -/
import Derived.Test.YtidmbjgnkodiiaaWin6
import Derived.Test.YtidmbjgnkodiiaaCost
import Derived.Deep.RegionLaw
import Derived.BigQuiet
namespace Go.Proofs.Ytidmbjgnkodiiaa
open Go.RowKit
set_option linter.unusedVariables false
set_option linter.unusedSimpArgs false

theorem Sl.bools {w : World} {v : Value} {xs : List Bool} (h : Sl benc1 w v xs) : ∃ a cap, v = .slice a xs.length cap ∧ (xs.length ≤ cap ∧ cap ≤ 9223372036854775807) ∧
    ∀ k, k < xs.length → ∃ b off, a = some ⟨b, off, none⟩ ∧ ∀ j (hj : j < xs.length), w.cell? ⟨b, off + j, none⟩ = some (.bool xs[j]) := by
  obtain ⟨a, cap, rfl, hm, hn, hc⟩ := h
  refine ⟨a, cap, rfl, hm, fun k hk => ?_⟩
  obtain ⟨b, off, rfl, hd⟩ := hc (by intro e; simp [e] at hk)
  refine ⟨b, off, rfl, fun j hj => hd j _ ?_⟩
  have : xs.flatMap benc1 = xs.map Value.bool := by
    clear hd hc hm hn hk hj
    induction xs with
    | nil => rfl
    | cons x xs ih => rw [List.flatMap_cons, ih]; rfl
  rw [this]; simp [hj]

set_option maxHeartbeats 1000000 in
theorem equal_bools (va vb : Value) (ps : List Bool) (w : World) (h1 : Sl benc1 w va ps) (h2 : Sl benc1 w vb ps) :
    Calls Try.prog 27 #[va, vb] w fun e w' => e = .returned (.bool true) ∧ Below w.heap.size w w' := by
  obtain ⟨a, cap, rfl, ⟨hle, hcap⟩, hc⟩ := h1.bools
  obtain ⟨a2, cap2, rfl, ⟨hle2, hcap2⟩, hc2⟩ := h2.bools
  have HC := Lib.hid hc
  have HC2 := Lib.hid hc2
  clear hc hc2 h1 h2
  go_enter Try.func27, Try.ntmps27
  go_wp2_with fail
  go_loopw [13] (fun i wr => ∃ k : Nat, k ≤ ps.length ∧ i = .int .i64 k ∧ Below w.heap.size w wr) (fun i _ => ps.length - (intOf i).toNat)
  case atStart => exact ⟨0, Nat.zero_le _, rfl, Below.refl _ _⟩
  case round =>
    obtain ⟨k, hk, rfl, hb⟩ := hrel
    have HB := Lib.hid hb
    by_cases hlt : k < ps.length
    · obtain ⟨b, off, rfl, hcc⟩ := HC.out k hlt
      obtain ⟨b2, off2, rfl, hcc2⟩ := HC2.out k hlt
      obtain ⟨x, hx⟩ : ∃ x, x = ps[k] := ⟨_, rfl⟩
      have k0 : wr.cell? ⟨b, off + k, none⟩ = some (.bool x) := by rw [hx]; exact cell_below hb (Nat.le_refl _) (hcc k hlt)
      have k1 : wr.cell? ⟨b2, off2 + k, none⟩ = some (.bool x) := by rw [hx]; exact cell_below hb (Nat.le_refl _) (hcc2 k hlt)
      clear hcc hcc2 hx hb
      have hk0 : (0 : Int) ≤ (k : Int) := Int.natCast_nonneg _
      have hk1 : (k : Int) < (ps.length : Int) := by omega
      go_wp2_with fail
      go_quiet (fail)
      go_wp2_with fail
      go_roundw
      case rel => exact ⟨k + 1, by omega, by go_num, below_drewN HB.out _⟩
      case measure => simp [intOf]; omega
    · obtain rfl : k = ps.length := by omega
      go_wp2_with fail
      go_ret
      exact ⟨rfl, hb⟩

set_option maxHeartbeats 2000000 in
theorem same_cols (va vb ha hb : Value) (xs ys : List Nat) (ps : List Bool) (w : World) (h1 : Sl fenc1 w va xs) (h2 : Sl fenc1 w vb ys) (h3 : Sl benc1 w ha ps) (h4 : Sl benc1 w hb ps) (hxy : xs.map canon = ys.map canon) :
    Calls Try.prog 12 #[.agg #[va, ha], .agg #[vb, hb]] w fun e w' => e = .returned (.bool true) ∧ Below w.heap.size w w' := by
  have hlen : xs.length = ys.length := by have := congrArg List.length hxy; simpa using this
  obtain ⟨a, cap, rfl, ⟨hle, hcap⟩, hc⟩ := h1.floats
  obtain ⟨a2, cap2, rfl, ⟨hle2, hcap2⟩, hc2⟩ := h2.floats
  have H3 := Lib.hid h3
  have H4 := Lib.hid h4
  obtain ⟨a3, cap3, rfl, -, -⟩ := h3.bools
  obtain ⟨a4, cap4, rfl, -, -⟩ := h4.bools
  have hsm : ∀ k, k < xs.length → fsame (fx xs k) (fx ys k) = true := by
    intro k hk
    have e := congrArg (fun l => l[k]?) hxy
    rw [fx_at hk, fx_at (by omega)]
    simp [hk, hlen ▸ hk] at e
    simp [fsame, e]
  have HSM := Lib.hid hsm
  rw [← hlen] at hle2 hc2 ⊢
  have HC := Lib.hid hc
  have HC2 := Lib.hid hc2
  clear hc hc2 h1 h2 h3 h4 hsm hxy hlen
  go_enter Try.func12, Try.ntmps12
  go_wp2_with fail
  obtain ⟨w0, hw0⟩ : ∃ w0, w0 = (w.alloc (.cells #[.slice a xs.length cap, .slice a3 ps.length cap3] 30)).alloc (.cells #[.slice a2 xs.length cap2, .slice a4 ps.length cap4] 30) := ⟨_, rfl⟩
  have hb0 : Below w.heap.size w w0 := by rw [hw0]; exact ((Below.refl _ _).alloc (Nat.le_refl _) _).alloc (by simp) _
  have p1 : w0.cell? ⟨w.heap.size, 1, none⟩ = some (.slice a3 ps.length cap3) := by rw [hw0, World.cell?_alloc_past _ _ _ (by simp)]; exact World.cell?_alloc_at _ _ _ _ rfl
  have q0 : w0.cell? ⟨w.heap.size + 1, 0, none⟩ = some (.slice a2 xs.length cap2) := by rw [hw0]; exact World.cell?_alloc_at _ _ _ _ (by simp)
  have q1 : w0.cell? ⟨w.heap.size + 1, 1, none⟩ = some (.slice a4 ps.length cap4) := by rw [hw0]; exact World.cell?_alloc_at _ _ _ _ (by simp)
  rw [← hw0]
  have HB0 := Lib.hid hb0
  clear hw0 hb0
  go_loopw [26] (fun i wr => ∃ k : Nat, k ≤ xs.length ∧ i = .int .i64 k ∧ wr = w0) (fun i _ => xs.length - (intOf i).toNat)
  case atStart => exact ⟨0, Nat.zero_le _, rfl, rfl⟩
  case round =>
    obtain ⟨k, hk, rfl, rfl⟩ := hrel
    by_cases hlt : k < xs.length
    · obtain ⟨b, off, rfl, hcc⟩ := HC.out k hlt
      obtain ⟨b2, off2, rfl, hcc2⟩ := HC2.out k hlt
      have hs := HSM.out k hlt
      have k0 : wr.cell? ⟨b, off + k, none⟩ = some (.float .f64 (fx xs k)) := cell_below HB0.out (Nat.le_refl _) (hcc k hlt)
      have k1 : wr.cell? ⟨b2, off2 + k, none⟩ = some (.float .f64 (fx ys k)) := cell_below HB0.out (Nat.le_refl _) (hcc2 k hlt)
      obtain ⟨x, hx⟩ : ∃ x, x = fx xs k := ⟨_, rfl⟩
      obtain ⟨y, hy⟩ : ∃ y, y = fx ys k := ⟨_, rfl⟩
      rw [← hx, ← hy] at hs
      rw [← hx] at k0
      rw [← hy] at k1
      have hsame := same_any x y wr
      rw [hs] at hsame
      have HS := Lib.hid hsame
      clear hcc hcc2 hs hx hy hsame
      have hk0 : (0 : Int) ≤ (k : Int) := Int.natCast_nonneg _
      have hk1 : (k : Int) < (xs.length : Int) := by omega
      go_wp2_with fail
      refine HS.out.mono ?_
      rintro e w2 ⟨rfl, rfl⟩
      go_wp2_with fail
      go_roundw
      case rel => exact ⟨k + 1, by omega, by go_num, by trivial⟩
      case measure => simp [intOf]; omega
    · obtain rfl : k = xs.length := by omega
      go_wp2_with fail
      refine (equal_bools _ _ ps _ (H3.out.below HB0.out (Nat.le_refl _)) (H4.out.below HB0.out (Nat.le_refl _))).mono ?_
      rintro e w2 ⟨rfl, hb2⟩
      go_wp2_with fail
      go_ret
      exact ⟨rfl, HB0.out.trans (hb2.mono HB0.out.size)⟩
end Go.Proofs.Ytidmbjgnkodiiaa
