/- The walk of WaveSums. -/
import Derived.Test.YtdhahnagnemgaaaWlaw
import Derived.Test.YtdhahnagnemgaaaOpen
namespace Go.Proofs.Ytdhahnagnemgaaa
open Go.RowKit
set_option linter.unusedVariables false
set_option linter.unusedSimpArgs false

theorem join0 (cap : Nat) (a : Option Addr) (w : World) : Calls Try.prog 31 #[.slice a 0 cap] w fun e w' => e = .returned (.complex .f64 0 0) ∧ w = w' := by
  go_enter Try.func31, Try.ntmps31
  go_wp2
  go_ret
  exact ⟨rfl, rfl⟩

theorem join1 (b off r i : Nat) (w : World) (h : w.cell? ⟨b, off, none⟩ = some (.complex .f64 r i)) : Calls Try.prog 31 #[.slice (some ⟨b, off, none⟩) 1 1] w fun e w' => e = .returned (.complex .f64 (canon r) (canon i)) ∧ w = w' := by
  go_enter Try.func31, Try.ntmps31
  go_wp2_with (go_at_call 56; refine (wcanon_any _ _ _).mono ?_; rintro e w' ⟨rfl, rfl⟩)
  refine wp_loop_rounds 1 ?_
  rw [rounds_succ]
  go_wp2
  go_ret
  exact ⟨rfl, rfl⟩

set_option maxHeartbeats 1000000 in
theorem wsums_walk (a : Option Addr) (cap : Nat) (xs : List Nat) (w : World) (h : URow w a xs) (hx : ∀ x ∈ xs, x < 18446744073709551616) :
    Calls Try.prog 6 #[.slice a xs.length cap] w fun e w' => e = .returned (.bool true) ∧ Below w.heap.size w w' := by
  have hm := h.1
  have HX := Lib.hid hx
  clear hx
  by_cases h600 : 600 < xs.length
  · go_enter Try.func6, Try.ntmps6
    go_wp2_with fail
    refine (known7 _).mono ?_
    rintro e w1 ⟨rfl, hb1⟩
    go_wp2_with fail
    go_ret
    exact ⟨rfl, hb1⟩
  have hw := ws_canon xs xs.length
  have HW := Lib.hid hw
  clear hw
  by_cases h0 : 0 < xs.length
  all_goals
    go_enter Try.func6, Try.ntmps6
    go_wp2_with fail
    refine (known7 _).mono ?_
    rintro e w1 ⟨rfl, hb1⟩
    have h1 : URow w1 a xs := by
      refine ⟨h.1, fun hne => ?_⟩
      obtain ⟨b, off, e1, hc⟩ := h.2 hne
      refine ⟨b, off, e1, fun k hk => ?_⟩
      rw [hb1.cell (World.block_lt_of_cell? w _ (hc k hk))]
      exact hc k hk
    go_wp2_with fail
    refine (values_any _ _ _ _ h1 HX.out).mono ?_
    rintro e w2 ⟨a', cap', rfl, hrow, hb2⟩
    go_wp2_with fail
    refine (rsum_any _ _ _ _ hrow).mono ?_
    rintro e w3 ⟨rfl, n3, rfl⟩
    go_wp2_with fail
    refine (wsum_any _ _ _ _ (hrow.drewN n3)).mono ?_
    rintro e w4 ⟨rfl, n4, rfl⟩
    go_wp2_with fail
    refine (like_self _ _ _).mono ?_
    rintro e w5 ⟨rfl, rfl⟩
    go_wp2_with fail
  · refine (wsum_any _ _ _ _ (hrow.drewN _)).mono ?_
    rintro e w6 ⟨rfl, n6, rfl⟩
    go_wp2_with fail
    refine (join1 _ _ (ws xs xs.length).1 (ws xs xs.length).2 _ ?_).mono ?_
    · rw [World.cell?_alloc_at _ _ _ _ (by simp)]; rfl
    rw [HW.out.1, HW.out.2]
    rintro e w7 ⟨rfl, rfl⟩
    go_wp2_with fail
    refine (like_self _ _ _).mono ?_
    rintro e w8 ⟨rfl, rfl⟩
    go_wp2_with fail
    go_ret
    refine ⟨rfl, ?_⟩
    exact (below_drewN (hb1.trans (hb2.mono hb1.size)) _).alloc (by have := hb1.size; have := hb2.size; simp; omega) _
  · refine (join0 _ _ _).mono ?_
    rintro e w7 ⟨rfl, rfl⟩
    go_wp2_with fail
    refine (like_self _ _ _).mono ?_
    rintro e w8 ⟨rfl, rfl⟩
    go_wp2_with fail
    go_ret
    refine ⟨rfl, ?_⟩
    exact below_drewN (hb1.trans (hb2.mono hb1.size)) _

theorem waveSums_walk (a : Option Addr) (cap : Nat) (zs : List Int) (w : World) (h : IRow .u64 w a zs) (hm : zs.length * 8 ≤ 140737488351232) :
    Calls Try.prog 6 #[.slice a zs.length cap] w fun e w' => e = .returned (.bool true) ∧ Below w.heap.size w w' := by
  have hlen : (zs.map Int.toNat).length = zs.length := by simp
  have := wsums_walk a cap (zs.map Int.toNat) w ⟨by rw [hlen]; omega, fun hne => ?_⟩ ?_
  · rw [hlen] at this; exact this
  · obtain ⟨b, off, e1, hc⟩ := h.2 (by simpa using hne)
    refine ⟨b, off, e1, fun k hk => ?_⟩
    rw [hlen] at hk
    rw [hc k hk]
    have hz := (u64_in (h.1 (zs[k]) (List.getElem_mem hk))).1
    simp only [List.getD_eq_getElem?_getD, List.getElem?_map, List.getElem?_eq_getElem hk, Option.map_some, Option.getD_some]
    congr 2
    omega
  · intro x hx
    obtain ⟨z, hz, rfl⟩ := List.mem_map.1 hx
    have := u64_in (h.1 z hz)
    omega
end Go.Proofs.Ytdhahnagnemgaaa
