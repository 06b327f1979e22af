/- Contracts of the reference's increase. -/
import Derived.Test.YtidmbjgnkodiiaaWin3
import Derived.Deep.RegionHeld3
import Derived.Deep.AppendLies
import Derived.Deep.RegionLaw
namespace Go.Proofs.Ytidmbjgnkodiiaa
open Go.RowKit
set_option linter.unusedVariables false
set_option linter.unusedSimpArgs false

set_option maxRecDepth 100000 in
set_option maxHeartbeats 2000000 in
theorem rincr_any (a : Option Addr) (cap : Nat) (x : Nat) (l : List Nat) (w : World) (h : Sl fenc1 w (.slice a (l.length + 1) cap) (x :: l)) (hl : l.length ≤ 1000000) : Calls Try.prog 36 #[.slice a (l.length + 1) cap] w fun e w' => e = .returned (.float .f64 (incr (x :: l))) ∧ Below w.heap.size w w' := by
  obtain ⟨a', cap', e, ⟨hle, hcap⟩, hc⟩ := h.floats
  simp only [List.length_cons, Value.slice.injEq, true_and] at e hle
  obtain ⟨rfl, rfl⟩ := e
  obtain ⟨b, off, rfl, hcell⟩ := hc 0 (by simp)
  have HC := Lib.hid hcell
  clear hcell hc h
  obtain ⟨i0, hi, hz0, hz1, hz2⟩ := info_parts Try.infoF
  go_enter Try.func36, Try.ntmps36
  go_wp2_with fail
  go_loopw [3, 4] (fun v i wr => ∃ (k : Nat) (ys : List Nat), k ≤ l.length ∧ i = .int .i64 ((k : Int) + 1) ∧ wr.ownsRow w.heap.size 38 1 v (k + 1) (ys.map (Value.float .f64)) ∧ ys.map canon = (0 :: rises ((x :: l).take (k + 1))).map canon ∧ Below w.heap.size w wr) (fun _ i _ => l.length + 1 - (intOf i).toNat)
  case atStart => exact ⟨0, [0], Nat.zero_le _, rfl, owns_one (heap_new w _) (Nat.le_refl _), by simp [rises], (Below.refl _ _).alloc (Nat.le_refl _) _⟩
  case round =>
    obtain ⟨k, ys, hk, rfl, hown, hys, hb⟩ := hrel
    have HYS := Lib.hid hys
    clear hys
    have hB := hb.size
    have HO := Lib.hid hown
    have HB := Lib.hid hb
    by_cases hlt : k < l.length
    · have hc0 : w.cell? ⟨b, off + (k + 1), none⟩ = some (.float .f64 l[k]) := by
        have := HC.out (k + 1) (by simp; omega)
        rw [fx_at (by simp; omega)] at this
        exact this
      have hc1 : w.cell? ⟨b, off + k, none⟩ = some (.float .f64 ((x :: l)[k]'(by simp; omega))) := by
        have := HC.out k (by simp; omega)
        rw [fx_at (by simp; omega)] at this
        exact this
      obtain ⟨y, hy⟩ : ∃ y, y = l[k] := ⟨_, rfl⟩
      obtain ⟨p, hp⟩ : ∃ p, p = (x :: l)[k]'(by simp; omega) := ⟨_, rfl⟩
      rw [← hy] at hc0
      rw [← hp] at hc1
      have hr := rises_snoc x l k hlt
      rw [← hy, ← hp] at hr
      have HR := Lib.hid hr
      clear hy hp hr
      have d0 : wr.cell? ⟨b, off + (k + 1), none⟩ = some (.float .f64 y) := by rw [hb.cell (World.block_lt_of_cell? _ _ hc0)]; exact hc0
      have d1 : wr.cell? ⟨b, off + k, none⟩ = some (.float .f64 p) := by rw [hb.cell (World.block_lt_of_cell? _ _ hc1)]; exact hc1
      clear hc0 hc1 hb
      have hk0 : (0 : Int) ≤ (k : Int) := Int.natCast_nonneg _
      have hk1 : (k : Int) + 1 < (l.length : Int) + 1 := by omega
      have close : ∀ (nq : Nat) (u : Nat) (v' : Value) (w1 : World), canon u = riseOf p y → ((wr.drewN nq).alloc (.cells #[.float .f64 u] 38)).grownBy w1 u3.ownBlock →
          w1.ownsRow w.heap.size 38 1 v' (k + 1 + 1) (ys.map (Value.float .f64) ++ [.float .f64 u]) →
          ∃ (k' : Nat) (ys' : List Nat), k' ≤ l.length ∧ (Value.int .i64 ((k : Int) + 1 + 1)) = .int .i64 ((k' : Int) + 1) ∧ w1.ownsRow w.heap.size 38 1 v' (k' + 1) (ys'.map (Value.float .f64)) ∧ ys'.map canon = (0 :: rises ((x :: l).take (k' + 1))).map canon ∧ Below w.heap.size w w1 := by
        intro nq u v' w1 hu hg ho
        refine ⟨k + 1, ys ++ [u], by omega, by go_num, by simpa using ho, ?_, ((below_drewN HB.out nq).alloc hB _).grown hg (by simp; omega) (fun j hj => (HO.out.lt j hj).1)⟩
        rw [show k + 1 + 1 = k + 2 from rfl, HR.out, List.map_append, HYS.out]
        simp only [List.map_cons, List.map_append, List.map_nil, List.cons_append, hu, canon_riseOf]
      have HCL := Lib.hid close
      clear close
      have e4 : riseOf p y = if fo y p == some .lt then canon y else cop .sub y p := rfl
      cases e1 : (FloatKind.f64.format.order y p == some .lt)
      · rw [show fo y p = FloatKind.f64.format.order y p from rfl, e1] at e4
        have HE := Lib.hid e4
        clear e4
        go_wp2_with fail
        go_quiet (fail)
        go_wp2_with fail
        have hk2 : (0 : Int) ≤ (k : Int) + 1 := by omega
        have hk3 : (k : Int) < (l.length : Int) + 1 := by omega
        have hk4 : IntKind.i64.wrap (k : Int) = (k : Int) := IntWalk.i64_in _ (by omega)
        go_region_law (first | (refine step_append_rd rfl (.tmp 29) (.tmp 40) _ rfl w.heap.size 38 i0 _ 1 8 Try.underlying27 hi hz0 hz1 hz2 rfl (by decide) _ _ _ rfl (World.ownsRow.alloc (w := wr.drewN _) hown _) (some ⟨wr.heap.size, 0, none⟩) 1 1 [.float .f64 (fop .sub y p (wr.drewN (nq + 1)))] rfl (fun e => by cases e) rfl (fun ad e => by injection e with e; subst e; exact one_new (wr.drewN _) _ _) (by intro u hu; simp at hu; subst hu; rfl) (by unfold maxLen; omega) (by omega) (by simp; omega) ?_; intro v' w1 hown' hgrow))
        all_goals
          have HG := Lib.hid hgrow
          have HO' := Lib.hid hown'
          clear hown hgrow hown'
          go_wp2_with fail
          go_roundw
          case rel => exact HCL.out (nq + 1 + fdr .sub y p) _ _ _ (by rw [HE.out, canon_fop]; rfl) HG.out HO'.out
          case measure => simp [intOf]; omega
      · rw [show fo y p = FloatKind.f64.format.order y p from rfl, e1] at e4
        have HE := Lib.hid e4
        clear e4
        go_wp2_with fail
        go_quiet (fail)
        go_wp2_with (at_builtin; refine wpList_append_own _ rfl _ _ 27 rfl w.heap.size 38 i0 (.float .f64 0) 1 8 Try.underlying27 hi hz0 hz1 hz2 rfl (by decide) _ _ _ rfl (World.ownsRow.alloc (w := wr.drewN _) hown _) ⟨wr.heap.size, 0, none⟩ 1 1 [.float .f64 y] rfl rfl ?_ ?_ ?_ ?_ ?_ ?_)
        · exact one_new (wr.drewN _) _ _
        · intro u hu; simp at hu; subst hu; rfl
        · unfold maxLen; omega
        · omega
        · simp; omega
        intro v' w1 hown' hgrow _
        have HG := Lib.hid hgrow
        have HO' := Lib.hid hown'
        clear hown hgrow hown'
        go_wp2_with fail
        go_roundw
        case rel => exact HCL.out _ _ _ _ (HE.out.symm) HG.out HO'.out
        case measure => simp [intOf]; omega
    · obtain rfl : k = l.length := by omega
      have hsl : Sl fenc1 wr u3 ys := Sl.own fenc1_len (by decide) (by rw [flat1]; exact hown)
      have HS := Lib.hid hsl
      clear hown hb hsl
      go_wp2_with fail
      refine (rfsum_any _ ys _ HS.out).mono ?_
      rintro e w' ⟨rfl, n, rfl⟩
      go_wp2_with fail
      go_ret
      refine ⟨ret_f ?_, below_drewN HB.out _⟩
      rw [fsum_congr HYS.out]
      show _ = incr _
      unfold incr
      rw [List.take_of_length_le (by simp)]
end Go.Proofs.Ytidmbjgnkodiiaa
