/- Contracts of increase. -/
import Derived.Test.YtidmbjgnkodiiaaWin2
import Derived.Test.YtidmbjgnkodiiaaWlaw
namespace Go.Proofs.Ytidmbjgnkodiiaa
open Go.RowKit
set_option linter.unusedVariables false
set_option linter.unusedSimpArgs false

theorem owns_one {w : World} {base g : Nat} {e : TypeId} {u : Value} (hg : w.heap[g]? = some (.cells #[u] e (0, 0))) (hb : base ≤ g) : w.ownsRow base e 1 (.slice (some ⟨g, 0, none⟩) 1 1) 1 [u] :=
  ⟨by simp, .inr ⟨g, 1, #[u], rfl, hb, hg, Nat.le_refl _, by unfold maxLen; omega, by simp, by simp⟩⟩

theorem canon_riseOf (p x : Nat) : canon (riseOf p x) = riseOf p x := by
  unfold riseOf; split
  · exact canon_canon _
  · exact canon_cop _ _ _

set_option maxRecDepth 100000 in
set_option maxHeartbeats 2000000 in
theorem incr_any (a : Option Addr) (cap : Nat) (x : Nat) (l : List Nat) (w : World) (h : Sl fenc1 w (.slice a (l.length + 1) cap) (x :: l)) (hl : l.length ≤ 1000000) : Calls Try.prog 43 #[.slice a (l.length + 1) cap] w fun e w' => e = .returned (.float .f64 (incr (x :: l))) ∧ Below w.heap.size w w' := by
  obtain ⟨a', cap', e, ⟨hle, hcap⟩, hc⟩ := h.floats
  simp only [List.length_cons, Value.slice.injEq, true_and] at e hle
  obtain ⟨rfl, rfl⟩ := e
  obtain ⟨b, off, rfl, hcell⟩ := hc 0 (by simp)
  have HC := Lib.hid hcell
  clear hcell hc h
  obtain ⟨i0, hi, hz0, hz1, hz2⟩ := info_parts Try.infoF
  by_cases h1 : cap = 1
  · subst h1
    obtain rfl : l = [] := List.eq_nil_of_length_eq_zero (by omega)
    go_enter Try.func43, Try.ntmps43
    go_wp2_with fail
    refine wp_loop_rounds 1 ?_
    rw [rounds_succ]
    go_wp2_with fail
    refine (fsum_any _ [0] _ (Sl.lit (heap_new w _) rfl rfl (by simp))).mono ?_
    rintro e w' ⟨rfl, n, rfl⟩
    go_wp2_with fail
    go_ret
    exact ⟨rfl, below_drewN ((Below.refl _ _).alloc (Nat.le_refl _) _) _⟩
  · have h2 : 2 ≤ cap := by omega
    clear h1
    go_enter Try.func43, Try.ntmps43
    go_wp2_with fail
    go_loopw [3, 10] (fun v i wr => ∃ (k : Nat) (ys : List Nat), k ≤ l.length ∧ i = .int .i64 k ∧ wr.ownsRow w.heap.size 38 1 v (k + 1) (ys.map (Value.float .f64)) ∧ ys.map canon = (0 :: rises ((x :: l).take (k + 1))).map canon ∧ Below w.heap.size w wr) (fun _ i _ => l.length - (intOf i).toNat)
    case atStart => exact ⟨0, [0], Nat.zero_le _, rfl, owns_one (heap_new w _) (Nat.le_refl _), by simp [rises], (Below.refl _ _).alloc (Nat.le_refl _) _⟩
    case round =>
      obtain ⟨k, ys, hk, rfl, hown, hys, hb⟩ := hrel
      have HYS := Lib.hid hys
      clear hys
      have hB := hb.size
      have HO := Lib.hid hown
      have HB := Lib.hid hb
      by_cases hlt : k < l.length
      · have hc0 : w.cell? ⟨b, off + 1 + k, none⟩ = some (.float .f64 l[k]) := by
          have := HC.out (k + 1) (by simp; omega)
          rw [fx_at (by simp; omega)] at this
          rw [show off + 1 + k = off + (k + 1) by omega]
          exact this
        have hc1 : w.cell? ⟨b, off + k, none⟩ = some (.float .f64 ((x :: l)[k]'(by simp; omega))) := by
          have := HC.out k (by simp; omega)
          rw [fx_at (by simp; omega)] at this
          exact this
        obtain ⟨y, hy⟩ : ∃ y, y = l[k] := ⟨_, rfl⟩
        obtain ⟨p, hp⟩ : ∃ p, p = (x :: l)[k]'(by simp; omega) := ⟨_, rfl⟩
        rw [← hy] at hc0
        rw [← hp] at hc1
        have hr := rises_snoc x l k hlt
        rw [← hy, ← hp] at hr
        have HR := Lib.hid hr
        clear hy hp hr
        have d0 : wr.cell? ⟨b, off + 1 + k, none⟩ = some (.float .f64 y) := by rw [hb.cell (World.block_lt_of_cell? _ _ hc0)]; exact hc0
        have d1 : wr.cell? ⟨b, off + k, none⟩ = some (.float .f64 p) := by rw [hb.cell (World.block_lt_of_cell? _ _ hc1)]; exact hc1
        clear hc0 hc1 hb
        have hk0 : (0 : Int) ≤ (k : Int) := Int.natCast_nonneg _
        have hk1 : (k : Int) < (l.length : Int) + 1 := by omega
        have close : ∀ (nq : Nat) (u : Nat) (v' : Value) (w1 : World), canon u = riseOf p y → ((wr.drewN nq).alloc (.cells #[.float .f64 u] 38)).grownBy w1 u3.ownBlock →
            w1.ownsRow w.heap.size 38 1 v' (k + 1 + 1) (ys.map (Value.float .f64) ++ [.float .f64 u]) →
            ∃ (k' : Nat) (ys' : List Nat), k' ≤ l.length ∧ (Value.int .i64 ((k : Int) + 1)) = .int .i64 k' ∧ w1.ownsRow w.heap.size 38 1 v' (k' + 1) (ys'.map (Value.float .f64)) ∧ ys'.map canon = (0 :: rises ((x :: l).take (k' + 1))).map canon ∧ Below w.heap.size w w1 := by
          intro nq u v' w1 hu hg ho
          refine ⟨k + 1, ys ++ [u], by omega, by go_num, by simpa using ho, ?_, ((below_drewN HB.out nq).alloc hB _).grown hg (by simp; omega) (fun j hj => (HO.out.lt j hj).1)⟩
          rw [show k + 1 + 1 = k + 2 from rfl, HR.out, List.map_append, HYS.out]
          simp only [List.map_cons, List.map_append, List.map_nil, List.cons_append, hu, canon_riseOf]
        have HCL := Lib.hid close
        clear close
        have ways : (∃ o, FloatKind.f64.format.order y p = some o ∧ FloatKind.f64.format.order y y = some .eq ∧ FloatKind.f64.format.order p p = some .eq ∧ riseOf p y = if o = .lt then canon y else cop .sub y p) ∨
            (FloatKind.f64.format.order y p = none ∧ (FloatKind.f64.format.order y y != some .eq) = true ∧ riseOf p y = cop .sub y p) ∨
            (FloatKind.f64.format.order y p = none ∧ FloatKind.f64.format.order y y = some .eq ∧ (FloatKind.f64.format.order p p != some .eq) = true ∧ riseOf p y = cop .sub y p) := by
          rcases fo_ways y p with ⟨o, e1, e2, e3⟩ | ⟨e1, e2, e3⟩ | ⟨e1, e2, e3⟩ | ⟨e1, e2, e3⟩
          · exact .inl ⟨o, e1, e2, e3, by unfold riseOf fo; rw [e1]; cases o <;> rfl⟩
          · exact .inr (.inl ⟨e1, by rw [e2]; rfl, by unfold riseOf fo; rw [e1]; rfl⟩)
          · exact .inr (.inl ⟨e1, by rw [e2]; rfl, by unfold riseOf fo; rw [e1]; rfl⟩)
          · exact .inr (.inr ⟨e1, e2, by rw [e3]; rfl, by unfold riseOf fo; rw [e1]; rfl⟩)
        rcases ways with ⟨o, e1, e2, e3, e4⟩ | ⟨e1, e2, e4⟩ | ⟨e1, e2, e3, e4⟩
        · cases o
          · skip
            have HE := Lib.hid e4
            clear e4
            go_wp2_with fail
            go_quiet (fail)
            go_wp2_with (at_builtin; refine wpList_append_own _ rfl _ _ 27 rfl w.heap.size 38 i0 (.float .f64 0) 1 8 Try.underlying27 hi hz0 hz1 hz2 rfl (by decide) _ _ _ rfl (World.ownsRow.alloc (w := wr.drewN _) hown _) ⟨wr.heap.size, 0, none⟩ 1 1 [.float .f64 y] rfl rfl ?_ ?_ ?_ ?_ ?_ ?_)
            · exact one_new (wr.drewN _) _ _
            · intro u hu; simp at hu; subst hu; rfl
            · unfold maxLen; omega
            · omega
            · simp; omega
            intro v' w1 hown' hgrow _
            have HG := Lib.hid hgrow
            have HO' := Lib.hid hown'
            clear hown hgrow hown'
            go_wp2_with fail
            go_roundw
            case rel => exact HCL.out _ _ _ _ (HE.out.symm) HG.out HO'.out
            case measure => simp [intOf]; omega
          all_goals
            have HE := Lib.hid e4
            clear e4
            go_wp2_with fail
            go_quiet (fail)
            go_wp2_with (at_builtin; refine wpList_append_own _ rfl _ _ 27 rfl w.heap.size 38 i0 (.float .f64 0) 1 8 Try.underlying27 hi hz0 hz1 hz2 rfl (by decide) _ _ _ rfl (World.ownsRow.alloc (w := wr.drewN _) hown _) ⟨wr.heap.size, 0, none⟩ 1 1 [.float .f64 (fop .sub y p (wr.drewN nq))] rfl rfl ?_ ?_ ?_ ?_ ?_ ?_)
            · exact one_new (wr.drewN _) _ _
            · intro u hu; simp at hu; subst hu; rfl
            · unfold maxLen; omega
            · omega
            · simp; omega
            intro v' w1 hown' hgrow _
            have HG := Lib.hid hgrow
            have HO' := Lib.hid hown'
            clear hown hgrow hown'
            go_wp2_with fail
            go_roundw
            case rel => exact HCL.out _ _ _ _ (by rw [HE.out, canon_fop]; rfl) HG.out HO'.out
            case measure => simp [intOf]; omega
        all_goals
          have HE := Lib.hid e4
          clear e4
          go_wp2_with fail
          go_quiet (fail)
          go_wp2_with (at_builtin; refine wpList_append_own _ rfl _ _ 27 rfl w.heap.size 38 i0 (.float .f64 0) 1 8 Try.underlying27 hi hz0 hz1 hz2 rfl (by decide) _ _ _ rfl (World.ownsRow.alloc (w := wr.drewN _) hown _) ⟨wr.heap.size, 0, none⟩ 1 1 [.float .f64 (fop .sub y p (wr.drewN nq))] rfl rfl ?_ ?_ ?_ ?_ ?_ ?_)
          · exact one_new (wr.drewN _) _ _
          · intro u hu; simp at hu; subst hu; rfl
          · unfold maxLen; omega
          · omega
          · simp; omega
          intro v' w1 hown' hgrow _
          have HG := Lib.hid hgrow
          have HO' := Lib.hid hown'
          clear hown hgrow hown'
          go_wp2_with fail
          go_roundw
          case rel => exact HCL.out _ _ _ _ (by rw [HE.out, canon_fop]) HG.out HO'.out
          case measure => simp [intOf]; omega
      · obtain rfl : k = l.length := by omega
        have hsl : Sl fenc1 wr u3 ys := Sl.own fenc1_len (by decide) (by rw [flat1]; exact hown)
        have HS := Lib.hid hsl
        clear hown hb hsl
        go_wp2_with fail
        refine (fsum_any _ ys _ HS.out).mono ?_
        rintro e w' ⟨rfl, n, rfl⟩
        go_wp2_with fail
        go_ret
        refine ⟨ret_f ?_, below_drewN HB.out _⟩
        rw [fsum_congr HYS.out]
        show _ = incr _
        unfold incr
        rw [List.take_of_length_le (by simp)]
end Go.Proofs.Ytidmbjgnkodiiaa
