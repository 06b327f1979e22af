/- Scaled, by its inner function's contract; vector.Name, Of, Scalar. -/
import Derived.Test.YtkflhfdpdgnbfaaVo4
namespace Go.Proofs.Ytkflhfdpdgnbfaa
open Go Go.RowKit
set_option linter.unusedVariables false
set_option linter.unusedSimpArgs false
set_option maxRecDepth 100000
theorem one_at (w : World) (v : Value) (t : TypeId) (n : Nat) (hn : n = w.heap.size) : (w.alloc (.cells #[v] t)).cell? ⟨n, 0, none⟩ = some v := by
  subst hn
  exact World.cell?_alloc_at _ _ _ _ rfl
theorem four_boxes (w : World) (a b c d : Value) (t1 t2 t3 t4 : TypeId) :
    ∃ w4 : World, w4 = (((w.alloc (.cells #[a] t1)).alloc (.cells #[b] t2)).alloc (.cells #[c] t3)).alloc (.cells #[d] t4) ∧ Below w.heap.size w w4 ∧ w4.cell? ⟨w.heap.size, 0, none⟩ = some a ∧ w4.cell? ⟨w.heap.size + 1, 0, none⟩ = some b ∧ w4.cell? ⟨w.heap.size + 2, 0, none⟩ = some c ∧ w4.cell? ⟨w.heap.size + 3, 0, none⟩ = some d := by
  have st : ∀ (w : World) (o : Obj), Below w.heap.size w (w.alloc o) := fun w o => (Below.refl _ _).alloc (Nat.le_refl _) _
  refine ⟨_, rfl, ?_, ?_, ?_, ?_, ?_⟩
  · exact ((((Below.refl _ _).alloc (Nat.le_refl _) _).alloc (by simp) _).alloc (by simp; omega) _).alloc (by simp; omega) _
  · exact cell_below (st _ _) (Nat.le_refl _) (cell_below (st _ _) (Nat.le_refl _) (cell_below (st _ _) (Nat.le_refl _) (one_at _ _ _ _ rfl)))
  · exact cell_below (st _ _) (Nat.le_refl _) (cell_below (st _ _) (Nat.le_refl _) (one_at _ _ _ _ (by simp)))
  · exact cell_below (st _ _) (Nat.le_refl _) (one_at _ _ _ _ (by simp))
  · exact one_at _ _ _ _ (by simp)
set_option maxHeartbeats 4000000 in
theorem scaled_with (f : Pt → Option Pt) (v : Value) (ps : List Pt) (x : Nat) (left flag : Bool) (op : Int) (w : World) (h : VS w v ps) (hl : ps.length ≤ 100000) (h1 : 1 ≤ op) (h10 : op ≤ 10)
    (hF : ∀ p ∈ ps, ∀ (lv : Value) (px pl po pf : Nat) (W : World), Sl lenc W lv p.1 → W.cell? ⟨px, 0, none⟩ = some (.float .f64 x) → W.cell? ⟨pl, 0, none⟩ = some (.bool left) → W.cell? ⟨po, 0, none⟩ = some (.int .i64 op) → W.cell? ⟨pf, 0, none⟩ = some (.bool flag) →
      Calls Try.prog 38 #[.agg #[lv, .float .f64 p.2], .pointer (some ⟨px, 0, none⟩), .pointer (some ⟨pl, 0, none⟩), .pointer (some ⟨po, 0, none⟩), .pointer (some ⟨pf, 0, none⟩)] W fun e w' => S1R lv f p W e w') :
    Calls Try.prog 15 #[v, .int .i64 op, .float .f64 x, .bool left, .bool flag] w fun e w' => Below w.heap.size w w' ∧ NR (ps.filterMap f) e w' := by
  have hmf : ∀ (fn : Fn) (first cap : Array Value) (w : World), (Instr.makeFunc fn first cap).run Try.prog w = .ok (.func fn first cap) w := fun _ _ _ _ => rfl
  obtain ⟨w4, hw4, hb4, c0, c1, c2, c3⟩ := four_boxes w (.int .i64 op) (.float .f64 x) (.bool left) (.bool flag) 3 32 4 4
  have HE := Lib.hid (each_any 38 #[.pointer (some ⟨w.heap.size + 1, 0, none⟩), .pointer (some ⟨w.heap.size + 2, 0, none⟩), .pointer (some ⟨w.heap.size, 0, none⟩), .pointer (some ⟨w.heap.size + 3, 0, none⟩)] (fun args w => by rfl) f v ps w4 (h.below hb4 (Nat.le_refl _)) hl (fun p hp lv hs W hb => by
    refine (hF p hp lv _ _ _ _ W (hs.below hb (Nat.le_refl _)) (cell_below hb (Nat.le_refl _) c1) (cell_below hb (Nat.le_refl _) c2) (cell_below hb (Nat.le_refl _) c0) (cell_below hb (Nat.le_refl _) c3)).mono ?_
    rintro e w' ⟨hb', a, n, c, y, rfl, hq⟩
    refine ⟨hb', a, n, c, y, rfl, fun q hfq => ?_⟩
    obtain ⟨e1, e2, e3⟩ := hq q hfq
    refine ⟨e1, e2, fun hne j hj => ?_⟩
    rcases e3 j hj with he | he
    · by_cases hpn : p.1 = []
      · right
        obtain ⟨a0, c0', e0, _, _, hcc⟩ := e2
        obtain ⟨a1, c1', e1', _, _, _⟩ := hs
        rw [hpn] at e1'
        rw [e1'] at he
        rw [he] at e0
        injection e0 with _ e0 _
        exact absurd (List.eq_nil_of_length_eq_zero e0.symm) hne
      · left
        obtain ⟨b, e4, e5⟩ := hs.lt hpn
        rw [he, e4] at hj
        injection hj with hj
        omega
    · exact .inr he))
  obtain ⟨a, cap, rfl, hlen, -⟩ := h.split
  obtain ⟨N, hN⟩ : ∃ N, N = ps.length := ⟨_, rfl⟩
  rw [← hN] at HE hlen ⊢
  have HB4 := Lib.hid hb4
  have hd1 : decide (op < 1) = false := decide_eq_false (by omega)
  have hd2 : decide (10 < op) = false := decide_eq_false (by omega)
  have hn1 : ¬ op < 1 := by omega
  have hn2 : ¬ 10 < op := by omega
  have HW4 := Lib.hid hw4
  clear h hF hN hb4 c0 c1 c2 c3 hw4
  go_enter Try.func15, Try.ntmps15
  go_wp2_with fail
  rw [← HW4.out]
  refine HE.out.mono ?_
  rintro e w2 ⟨hb2, hn⟩
  have HB2 := Lib.hid (HB4.out.trans (hb2.mono HB4.out.size))
  have HN := Lib.hid hn
  rcases hn with ⟨-, rfl⟩ | ⟨-, -, rfl⟩ | ⟨-, qs, v', -, -, rfl, hv⟩
  · go_wp2_with fail
    go_ret2
    exact ⟨HB2.out, HN.out⟩
  · go_wp2_with fail
    go_ret2
    exact ⟨HB2.out, HN.out⟩
  · obtain ⟨a5, c5, rfl, -, -⟩ := hv.split
    clear hv
    go_wp2_with fail
    go_ret2
    exact ⟨HB2.out, HN.out⟩
theorem scaled_filter (v : Value) (ps : List Pt) (x : Nat) (left : Bool) (op : Int) (w : World) (h : VS w v ps) (hl : ps.length ≤ 100000) (h5 : 5 ≤ op) (h10 : op ≤ 10) (hz : ∀ p ∈ ps, p.1.length ≤ 1000000) :
    Calls Try.prog 15 #[v, .int .i64 op, .float .f64 x, .bool left, .bool false] w fun e w' => Below w.heap.size w w' ∧ NR (ps.filterMap (filterF op x left)) e w' :=
  scaled_with _ v ps x left false op w h hl (by omega) h10 fun p hp lv px pl po pf W hs e1 e2 e3 e4 => scaled1_filter lv p.1 p.2 x left op px pl po pf W hs (hz p hp) h5 h10 e1 e2 e3 e4
theorem call_nan (w : World) : Calls Try.prog 56 #[] w fun e w' => e = .returned (.float .f64 CN) ∧ w = w' := by
  have hf := call_frombits
  go_enter Try.func56, Try.ntmps56
  go_wp2_with fail
  go_ret
  exact ⟨rfl, rfl⟩
theorem of_any (x : Nat) (w : World) : Calls Try.prog 24 #[.float .f64 x] w fun e w' => e = .returned (.slice (some ⟨w.heap.size, 0, none⟩) 1 1) ∧ w' = w.alloc (.cells #[.slice none 0 0, .float .f64 (canon x)] 35) := by
  go_enter Try.func24, Try.ntmps24
  go_wp2_with fail
  refine (canon_any _ _).mono ?_
  rintro e w1 ⟨rfl, rfl⟩
  go_wp2_with fail
  go_ret
  exact ⟨rfl, rfl⟩
theorem scalar_one (b off cap x : Nat) (w : World) (hc : 1 ≤ cap) (h : w.cell? ⟨b, off + 1, none⟩ = some (.float .f64 x)) : Calls Try.prog 25 #[.slice (some ⟨b, off, none⟩) 1 cap] w fun e w' => e = .returned (.float .f64 (canon x)) ∧ w = w' := by
  go_enter Try.func25, Try.ntmps25
  go_wp2_with fail
  refine (canon_any _ _).mono ?_
  rintro e w1 ⟨rfl, rfl⟩
  go_wp2_with fail
  go_ret
  exact ⟨rfl, rfl⟩
theorem name1_any (w : World) : Calls Try.prog 23 #[.int .i64 1] w fun e w' => e = .returned (.string ⟨#[97, 98, 115]⟩) ∧ w = w' := by
  go_enter Try.func23, Try.ntmps23
  go_wp2_with fail
  go_ret
  exact ⟨rfl, rfl⟩
end Go.Proofs.Ytkflhfdpdgnbfaa
