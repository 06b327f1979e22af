/- Map and Scaled, whole; what an answer is up to. -/
import Derived.Test.YtkflhfdpdgnbfaaVq2
import Derived.Test.YtkflhfdpdgnbfaaVo8
namespace Go.Proofs.Ytkflhfdpdgnbfaa
open Go Go.RowKit
set_option linter.unusedVariables false
set_option linter.unusedSimpArgs false
set_option maxRecDepth 100000
/-- An answer, or the error that the arguments are wrong. -/
def NRor (ok : Bool) (ps : List Pt) (e : Ending) (w : World) : Prop :=
  if ok = true then NR ps e w else e = .returned (.tuple #[.slice none 0 0, .int .i64 1])
theorem scaled_any (v : Value) (ps : List Pt) (x : Nat) (left flag : Bool) (op : Int) (w : World) (h : VS w v ps) (hl : ps.length ≤ 100000) (hz : ∀ p ∈ ps, p.1.length ≤ 1000000) :
    Calls Try.prog 15 #[v, .int .i64 op, .float .f64 x, .bool left, .bool flag] w fun e w' => Below w.heap.size w w' ∧ NRor (opOk op) (ps.filterMap (scaleF op x left flag)) e w' := by
  by_cases h1 : 1 ≤ op
  · by_cases h10 : op ≤ 10
    · have ho : opOk op = true := by unfold opOk; rw [Bool.and_eq_true]; exact ⟨decide_eq_true h1, decide_eq_true h10⟩
      rw [ho]
      by_cases hm : 5 ≤ op ∧ flag = false
      · obtain ⟨h5, rfl⟩ := hm
        rw [show scaleF op x left false = filterF op x left by unfold scaleF; rw [if_pos ⟨h5, rfl⟩]]
        exact scaled_filter v ps x left op w h hl h5 h10 hz
      · rw [show scaleF op x left flag = mapF op x left by unfold scaleF; rw [if_neg hm]]
        exact scaled_with _ v ps x left flag op w h hl h1 h10 fun p hp lv px pl po pf W hs e1 e2 e3 e4 => scaled1_map lv p.1 p.2 x left flag op px pl po pf W hs (hz p hp) h1 h10 hm e1 e2 e3 e4
    · have ho : opOk op = false := by unfold opOk; rw [Bool.and_eq_false_iff]; right; exact decide_eq_false h10
      have hd1 : decide (op < 1) = false := decide_eq_false (by omega)
      have hd2 : decide (10 < op) = true := decide_eq_true (by omega)
      rw [ho]
      obtain ⟨a, cap, rfl, -, -⟩ := h.split
      clear h hz
      go_enter Try.func15, Try.ntmps15
      go_wp2_with fail
      go_ret2
      exact ⟨((((Below.refl _ _).alloc (Nat.le_refl _) _).alloc (by simp) _).alloc (by simp; omega) _).alloc (by simp; omega) _, rfl⟩
  · have ho : opOk op = false := by unfold opOk; rw [Bool.and_eq_false_iff]; left; exact decide_eq_false h1
    have hd1 : decide (op < 1) = true := decide_eq_true (by omega)
    rw [ho]
    obtain ⟨a, cap, rfl, -, -⟩ := h.split
    clear h hz
    go_enter Try.func15, Try.ntmps15
    go_wp2_with fail
    go_ret2
    exact ⟨((((Below.refl _ _).alloc (Nat.le_refl _) _).alloc (by simp) _).alloc (by simp; omega) _).alloc (by simp; omega) _, rfl⟩
/-- What a function does of a point. -/
def fnF (fn : Int) (arg : Nat) (p : Pt) : Option Pt := some (namelessL p.1, fnV fn p.2 arg)
theorem two_boxes (w : World) (a b : Value) (t1 t2 : TypeId) :
    ∃ w4 : World, w4 = (w.alloc (.cells #[a] t1)).alloc (.cells #[b] t2) ∧ Below w.heap.size w w4 ∧ w4.cell? ⟨w.heap.size, 0, none⟩ = some a ∧ w4.cell? ⟨w.heap.size + 1, 0, none⟩ = some b := by
  have st : ∀ (w : World) (o : Obj), Below w.heap.size w (w.alloc o) := fun w o => (Below.refl _ _).alloc (Nat.le_refl _) _
  refine ⟨_, rfl, ?_, ?_, ?_⟩
  · exact ((Below.refl _ _).alloc (Nat.le_refl _) _).alloc (by simp) _
  · exact cell_below (st _ _) (Nat.le_refl _) (one_at _ _ _ _ rfl)
  · exact one_at _ _ _ _ (by simp)
/-- An inner function's answer, as each asks it. -/
theorem fc_of {lv : Value} {f : Pt → Option Pt} {p : Pt} {w W : World} {e : Ending} {w' : World} (hs : Sl lenc w lv p.1) (h : S1R lv f p W e w') :
    Below W.heap.size W w' ∧ ∃ a n c y, e = .returned (.tuple #[.agg #[.slice a n c, .float .f64 y], .bool (f p).isSome]) ∧
      ∀ q, f p = some q → y = q.2 ∧ Sl lenc w' (.slice a n c) q.1 ∧ (q.1 ≠ [] → ∀ j, (Value.slice a n c).ownBlock = some j → j < w.heap.size ∨ W.heap.size ≤ j) := by
  obtain ⟨hb', a, n, c, y, rfl, hq⟩ := h
  refine ⟨hb', a, n, c, y, rfl, fun q hfq => ?_⟩
  obtain ⟨e1, e2, e3⟩ := hq q hfq
  refine ⟨e1, e2, fun hne j hj => ?_⟩
  rcases e3 j hj with he | he
  · by_cases hpn : p.1 = []
    · right
      obtain ⟨a0, c0', e0, _, _, hcc⟩ := e2
      obtain ⟨a1, c1', e1', _, _, _⟩ := hs
      rw [hpn] at e1'
      rw [e1'] at he
      rw [he] at e0
      injection e0 with _ e0 _
      exact absurd (List.eq_nil_of_length_eq_zero e0.symm) hne
    · left
      obtain ⟨b, e4, e5⟩ := hs.lt hpn
      rw [he, e4] at hj
      injection hj with hj
      omega
  · exact .inr he
set_option maxHeartbeats 4000000 in
theorem map_any (v : Value) (ps : List Pt) (fn : Int) (x : Nat) (w : World) (h : VS w v ps) (hl : ps.length ≤ 100000) (hz : ∀ p ∈ ps, p.1.length ≤ 1000000) :
    Calls Try.prog 17 #[v, .int .i64 fn, .float .f64 x] w fun e w' => Below w.heap.size w w' ∧ NRor (fnOk fn) (ps.filterMap (fnF fn x)) e w' := by
  have hmf : ∀ (fn : Fn) (first cap : Array Value) (w : World), (Instr.makeFunc fn first cap).run Try.prog w = .ok (.func fn first cap) w := fun _ _ _ _ => rfl
  obtain ⟨w4, hw4, hb4, c0, c1⟩ := two_boxes w (.int .i64 fn) (.float .f64 x) 3 32
  have HFN := Lib.hid (fun w => fn_any fn 0 0 w)
  obtain ⟨ok, hok⟩ : ∃ b, b = fnOk fn := ⟨_, rfl⟩
  rw [← hok] at HFN ⊢
  have HVS := Lib.hid h
  obtain ⟨a, cap, rfl, hlen, -⟩ := h.split
  obtain ⟨N, hN⟩ : ∃ N, N = ps.length := ⟨_, rfl⟩
  rw [← hN] at HVS hlen ⊢
  have HB4 := Lib.hid hb4
  have HW4 := Lib.hid hw4
  have HC0 := Lib.hid c0
  have HC1 := Lib.hid c1
  have HOK := Lib.hid hok
  have HHZ := Lib.hid hz
  have hN2 : N ≤ 100000 := by omega
  have HN := Lib.hid hN
  clear h hb4 hw4 c0 c1 hok hz hN
  cases ok with
  | false =>
    go_enter Try.func17, Try.ntmps17
    go_wp2_with fail
    rw [← HW4.out]
    refine (HFN.out _).mono ?_
    rintro e w1 ⟨⟨y, rfl, -⟩, n1, rfl⟩
    go_wp2_with fail
    go_ret2
    exact ⟨below_drewN HB4.out _, rfl⟩
  | true =>
    go_enter Try.func17, Try.ntmps17
    go_wp2_with fail
    rw [← HW4.out]
    refine (HFN.out _).mono ?_
    rintro e w1 ⟨⟨y, rfl, -⟩, n1, rfl⟩
    have HB5 := Lib.hid (below_drewN HB4.out n1)
    have hc0 : (w4.drewN n1).cell? ⟨w.heap.size, 0, none⟩ = some (.int .i64 fn) := HC0.out
    have hc1 : (w4.drewN n1).cell? ⟨w.heap.size + 1, 0, none⟩ = some (.float .f64 x) := HC1.out
    have HE := Lib.hid (each_any 46 #[.pointer (some ⟨w.heap.size, 0, none⟩), .pointer (some ⟨w.heap.size + 1, 0, none⟩)] (fun args w => by rfl) (fnF fn x) _ ps (w4.drewN n1) (HVS.out.below HB5.out (Nat.le_refl _)) (by rw [← HN.out]; exact hN2) (fun p hp lv hs W hb =>
      (map1_any lv p.1 p.2 x fn _ _ W (hs.below hb (Nat.le_refl _)) (HHZ.out p hp) HOK.out.symm (cell_below hb (Nat.le_refl _) hc0) (cell_below hb (Nat.le_refl _) hc1)).mono fun e w' h => fc_of hs h))
    clear hc0 hc1
    generalize w4.drewN n1 = w5 at HB5 HE ⊢
    go_wp2_with fail
    refine HE.out.mono ?_
    rintro e w2 ⟨hb2, hn⟩
    have HB2 := Lib.hid (HB5.out.trans (hb2.mono HB5.out.size))
    have HNR := Lib.hid hn
    rcases hn with ⟨-, rfl⟩ | ⟨-, -, rfl⟩ | ⟨-, qs, v', -, -, rfl, hv⟩
    · go_wp2_with fail
      go_ret2
      exact ⟨HB2.out, HNR.out⟩
    · go_wp2_with fail
      go_ret2
      exact ⟨HB2.out, HNR.out⟩
    · obtain ⟨a5, c5, rfl, -, -⟩ := hv.split
      clear hv
      go_wp2_with fail
      go_ret2
      exact ⟨HB2.out, HNR.out⟩
end Go.Proofs.Ytkflhfdpdgnbfaa
