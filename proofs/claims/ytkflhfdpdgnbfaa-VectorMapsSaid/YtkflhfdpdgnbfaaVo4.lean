/- Scaled's inner function. -/
import Derived.Test.YtkflhfdpdgnbfaaVo1
import Derived.Test.YtkflhfdpdgnbfaaVo2
import Derived.Test.YtkflhfdpdgnbfaaVo3
namespace Go.Proofs.Ytkflhfdpdgnbfaa
open Go Go.RowKit
set_option linter.unusedVariables false
set_option linter.unusedSimpArgs false
set_option maxRecDepth 100000
/-- An operator of a point and a number. -/
def sideF (left : Bool) (x y : Nat) : Nat × Nat := if left then (x, y) else (y, x)
def filterF (op : Int) (x : Nat) (left : Bool) (p : Pt) : Option Pt := if holdsF op (sideF left x p.2).1 (sideF left x p.2).2 = true then some p else none
def mapF (op : Int) (x : Nat) (left : Bool) (p : Pt) : Option Pt := some (namelessL p.1, opV op (sideF left x p.2).1 (sideF left x p.2).2)
def scaleF (op : Int) (x : Nat) (left flag : Bool) : Pt → Option Pt := if 5 ≤ op ∧ flag = false then filterF op x left else mapF op x left
theorem cell_lt {w w' : World} {B : Nat} {p : Addr} {u : Value} (hb : Below B w w') (hp : p.block < B) (h : w.cell? p = some u) : w'.cell? p = some u := by rw [hb.cell hp]; exact h
theorem results_cell {P : Program} {fn : Func} {s u : Tmp} {t : TypeId} (h : fn.results = #[.cell s t, .tmp u]) (tmps : Array Value) (w : World) (ad : Addr) (v : Value) (ht : tmps.getD s undef = .pointer (some ad)) (hl : (loadVar t ad).run P w = .ok v w) :
    (results fn tmps).run P w = .ok (.tuple #[v, tmps.getD u undef]) w := by
  have ht2 : tmps[s]?.getD undef = .pointer (some ad) := by simpa using ht
  simp [results, h, ht2, asAddr, hl]
theorem isAggPt (w : World) : (isAgg 35).run Try.prog w = .ok true w := by rfl
theorem sizeOfPt (w : World) : (sizeOf 35).run Try.prog w = .ok 2 w := by rfl
theorem loadPt (w : World) (g : Nat) (u v : Value) (h0 : w.cell? ⟨g, 0, none⟩ = some u) (h1 : w.cell? ⟨g, 1, none⟩ = some v) : (loadVar 35 ⟨g, 0, none⟩).run Try.prog w = .ok (.agg #[u, v]) w := by
  have hc := run_loadCells_list (P := Try.prog) (w := w) ⟨g, 0, none⟩ [u, v] (fun j x hj => by
    match j, hj with
    | 0, hj => simp at hj; subst hj; simpa [Addr.add] using h0
    | 1, hj => simp at hj; subst hj; simpa [Addr.add] using h1)
  simp only [List.length_cons, List.length_nil] at hc
  simp [loadVar, isAggPt, sizeOfPt, hc]
/-- What the inner function answers. -/
def S1R (lv : Value) (f : Pt → Option Pt) (p : Pt) (w : World) (e : Ending) (w' : World) : Prop :=
  Below w.heap.size w w' ∧ ∃ a n c y, e = .returned (.tuple #[.agg #[.slice a n c, .float .f64 y], .bool (f p).isSome]) ∧
      ∀ q, f p = some q → y = q.2 ∧ Sl lenc w' (.slice a n c) q.1 ∧ (∀ j, (Value.slice a n c).ownBlock = some j → .slice a n c = lv ∨ w.heap.size ≤ j)
set_option maxHeartbeats 4000000 in
theorem scaled1_filter (lv : Value) (l : List Lb) (y x : Nat) (left : Bool) (op : Int) (px pl po pf : Nat) (w : World) (h : Sl lenc w lv l) (hl : l.length ≤ 1000000) (h5 : 5 ≤ op) (h10 : op ≤ 10)
    (hx : w.cell? ⟨px, 0, none⟩ = some (.float .f64 x)) (hlf : w.cell? ⟨pl, 0, none⟩ = some (.bool left)) (ho : w.cell? ⟨po, 0, none⟩ = some (.int .i64 op)) (hf : w.cell? ⟨pf, 0, none⟩ = some (.bool false)) :
    Calls Try.prog 38 #[.agg #[lv, .float .f64 y], .pointer (some ⟨px, 0, none⟩), .pointer (some ⟨pl, 0, none⟩), .pointer (some ⟨po, 0, none⟩), .pointer (some ⟨pf, 0, none⟩)] w fun e w' => S1R lv (filterF op x left) (l, y) w e w' := by
  have HS := Lib.hid h
  obtain ⟨a2, c2, rfl, -, -⟩ := h
  obtain ⟨n2, hn2⟩ : ∃ n, n = l.length := ⟨_, rfl⟩
  rw [← hn2] at HS ⊢
  clear hn2
  have hbx : px < w.heap.size := World.block_lt_of_cell? w _ hx
  have hbl : pl < w.heap.size := World.block_lt_of_cell? w _ hlf
  have hbo : po < w.heap.size := World.block_lt_of_cell? w _ ho
  have hbf : pf < w.heap.size := World.block_lt_of_cell? w _ hf
  have hnx : px ≠ w.heap.size := by omega
  have hnl : pl ≠ w.heap.size := by omega
  have hno : po ≠ w.heap.size := by omega
  have hnf : pf ≠ w.heap.size := by omega
  have hnx1 : px ≠ w.heap.size + 1 := by omega
  have hnl1 : pl ≠ w.heap.size + 1 := by omega
  have hno1 : po ≠ w.heap.size + 1 := by omega
  have hnf1 : pf ≠ w.heap.size + 1 := by omega
  have h5b : decide (5 ≤ op) = true := decide_eq_true h5
  have HH := Lib.hid (fun w => holds_any op (sideF left x y).1 (sideF left x y).2 w)
  obtain ⟨r, hr⟩ : ∃ r, r = holdsF op (sideF left x y).1 (sideF left x y).2 := ⟨_, rfl⟩
  rw [← hr] at HH
  have HR := Lib.hid hr
  clear hr
  cases left
  all_goals
    simp only [sideF, if_true, if_false, Bool.false_eq_true] at HH
    go_enter Try.func38, Try.ntmps38
    go_wp2_with fail
    have q0 : ((w.alloc (.cells #[.slice a2 n2 c2, .float .f64 y] 35)).alloc (.cells #[.slice none 0 0, .float .f64 0] 35)).cell? ⟨w.heap.size, 0, none⟩ = some (.slice a2 n2 c2) := by simp
    have q1 : ((w.alloc (.cells #[.slice a2 n2 c2, .float .f64 y] 35)).alloc (.cells #[.slice none 0 0, .float .f64 0] 35)).cell? ⟨w.heap.size, 1, none⟩ = some (.float .f64 y) := by simp
    have hblk : ((w.alloc (.cells #[.slice a2 n2 c2, .float .f64 y] 35)).alloc (.cells #[.slice none 0 0, .float .f64 0] 35)).heap[w.heap.size + 1]? = some (.cells #[.slice none 0 0, .float .f64 0] 35 (0, 0)) := by
      have := heap_new (w.alloc (.cells #[.slice a2 n2 c2, .float .f64 y] 35)) (.cells #[.slice none 0 0, .float .f64 0] 35); simpa using this
    have hb1 : Below w.heap.size w ((w.alloc (.cells #[.slice a2 n2 c2, .float .f64 y] 35)).alloc (.cells #[.slice none 0 0, .float .f64 0] 35)) := ((Below.refl _ _).alloc (Nat.le_refl _) _).alloc (by simp) _
    obtain ⟨g5, hg5⟩ : ∃ g, g = w.heap.size := ⟨_, rfl⟩
    obtain ⟨g6, hg6⟩ : ∃ g, g = w.heap.size + 1 := ⟨_, rfl⟩
    have e1 := cell_below hb1 (Nat.le_refl _) hx
    have e2 := cell_below hb1 (Nat.le_refl _) hlf
    have e3 := cell_below hb1 (Nat.le_refl _) ho
    have e4 := cell_below hb1 (Nat.le_refl _) hf
    rw [← hg5] at q0 q1 hnx hnl hno hnf
    rw [← hg6] at hblk hnx1 hnl1 hno1 hnf1
    rw [← hg6, ← hg5]
    generalize ((w.alloc (.cells #[.slice a2 n2 c2, .float .f64 y] 35)).alloc (.cells #[.slice none 0 0, .float .f64 0] 35)) = w1 at q0 q1 hblk hb1 e1 e2 e3 e4 ⊢
    have hne : g5 ≠ g6 := by omega
    have HB1 := Lib.hid hb1
    have HG5 := Lib.hid hg5
    have HG6 := Lib.hid hg6
    clear hb1 hg5 hg6 hx hlf ho hf
    go_quiet (fail)
    go_wp2_with fail
    have r0 : (w1.drewN nq).cell? ⟨g5, 0, none⟩ = some (.slice a2 n2 c2) := q0
    have r1 : (w1.drewN nq).cell? ⟨g5, 1, none⟩ = some (.float .f64 y) := q1
    have f3 : (w1.drewN nq).cell? ⟨po, 0, none⟩ = some (.int .i64 op) := e3
    have hblk2 : (w1.drewN nq).heap[g6]? = some (.cells #[.slice none 0 0, .float .f64 0] 35 (0, 0)) := hblk
    have HB2 := Lib.hid (below_drewN HB1.out nq)
    clear q0 q1 e1 e2 e3 e4 hblk
    generalize w1.drewN nq = w2 at r0 r1 f3 hblk2 HB2 ⊢
    have c0 : w2.cell? ⟨g6, 0, none⟩ = some (.slice none 0 0) := by rw [cell_of_row w2 g6 0 _ _ _ hblk2]; rfl
    have c1 : w2.cell? ⟨g6, 1, none⟩ = some (.float .f64 0) := by rw [cell_of_row w2 g6 1 _ _ _ hblk2]; rfl
    have z0 : w2.frozen? ⟨g6, 0, none⟩ = false := by simp [World.frozen?, hblk2]
    have z1 : w2.frozen? ⟨g6, 1, none⟩ = false := by simp [World.frozen?, hblk2]
    have hnog : po ≠ g6 := hno1
    have hg56 : g5 < g6 := by have := HG5.out; have := HG6.out; omega
    have hpo6 : po < g6 := by have := HG6.out; omega
    go_region_held3 (fun w' => w'.cell? ⟨g5, 0, none⟩ = some (.slice a2 n2 c2) ∧ w'.cell? ⟨g5, 1, none⟩ = some (.float .f64 y) ∧ w'.cell? ⟨po, 0, none⟩ = some (.int .i64 op))
      (first
        | exact ⟨r0, r1, f3⟩
        | exact ⟨cell_lt (B := g6) (by go_grown) hg56 r0, cell_lt (B := g6) (by go_grown) hg56 r1, cell_lt (B := g6) (by go_grown) hpo6 f3⟩
        | exact ⟨cell_lt (B := g6) (((Below.refl g6 _).setCell (Nat.le_refl _) _).setCell (Nat.le_refl _) _) hg56 r0, cell_lt (B := g6) (((Below.refl g6 _).setCell (Nat.le_refl _) _).setCell (Nat.le_refl _) _) hg56 r1, cell_lt (B := g6) (((Below.refl g6 _).setCell (Nat.le_refl _) _).setCell (Nat.le_refl _) _) hpo6 f3⟩)
      (first
        | (go_at_call 39
           refine (HH.out _).mono ?_
           rintro e w8 ⟨rfl, rfl⟩))
    go_wp2_with fail
    have hbS : Below g6 w2 (((w2.setCell ⟨g6, 0, none⟩ (.slice a2 n2 c2)).setCell ⟨g6, 1, none⟩ (.float .f64 y)).drew) := (((Below.refl g6 _).setCell (Nat.le_refl _) _).setCell (Nat.le_refl _) _).drew
    have HBF := Lib.hid (HB2.out.trans (hbS.mono (by have := HG6.out; omega)))
    have s0 : (((w2.setCell ⟨g6, 0, none⟩ (.slice a2 n2 c2)).setCell ⟨g6, 1, none⟩ (.float .f64 y)).drew).cell? ⟨g6, 0, none⟩ = some (.slice a2 n2 c2) := by simp [go_sem, c0, c1]
    have s1 : (((w2.setCell ⟨g6, 0, none⟩ (.slice a2 n2 c2)).setCell ⟨g6, 1, none⟩ (.float .f64 y)).drew).cell? ⟨g6, 1, none⟩ = some (.float .f64 y) := by simp [go_sem, c0, c1]
    generalize (((w2.setCell ⟨g6, 0, none⟩ (.slice a2 n2 c2)).setCell ⟨g6, 1, none⟩ (.float .f64 y)).drew) = w9 at s0 s1 HBF ⊢
    refine bodyPost_ret (results_cell (t := 35) rfl _ _ _ _ rfl (loadPt _ _ _ _ s0 s1)) rfl ?_
    refine ⟨HBF.out, a2, n2, c2, y, ?_, fun q hq => ?_⟩
    · unfold filterF; rw [← HR.out]; cases r <;> rfl
    · unfold filterF at hq
      rw [← HR.out] at hq
      cases r
      · cases hq
      · injection hq with hq
        subst hq
        exact ⟨rfl, HS.out.below HBF.out (Nat.le_refl _), fun j _ => .inl rfl⟩
end Go.Proofs.Ytkflhfdpdgnbfaa
