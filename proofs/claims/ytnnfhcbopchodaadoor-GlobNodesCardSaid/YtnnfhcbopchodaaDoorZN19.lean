/- Chapter 4's reach: all that can be come to without a byte. (Printed by gen_rm5.py.) Chapter 4's Match. GlobNodes: the walk. (Several texts in one file, by merge.py.) -/
import Derived.Test.YtnnfhcbopchodaaDoorZN16
import Derived.Test.YtnnfhcbopchodaaDoorZN18
import Derived.Test.YtnnfhcbopchodaaDoorZN12
import Derived.Test.YtnnfhcbopchodaaDoorZN5
import Derived.Test.YtnnfhcbopchodaaDoorZN11
import Derived.Test.YtnnfhcbopchodaaDoorZN10
import Derived.Test.YtnnfhcbopchodaaDoorZN13
namespace Go.Proofs.YtnnfhcbopchodaaDoor
open Go Go.RowKit
set_option linter.unusedVariables false
set_option linter.unusedSimpArgs false
set_option maxRecDepth 100000
def bools (d : List Bool) : List Value := d.map Value.bool
/-- A row of truths that is one's own. -/
def BoolsO (w : World) (N h : Nat) (d : List Bool) : Prop := w.ownsRow N 4 1 (.slice (some ⟨h, 0, none⟩) d.length d.length) d.length (bools d)
theorem BoolsO.cell {w : World} {N h : Nat} {d : List Bool} (hb : BoolsO w N h d) {k : Nat} {b : Bool} (hk : d[k]? = some b) : w.cell? ⟨h, k, none⟩ = some (.bool b) := by
  have := World.ownsRow.cells hb (g := h) rfl k (.bool b) (by unfold bools; rw [List.getElem?_map, hk]; rfl)
  rw [Addr.add_lit, Nat.zero_add] at this
  exact this
theorem BoolsO.put {w : World} {N h : Nat} {d : List Bool} (hb : BoolsO w N h d) (k : Nat) : BoolsO (w.setCell ⟨h, k, none⟩ (.bool true)) N h (d.set k true) := by
  unfold BoolsO at *
  rw [List.length_set, show bools (d.set k true) = (bools d).set k (.bool true) by unfold bools; rw [List.map_set]]
  exact (World.ownsRow.stored hb _ _).1
theorem BoolsO.frozen {w : World} {N h : Nat} {d : List Bool} (hb : BoolsO w N h d) (j : Nat) : w.frozen? ⟨h, j, none⟩ = false := World.ownsRow.frozenAt hb j
theorem reachP_cons {P : List In} {f k : Nat} {d r : List Bool} {ws : List Nat} (h : reachP P (f + 1) d (k :: ws) = some r) : ∃ i b, P[k]? = some i ∧ d[k]? = some b ∧ (if b = true then reachP P f d ws else reachP P f (d.set k true) (tgs i ws)) = some r := by
  unfold reachP at h
  cases hi : P[k]? with
  | none => rw [hi] at h; cases h
  | some i =>
    cases hb : d[k]? with
    | none => rw [hi, hb] at h; cases h
    | some b => rw [hi, hb] at h; exact ⟨i, b, rfl, rfl, h⟩
/-- Where reach stands. -/
structure RS (P : List In) (n N g cap Nb h : Nat) (w : World) (v : Value) (ws : List Nat) (d : List Bool) (wr : World) : Prop where
  p : InsO wr N (.slice (some ⟨g, 0, none⟩) P.length cap) P
  b : BoolsO wr Nb h d
  o : IntsO wr n v ws
  k : Kp (· = h) w wr
theorem RS.kp {P : List In} {n N g cap Nb h : Nat} {w : World} {v v' : Value} {ws ws' : List Nat} {d : List Bool} {wr w1 : World} {C : Nat → Prop} (hn : w.heap.size = n) (hg : g < n) (hh : h < n) (r : RS P n N g cap Nb h w v ws d wr) (k : Kp C wr w1) (hc : ∀ b, C b → n ≤ b) (hw : IntsO w1 n v' ws') : RS P n N g cap Nb h w v' ws' d w1 :=
  ⟨r.p.kp k (fun b hb _ hC => by have := hc b hC; have : g = b := (by simpa [Value.ownBlock] using hb); omega), own_kp r.b k (fun b hb _ hC => by have := hc b hC; have : h = b := (by simpa [Value.ownBlock] using hb); omega), hw, r.k.trans_new k (fun b hb => .inr (by have := hc b hb; omega))⟩
theorem RS.put {P : List In} {n N g cap Nb h : Nat} {w : World} {v : Value} {ws : List Nat} {d : List Bool} {wr : World} (hgh : g ≠ h) (hn : w.heap.size = n) (hh : h < n) (r : RS P n N g cap Nb h w v ws d wr) (k : Nat) : RS P n N g cap Nb h w v ws (d.set k true) (wr.setCell ⟨h, k, none⟩ (.bool true)) := by
  have kk : Kp (· = h) wr (wr.setCell ⟨h, k, none⟩ (.bool true)) := (Kp.refl (· = h) wr).setCell (p := ⟨h, k, none⟩) (.inl rfl) _
  exact ⟨r.p.kp kk (fun b hb _ hC => by have : g = b := (by simpa [Value.ownBlock] using hb); omega), r.b.put k, own_kp r.o kk (fun b hb hl hC => by omega), r.k.trans kk⟩
set_option maxHeartbeats 4000000 in
theorem reach_any (P : List In) (f : Nat) (d r : List Bool) (k : Nat) (N g cap Nb h : Nat) (w : World) (hP : InsO w N (.slice (some ⟨g, 0, none⟩) P.length cap) P) (hB : BoolsO w Nb h d) (hgh : g ≠ h) (hd : d.length = P.length) (hl : P.length ≤ 50000) (hin : ∀ x ∈ P, x.a < P.length ∧ x.b < P.length) (hr : reachP P f d [k] = some r) (hf : f ≤ 200000) (hk : k ≤ 200000) :
    Calls Tryd.prog 31 #[.slice (some ⟨g, 0, none⟩) P.length cap, .slice (some ⟨h, 0, none⟩) P.length P.length, .int .i64 k] w fun e w' => e = .returned (.tuple #[]) ∧ BoolsO w' Nb h r ∧ Kp (· = h) w w' ∧ r.length = P.length := by
  obtain ⟨n, hn⟩ : ∃ n, w.heap.size = n := ⟨_, rfl⟩
  have HNN := Lib.hid hn
  have hgn : g < n := by rw [← hn]; exact (own_bd hP (b := g) rfl).2
  have hhn : h < n := by rw [← hn]; exact (own_bd hB (b := h) rfl).2
  have HP := Lib.hid hP
  have HB := Lib.hid hB
  have HD := Lib.hid hd
  have HIN := Lib.hid hin
  have HR := Lib.hid hr
  clear hP hB hd hin hr hn
  go_enter Tryd.func31, Tryd.ntmps31
  go_wp2_with fail
  have HS0 := Lib.hid (show RS P n N g cap Nb h w (.slice (some ⟨w.heap.size, 0, none⟩) 1 1) [k] d (w.alloc (.cells #[.int .i64 (k : Int)] 3)) from
    RS.kp HNN.out hgn hhn (v := .slice none 0 0) (ws := []) ⟨HP.out, HB.out, World.ownsRow_nil _ _ _ _, Kp.refl _ _⟩ ((Kp.refl (fun _ => False) w).alloc _) (fun _ h => h.elim) (World.ownsRow_lit w #[.int .i64 (k : Int)] 1 (Nat.le_of_eq HNN.out.symm) (by decide) rfl))
  go_loopg [6] f (fun gk v wr => ∃ (ws : List Nat) (dd : List Bool), Hid (RS P n N g cap Nb h w v ws.reverse dd wr) ∧ Hid (reachP P gk dd ws = some r) ∧ Hid (dd.length = P.length) ∧ ws.length + gk ≤ 200001)
  case atStart => exact ⟨[k], d, HS0.out, HR.out, HD.out, by rw [List.length_singleton]; omega⟩
  case round =>
    obtain ⟨ws, dd, HS, HV, HL, hlen⟩ := hrel
    clear HS0 HP HB HR
    cases gk with
    | zero => exact absurd HV.out (by unfold reachP; exact fun h => by cases h)
    | succ f2 =>
      cases ws with
      | nil =>
        obtain ⟨av, cv, hv⟩ := own_slice HS.out.o
        rw [List.reverse_nil, List.length_nil] at hv
        subst hv
        go_wp2_with fail
        go_end0
        have hv := HV.out
        unfold reachP at hv
        injection hv with hv
        subst hv
        exact ⟨rfl, HS.out.b, HS.out.k, HL.out⟩
      | cons k1 ws =>
        obtain ⟨i1, b1, hi1, hb1, hv1⟩ := reachP_cons HV.out
        have hk1 : k1 < P.length := (List.getElem?_eq_some_iff.1 hi1).1
        obtain ⟨g6, c6, hv⟩ := own_some HS.out.o (by rw [List.length_reverse, List.length_cons]; omega)
        rw [List.length_reverse, List.length_cons] at hv
        subst hv
        obtain ⟨m, hm⟩ : ∃ m, m = ws.length := ⟨_, rfl⟩
        have hwo : wr.ownsRow n 3 1 (.slice (some ⟨g6, 0, none⟩) (m + 1) c6) (m + 1) (ints ws.reverse ++ [.int .i64 (k1 : Int)]) := by
          have := HS.out.o
          unfold IntsO at this
          rw [List.length_reverse, List.length_cons, List.reverse_cons, ints_app, ← hm] at this
          exact this
        have HPOP := Lib.hid (show IntsO wr n (.slice (some ⟨g6, 0, none⟩) m c6) ws.reverse by
          unfold IntsO
          rw [List.length_reverse, ← hm]
          exact ownsRow_pop (by rw [ints_len, List.length_reverse, Nat.mul_one, hm]) hwo)
        have ct0 : wr.cell? ⟨g6, m, none⟩ = some (.int .i64 (k1 : Int)) := by
          have := World.ownsRow.cells hwo (g := g6) rfl m (.int .i64 (k1 : Int)) (by rw [List.getElem?_append_right (by rw [ints_len, List.length_reverse, hm]; exact Nat.le_refl _), ints_len, List.length_reverse, hm, Nat.sub_self]; rfl)
          rw [Addr.add_lit, Nat.zero_add] at this
          exact this
        have cb : wr.cell? ⟨h, k1, none⟩ = some (.bool b1) := HS.out.b.cell hb1
        have fb := HS.out.b.frozen k1
        have hmc : m + 1 ≤ c6 := by
          have h3 := own_cap hwo
          exact h3
        rw [← hm]
        have hm2 : m + 1 + (f2 + 1) ≤ 200001 := by rw [hm]; simpa using hlen
        have hwr : IntKind.i64.wrap (m : Int) = (m : Int) := by rw [IntKind.wrap_i64] <;> omega
        have hix0 : (0 : Int) ≤ (m : Int) := by omega
        have hix1 : (m : Int) < (m : Int) + 1 := by omega
        have hix2 : (m : Int) < ((m + 1 : Nat) : Int) := by omega
        have hix3 : m < m + 1 := by omega
        have HM := Lib.hid hm
        have HI1 := Lib.hid hi1
        have HV1 := Lib.hid hv1
        clear hi1 hb1 hv1 hwo hm HV hlen
        cases b1 with
        | true =>
          go_wp2_with fail
          go_roundg f2
          case measure => omega
          case rel => exact ⟨ws, dd, ⟨HS.out.p, HS.out.b, HPOP.out, HS.out.k⟩, HV1.out, HL.out, by have := HM.out; omega⟩
        | false =>
          have HV2 := Lib.hid (show reachP P f2 (dd.set k1 true) (tgs i1 ws) = some r from HV1.out)
          go_upto_region 6 with fail
          have HS2 := Lib.hid (show RS P n N g cap Nb h w (.slice (some ⟨g6, 0, none⟩) m c6) ws.reverse (dd.set k1 true) (wr.setCell ⟨h, k1, none⟩ (.bool true)) from RS.put hgh HNN.out hhn ⟨HS.out.p, HS.out.b, HPOP.out, HS.out.k⟩ k1)
          generalize wr.setCell ⟨h, k1, none⟩ (.bool true) = w2 at HS2 ⊢
          clear ct0 cb fb HS HPOP HV1
          obtain ⟨kd, hkd⟩ : ∃ kd, kd = i1.kind := ⟨_, rfl⟩
          obtain ⟨ia, hia⟩ : ∃ ia, ia = i1.a := ⟨_, rfl⟩
          obtain ⟨ib, hib⟩ : ∃ ib, ib = i1.b := ⟨_, rfl⟩
          have cK : w2.cell? ⟨g, k1 * 259, none⟩ = some (.int .i64 (kd : Int)) := by rw [hkd]; exact HS2.out.p.cell HI1.out (j := 0) (by decide) (ienc_0 i1)
          have cA : w2.cell? ⟨g, k1 * 259 + 257, none⟩ = some (.int .i64 (ia : Int)) := by rw [hia]; exact HS2.out.p.cell HI1.out (j := 257) (by decide) (ienc_a i1)
          have cB : w2.cell? ⟨g, k1 * 259 + 258, none⟩ = some (.int .i64 (ib : Int)) := by rw [hib]; exact HS2.out.p.cell HI1.out (j := 258) (by decide) (ienc_b i1)
          have HIA := Lib.hid hia
          have HIB := Lib.hid hib
          have HI1' := Lib.hid HI1.out
          have hin1 : ia < P.length ∧ ib < P.length := by rw [hia, hib]; exact HIN.out _ (List.mem_of_getElem? HI1.out)
          have HT2 := Lib.hid (show kd = 2 → tgs i1 ws = ib :: ia :: ws from fun h => by unfold tgs; rw [if_pos (by rw [← hkd]; exact h), hia, hib])
          have HT3 := Lib.hid (show kd ≠ 2 → kd = 3 → tgs i1 ws = ia :: ws from fun h h' => by unfold tgs; rw [if_neg (by rw [← hkd]; exact h), if_pos (by rw [← hkd]; exact h'), hia])
          have HT0 := Lib.hid (show kd ≠ 2 → kd ≠ 3 → tgs i1 ws = ws from fun h h' => by unfold tgs; rw [if_neg (by rw [← hkd]; exact h), if_neg (by rw [← hkd]; exact h')])
          clear hkd hia hib
          by_cases h2 : kd = 2
          · have e2 : ((kd : Int) == 2) = true := by rw [h2]; rfl
            have h2' := h2
            obtain ⟨i0, hi, hz0, hz1, hz2⟩ := info_parts Tryd.infoIt
            have HI := Lib.hid hi
            have HI0 := Lib.hid hz0
            have HI1 := Lib.hid hz1
            have HI2 := Lib.hid hz2
            clear hi hz0 hz1 hz2
            have H2 := Lib.hid h2
            clear h2 h2'
            go_upto_region 8 with fail
            have mixed : Tryd.prog.follows .mixedOrders = true := by kernel_rfl
            have hT : TCon (fun w => w.cell? ⟨g, k1 * 259 + 257, none⟩ = some (.int .i64 (ia : Int)) ∧ w.cell? ⟨g, k1 * 259 + 258, none⟩ = some (.int .i64 (ib : Int))) #[] w2.drew := ⟨cA, cB⟩
            refine wp_region_T (TCon fun w => w.cell? ⟨g, k1 * 259 + 257, none⟩ = some (.int .i64 (ia : Int)) ∧ w.cell? ⟨g, k1 * 259 + 258, none⟩ = some (.int .i64 (ib : Int))) mixed ?_
            refine anyT_take (i := 0) (oi := ?oi0) (v := ?vv0) ?hh0 (by kernel_rfl) (by kernel_rfl) (by kernel_rfl) ?qq0 (tcon_ins 0) (Or.inl ⟨?wd0, ?yy0⟩) hT ?rest0
            case hh0 => simp only [List.getElem?_toArray, List.getElem?_cons_succ, List.getElem?_cons_zero]; try rfl
            case qq0 => exact fun _ _ _ h => h
            case wd0 => rfl
            case yy0 => (intro w hSw; go_simp; try with_reducible rfl)
            try simp only [Act.put, List.setIfInBounds_toArray, List.set_cons_zero, List.set_cons_succ]
            refine anyT_take (i := 1) (oi := ?oi1) (v := ?vv1) ?hh1 (by kernel_rfl) (by kernel_rfl) (by kernel_rfl) ?qq1 (tcon_ins 1) (Or.inl ⟨?wd1, ?yy1⟩) hT ?rest1
            case hh1 => simp only [List.getElem?_toArray, List.getElem?_cons_succ, List.getElem?_cons_zero]; try rfl
            case qq1 => exact fun _ _ _ h => h
            case wd1 => rfl
            case yy1 => (intro w hSw; go_simp; try with_reducible rfl)
            try simp only [Act.put, List.setIfInBounds_toArray, List.set_cons_zero, List.set_cons_succ]
            refine anyT_take (i := 2) (oi := ?oi2) (v := ?vv2) ?hh2 (by kernel_rfl) (by kernel_rfl) (by kernel_rfl) ?qq2 (tcon_ins 2) (Or.inl ⟨?wd2, ?yy2⟩) hT ?rest2
            case hh2 => simp only [List.getElem?_toArray, List.getElem?_cons_succ, List.getElem?_cons_zero]; try rfl
            case qq2 => exact fun _ _ _ h => h
            case wd2 => rfl
            case yy2 => (intro w hSw; go_simp; try with_reducible rfl)
            try simp only [Act.put, List.setIfInBounds_toArray, List.set_cons_zero, List.set_cons_succ]
            refine anyT_take (i := 3) (oi := ?oi3) (v := ?vv3) ?hh3 (by kernel_rfl) (by kernel_rfl) (by kernel_rfl) ?qq3 (tcon_ins 3) (Or.inl ⟨?wd3, ?yy3⟩) hT ?rest3
            case hh3 => simp only [List.getElem?_toArray, List.getElem?_cons_succ, List.getElem?_cons_zero]; try rfl
            case qq3 => exact fun _ _ _ h => h
            case wd3 => rfl
            case yy3 => (intro w hSw; go_simp; try with_reducible rfl)
            try simp only [Act.put, List.setIfInBounds_toArray, List.set_cons_zero, List.set_cons_succ]
            refine anyT_take (i := 4) (oi := ?oi4) (v := ?vv4) ?hh4 (by kernel_rfl) (by kernel_rfl) (by kernel_rfl) ?qq4 (tcon_ins 4) (Or.inl ⟨?wd4, ?yy4⟩) hT ?rest4
            case hh4 => simp only [List.getElem?_toArray, List.getElem?_cons_succ, List.getElem?_cons_zero]; try rfl
            case qq4 => exact fun _ _ _ h => h
            case wd4 => rfl
            case yy4 => (intro w hSw; go_simp; try with_reducible rfl)
            try simp only [Act.put, List.setIfInBounds_toArray, List.set_cons_zero, List.set_cons_succ]
            refine anyT_take (i := 5) (oi := ?oi5) (v := ?vv5) ?hh5 (by kernel_rfl) (by kernel_rfl) (by kernel_rfl) ?qq5 (tcon_ins 5) (Or.inl ⟨?wd5, ?yy5⟩) hT ?rest5
            case hh5 => simp only [List.getElem?_toArray, List.getElem?_cons_succ, List.getElem?_cons_zero]; try rfl
            case qq5 => exact fun _ _ _ h => h
            case wd5 => rfl
            case yy5 => (intro w hSw; obtain ⟨d9, hcd, hrd, hTd⟩ := hSw; have hcA := hTd.1; have hcB := hTd.2; clear hTd hcd hrd; go_simp; try with_reducible rfl)
            try simp only [Act.put, List.setIfInBounds_toArray, List.set_cons_zero, List.set_cons_succ]
            refine anyT_take (i := 6) (oi := ?oi6) (v := ?vv6) ?hh6 (by kernel_rfl) (by kernel_rfl) (by kernel_rfl) ?qq6 (tcon_ins 6) (Or.inl ⟨?wd6, ?yy6⟩) hT ?rest6
            case hh6 => simp only [List.getElem?_toArray, List.getElem?_cons_succ, List.getElem?_cons_zero]; try rfl
            case qq6 => exact fun _ _ _ h => h
            case wd6 => rfl
            case yy6 => (intro w hSw; go_simp; try with_reducible rfl)
            try simp only [Act.put, List.setIfInBounds_toArray, List.set_cons_zero, List.set_cons_succ]
            refine anyT_take (i := 7) (oi := ?oi7) (v := ?vv7) ?hh7 (by kernel_rfl) (by kernel_rfl) (by kernel_rfl) ?qq7 (tcon_ins 7) (Or.inl ⟨?wd7, ?yy7⟩) hT ?rest7
            case hh7 => simp only [List.getElem?_toArray, List.getElem?_cons_succ, List.getElem?_cons_zero]; try rfl
            case qq7 => exact fun _ _ _ h => h
            case wd7 => rfl
            case yy7 => (intro w hSw; go_simp; try with_reducible rfl)
            try simp only [Act.put, List.setIfInBounds_toArray, List.set_cons_zero, List.set_cons_succ]
            refine anyT_take (i := 8) (oi := ?oi8) (v := ?vv8) ?hh8 (by kernel_rfl) (by kernel_rfl) (by kernel_rfl) ?qq8 (tcon_ins 8) (Or.inl ⟨?wd8, ?yy8⟩) hT ?rest8
            case hh8 => simp only [List.getElem?_toArray, List.getElem?_cons_succ, List.getElem?_cons_zero]; try rfl
            case qq8 => exact fun _ _ _ h => h
            case wd8 => rfl
            case yy8 => (intro w hSw; go_simp; try with_reducible rfl)
            try simp only [Act.put, List.setIfInBounds_toArray, List.set_cons_zero, List.set_cons_succ]
            refine anyT_take (i := 9) (oi := ?oi9) (v := ?vv9) ?hh9 (by kernel_rfl) (by kernel_rfl) (by kernel_rfl) ?qq9 (tcon_ins 9) (Or.inl ⟨?wd9, ?yy9⟩) hT ?rest9
            case hh9 => simp only [List.getElem?_toArray, List.getElem?_cons_succ, List.getElem?_cons_zero]; try rfl
            case qq9 => exact fun _ _ _ h => h
            case wd9 => rfl
            case yy9 => (intro w hSw; go_simp; try with_reducible rfl)
            try simp only [Act.put, List.setIfInBounds_toArray, List.set_cons_zero, List.set_cons_succ]
            refine anyT_take (i := 10) (oi := ?oi10) (v := ?vv10) ?hh10 (by kernel_rfl) (by kernel_rfl) (by kernel_rfl) ?qq10 (tcon_ins 10) (Or.inl ⟨?wd10, ?yy10⟩) hT ?rest10
            case hh10 => simp only [List.getElem?_toArray, List.getElem?_cons_succ, List.getElem?_cons_zero]; try rfl
            case qq10 => exact fun _ _ _ h => h
            case wd10 => rfl
            case yy10 => (intro w hSw; obtain ⟨d9, hcd, hrd, hTd⟩ := hSw; have hcA := hTd.1; have hcB := hTd.2; clear hTd hcd hrd; go_simp; try with_reducible rfl)
            try simp only [Act.put, List.setIfInBounds_toArray, List.set_cons_zero, List.set_cons_succ]
            refine anyT_one (o := ?No11) (by kernel_rfl : _ = [11]) ?Nh11 ?Nm11
            case Nh11 => simp only [List.getElem?_toArray, List.getElem?_cons_succ, List.getElem?_cons_zero]; try rfl
            case Nm11 =>
              intro K hK
              go_simp
              have kB : Below w2.drew.heap.size w2.drew (w2.drew.alloc (.cells #[.int .i64 (ia : Int), .int .i64 (ib : Int)] 3)) := (Below.refl _ _).alloc (Nat.le_refl _) _
              have HB9 := Lib.hid kB
              have cA9 := cell_below kB (Nat.le_refl _) (show w2.drew.cell? ⟨g, k1 * 259 + 257, none⟩ = some (.int .i64 (ia : Int)) from cA)
              have cB9 := cell_below kB (Nat.le_refl _) (show w2.drew.cell? ⟨g, k1 * 259 + 258, none⟩ = some (.int .i64 (ib : Int)) from cB)
              refine hK.out _ _ ⟨cA9, cB9⟩ (fun hHeld => ?_)
              clear hHeld hK K kB
              try simp only [Act.put, List.setIfInBounds_toArray, List.set_cons_zero, List.set_cons_succ]
              refine anyT_one (o := ?No12) (by kernel_rfl : _ = [12]) ?Nh12 ?Nm12
              case Nh12 => simp only [List.getElem?_toArray, List.getElem?_cons_succ, List.getElem?_cons_zero]; try rfl
              case Nm12 =>
                intro K hK
                refine step_append_at rfl (.tmp 38) (.tmp 49) _ rfl n 3 i0 _ 1 8 Tryd.underlying97 HI.out HI0.out HI1.out HI2.out rfl (by decide) (.slice (some ⟨g6, 0, none⟩) m c6) ws.reverse.length (ints ws.reverse) rfl (World.ownsRow.alloc HS2.out.o _) ⟨w2.heap.size, 0, none⟩ 2 2 [.int .i64 (ia : Int), .int .i64 (ib : Int)] rfl rfl (World.news_of_block (heap_new w2.drew _)) (by intro u hu; simp at hu; rcases hu with rfl | rfl <;> rfl) (by rw [List.length_reverse]; unfold maxLen; have := HM.out; omega) (by rw [List.length_reverse]; have := HM.out; omega) (by have := HS2.out.k.size; have := HNN.out; simp; omega) ?_
                intro v' w3 hown hgrow hat
                have k3 : Kp (fun b => (Value.slice (some ⟨g6, 0, none⟩) m c6).ownBlock = some b) w2 w3 := (((Kp.refl (fun _ => False) w2).drewN 1).alloc _ |>.mono (fun _ _ h => h.elim)).trans (Kp.of_grown hgrow (fun b hb => hb))
                have HS3 := Lib.hid (RS.kp (v' := v') (ws' := (ib :: ia :: ws).reverse) HNN.out hgn hhn HS2.out k3 (fun b hb => own_base HS2.out.o hb) (by
                  unfold IntsO
                  rw [show (ib :: ia :: ws).reverse = ws.reverse ++ [ia, ib] by simp, List.length_append, ints_app]
                  exact hown))
                have cA3 : w3.cell? ⟨g, k1 * 259 + 257, none⟩ = some (.int .i64 (ia : Int)) := by rw [HIA.out]; exact HS3.out.p.cell HI1'.out (j := 257) (by decide) (ienc_a i1)
                have cB3 : w3.cell? ⟨g, k1 * 259 + 258, none⟩ = some (.int .i64 (ib : Int)) := by rw [HIB.out]; exact HS3.out.p.cell HI1'.out (j := 258) (by decide) (ienc_b i1)
                refine hK.out _ _ ⟨cA3, cB3⟩ (fun hHeld => ?_)
                clear hHeld hK K hown hgrow hat k3
                try simp only [Act.put, List.setIfInBounds_toArray, List.set_cons_zero, List.set_cons_succ]
                refine anyT_take (i := 13) (oi := ?oi13) (v := ?vv13) ?hh13 (by kernel_rfl) (by kernel_rfl) (by kernel_rfl) ?qq13 (tcon_ins 13) (Or.inl ⟨?wd13, ?yy13⟩) ⟨cA3, cB3⟩ ?rest13
                case hh13 => simp only [List.getElem?_toArray, List.getElem?_cons_succ, List.getElem?_cons_zero]; try rfl
                case qq13 => exact fun _ _ _ h => h
                case wd13 => rfl
                case yy13 => (intro w hSw; go_simp; try with_reducible rfl)
                try simp only [Act.put, List.setIfInBounds_toArray, List.set_cons_zero, List.set_cons_succ]
                refine anyT_done (by kernel_rfl) ?_ _
                clear cA cB cA9 cB9 cA3 cB3 hT
                go_wp2_with fail
                go_roundg f2
                case measure => omega
                case rel => exact ⟨ib :: ia :: ws, dd.set k1 true, HS3.out, by have := HV2.out; rw [HT2.out H2.out] at this; exact this, by rw [List.length_set]; exact HL.out, by have := HM.out; rw [List.length_cons, List.length_cons]; omega⟩
          · have e2 : ((kd : Int) == 2) = false := by rw [beq_eq_false_iff_ne]; omega
            by_cases h3 : kd = 3
            · have e3 : ((kd : Int) == 3) = true := by rw [h3]; rfl
              have HTT := Lib.hid (HT3.out h2 h3)
              have hmm : ws.reverse.length + [ia].length ≤ 1000000 := by rw [List.length_reverse, List.length_singleton]; have := HM.out; omega
              have HMM := Lib.hid hmm
              clear h2 h3 hmm
              go_wp2_with (first
                | (refine Tryd.stepAppendI (v := .slice (some ⟨g6, 0, none⟩) m c6) (l := ws.reverse) (m := [ia]) (N := n) (.tmp 53) (.tmp 59) w2.heap.size rfl rfl rfl rfl (World.ownsRow.alloc HS2.out.o _) (heap_new w2 _) HMM.out (by have := HS2.out.k.size; have := HNN.out; simp; omega) ?_
                   intro v' w3 hown hgrow hat
                   have k3 : Kp (fun b => (Value.slice (some ⟨g6, 0, none⟩) m c6).ownBlock = some b) w2 w3 := ((Kp.refl (fun _ => False) w2).alloc _ |>.mono (fun _ _ h => h.elim)).trans (Kp.of_grown hgrow (fun b hb => hb))
                   have HS3 := Lib.hid (RS.kp (v' := v') (ws' := (ia :: ws).reverse) HNN.out hgn hhn HS2.out k3 (fun b hb => own_base HS2.out.o hb) (by rw [List.reverse_cons]; exact hown))
                   clear hown hgrow hat k3))
              go_wp2_with fail
              go_roundg f2
              case measure => omega
              case rel => exact ⟨ia :: ws, dd.set k1 true, HS3.out, by have := HV2.out; rw [HTT.out] at this; exact this, by rw [List.length_set]; exact HL.out, by have := HM.out; rw [List.length_cons]; omega⟩
            · have e3 : ((kd : Int) == 3) = false := by rw [beq_eq_false_iff_ne]; omega
              have HTT := Lib.hid (HT0.out h2 h3)
              clear h2 h3
              go_wp2_with fail
              go_roundg f2
              case measure => omega
              case rel => exact ⟨ws, dd.set k1 true, HS2.out, by have := HV2.out; rw [HTT.out] at this; exact this, by rw [List.length_set]; exact HL.out, by have := HM.out; omega⟩
end Go.Proofs.YtnnfhcbopchodaaDoor
namespace Go.Proofs.YtnnfhcbopchodaaDoor
open Go Go.RowKit
set_option linter.unusedVariables false
set_option linter.unusedSimpArgs false
set_option maxRecDepth 100000
theorem bools_made (N : Nat) : (madeCells (Value.bool false).cells (N * 1)).toList = bools (List.replicate N false) := by
  rw [donel_made]
  unfold donel bools
  apply List.ext_getElem?
  intro j
  rw [List.getElem?_map, List.getElem?_map, List.getElem?_replicate]
  by_cases h : j < N
  · rw [if_pos h, List.getElem?_range h]; rfl
  · rw [if_neg h, List.getElem?_eq_none (by rw [List.length_range]; omega)]; rfl
/-- Where Match stands: the program, the worlds. -/
structure MS (P : List In) (N g cap : Nat) (w wr : World) : Prop where
  p : InsO wr N (.slice (some ⟨g, 0, none⟩) P.length cap) P
  k : Kp (fun _ => False) w wr
  hN : w.heap.size ≤ N
  z : N ≤ wr.heap.size
theorem MS.step {P : List In} {N g cap : Nat} {w wr w1 : World} {C : Nat → Prop} (r : MS P N g cap w wr) (k : Kp C wr w1) (hc : ∀ b, C b → w.heap.size ≤ b ∧ b ≠ g) : MS P N g cap w w1 :=
  ⟨r.p.kp k (fun b hb _ hC => (hc b hC).2 (by have : g = b := (by simpa [Value.ownBlock] using hb); exact this.symm)), r.k.trans_new k (fun b hb => .inr (hc b hb).1), r.hN, Nat.le_trans r.z k.size⟩
theorem BoolsO.kp {w w1 : World} {N h : Nat} {d : List Bool} {C : Nat → Prop} (r : BoolsO w N h d) (k : Kp C w w1) (hc : ¬ C h) : BoolsO w1 N h d := own_kp r k (fun b hb _ hC => hc (by have : h = b := (by simpa [Value.ownBlock] using hb); rw [this]; exact hC))
theorem BoolsO.bd {w : World} {N h : Nat} {d : List Bool} (r : BoolsO w N h d) : N ≤ h ∧ h < w.heap.size := own_bd r (b := h) rfl
theorem matchP_reach {t : RT} {b : List UInt8} {r : Bool} (h : matchP t b = some r) : ∃ d, reachP (progP t) (fuelR (progP t)) (List.replicate (progP t).length false) [0] = some d ∧ runP (progP t) d b = some r := by
  unfold matchP at h
  cases hd : reachP (progP t) (fuelR (progP t)) (List.replicate (progP t).length false) [0] with
  | none => rw [hd] at h; cases h
  | some d => rw [hd] at h; exact ⟨d, rfl, h⟩
theorem runP_cons {P : List In} {d : List Bool} {c : UInt8} {l : List UInt8} {r : Bool} (h : runP P d (c :: l) = some r) : ∃ d2, sweepP P d c P.length 0 (List.replicate P.length false) = some d2 ∧ runP P d2 l = some r := by
  unfold runP at h
  cases hd : sweepP P d c P.length 0 (List.replicate P.length false) with
  | none => rw [hd] at h; cases h
  | some d2 => rw [hd] at h; exact ⟨d2, rfl, h⟩
def swB (b : Bool) (i : In) (c : UInt8) : Bool := b && (i.kind == 1 && i.set c)
theorem sweepP_succ {P : List In} {d nx : List Bool} {c : UInt8} {f k : Nat} {r : List Bool} (h : sweepP P d c (f + 1) k nx = some r) : ∃ i b, P[k]? = some i ∧ d[k]? = some b ∧
    ((swB b i c = true ∧ ∃ n2, reachP P (fuelR P) nx [k + 1] = some n2 ∧ sweepP P d c f (k + 1) n2 = some r) ∨ (swB b i c = false ∧ sweepP P d c f (k + 1) nx = some r)) := by
  unfold sweepP at h
  cases hi : P[k]? with
  | none => rw [hi] at h; cases h
  | some i =>
    cases hb : d[k]? with
    | none => rw [hi, hb] at h; cases h
    | some b =>
      rw [hi, hb] at h
      simp only at h
      refine ⟨i, b, rfl, rfl, ?_⟩
      by_cases hc : b = true ∧ i.kind = 1 ∧ i.set c = true
      · rw [if_pos hc] at h
        refine .inl ⟨by unfold swB; simp [hc], ?_⟩
        cases hn : reachP P (fuelR P) nx [k + 1] with
        | none => rw [hn] at h; cases h
        | some n2 => rw [hn] at h; exact ⟨n2, rfl, h⟩
      · rw [if_neg hc] at h
        refine .inr ⟨?_, h⟩
        unfold swB
        rw [Bool.eq_false_iff]
        intro e
        rw [Bool.and_eq_true, Bool.and_eq_true, beq_iff_eq] at e
        exact hc e
set_option maxHeartbeats 4000000 in
theorem rmatch_any (z1 : Value) (t : RT) (s : ByteArray) (w : World) (hz : NdOk (fun _ => False) w z1 t) (ok : okT t = true) (hcost : costT t ≤ 40000) (hs : s.size ≤ 100000) (r : Bool) (hr : matchP t s.data.toList = some r) :
    Calls Tryd.prog 11 #[.agg (nenc (z1, t)).toArray, .string s] w fun e w' => e = .returned (.bool r) ∧ Below w.heap.size w w' := by
  obtain ⟨d0, hd0, hrun⟩ := matchP_reach hr
  obtain ⟨P, hP⟩ : ∃ P, P = progP t := ⟨_, rfl⟩
  rw [← hP] at hd0 hrun
  obtain ⟨q, hq⟩ : ∃ q, q = emitP [] t := ⟨_, rfl⟩
  have hPq : P = q ++ [⟨4, noS, 0, 0⟩] := by rw [hP, hq]; rfl
  have hql : q.length ≤ 40000 := by rw [hq]; have := (emitP_len t []).2; simp at this; omega
  have hql2 : q.length ≤ 100000 := by omega
  have hPl : P.length = q.length + 1 := by rw [hPq]; simp
  have hP5 : P.length ≤ 50000 := by omega
  have hP0 : 0 < P.length := by omega
  have HW := Lib.hid (show WfP P by rw [hP]; exact progP_wf t)
  have HE := Lib.hid (emit_any t ok)
  have HQ := Lib.hid hq
  have HPQ := Lib.hid hPq
  have HD0 := Lib.hid hd0
  have HRUN := Lib.hid hrun
  have HZ := Lib.hid hz
  have HCO := Lib.hid hcost
  clear hr hP hq hPq hPl hd0 hrun hz hcost hql ok
  obtain ⟨n, hn⟩ : ∃ n, w.heap.size = n := ⟨_, rfl⟩
  have HNN := Lib.hid hn
  clear hn
  obtain ⟨i0, hi, hz0, hz1, hz2⟩ := info_parts Tryd.infoBl
  have HI := Lib.hid hi
  have HI0 := Lib.hid hz0
  have HI1 := Lib.hid hz1
  have HI2 := Lib.hid (show i0.bytes * P.length ≤ 281474976710656 by rw [hz2]; omega)
  clear hi hz0 hz1 hz2
  go_enter Tryd.func11, Tryd.ntmps11
  go_wp2_with (first
    | (refine Tryd.stepBoxNd (z := (z1, t)) (.tmp 0) rfl rfl rfl ?_
       intro W1 p1 s1 k1
       rw [HNN.out] at p1 ⊢
       have HP1 := Lib.hid p1
       have HK1 := Lib.hid k1
       have HS1 := Lib.hid (show W1.heap.size = n + 1 by rw [s1, HNN.out])
       clear p1 s1 k1)
    | (refine Tryd.stepLoadNd (z := (z1, t)) (.tmp 2) n rfl rfl rfl HP1.out ?_))
  refine (HE.out z1 (.slice none 0 0) [] (n + 1) W1 (Nat.le_of_eq HS1.out.symm) (World.ownsRow_nil _ _ _ _) ((HZ.out.kp_of HK1.out (fun _ h => h)).mono (fun b hb => by
    rcases hb with hb | hb
    · cases hb
    · exact hb)) (by have := HCO.out; simp; omega)).mono ?_
  rintro e w2 ⟨v2, rfl, hq2⟩
  rw [← HQ.out] at hq2
  have HO2 := Lib.hid hq2.1
  have HK2 := Lib.hid (show Kp (fun _ => False) w w2 from HK1.out.trans (hq2.2.1.mono (fun b _ hb => by cases hb)))
  have HS2 := Lib.hid (show n + 1 ≤ w2.heap.size by have := hq2.2.1.size; have := HS1.out; omega)
  clear hq2
  go_wp2_with (first
    | (refine Tryd.stepBuildI_k 4 rfl rfl ?_)
    | (refine Tryd.stepSliceIn (i := ⟨4, noS, 0, 0⟩) (.tmp 12) rfl rfl rfl ?_)
    | (refine Tryd.stepAppendIn (v := v2) (p := q) (i := ⟨4, noS, 0, 0⟩) (N := n + 1) (.tmp 11) (.tmp 13) w2.heap.size rfl rfl rfl rfl (World.ownsRow.alloc HO2.out _) (heap_new w2 _) hql2 (by have := HS2.out; simp; omega) ?_
       intro v3 w3 hown hgrow hat
       rw [← HPQ.out] at hown
       obtain ⟨g, cap, hv3⟩ := own_some hown hP0
       subst hv3
       have HM3 := Lib.hid (show MS P (n + 1) g cap w w3 from ⟨hown, HK2.out.trans_new (C := fun b => v2.ownBlock = some b) (((Kp.refl (fun _ => False) w2).alloc _ |>.mono (fun _ _ h => h.elim)).trans (Kp.of_grown hgrow (fun b hb => hb))) (fun b hb => .inr (by have := (HO2.out.bd hb).1; have := HNN.out; omega)), by have := HNN.out; omega, by have := HS2.out; have h5 := (Kp.of_grown (B := fun b => v2.ownBlock = some b) hgrow (fun b hb => hb)).size; simp at h5; omega⟩)
       clear hown hgrow hat)
    | (refine wpList_make_full _ rfl _ _ _ rfl (n + 1) 4 i0 (.bool false) 1 Tryd.underlying82 HI.out HI0.out HI1.out .i64 .i64 _ _ P.length rfl rfl rfl rfl HI2.out (by unfold maxLen; omega) HM3.out.z ?_
       intro w4 hd4 hg4
       rw [bools_made] at hd4
       have HM4 := Lib.hid (HM3.out.step (C := fun _ => False) (Kp.of_grown hg4 (fun _ h => by cases h)) (fun _ h => h.elim))
       have HB4 := Lib.hid (show BoolsO w4 (n + 1) w3.heap.size (List.replicate P.length false) by unfold BoolsO; rw [List.length_replicate]; exact hd4)
       have HG4 := Lib.hid (show g ≠ w3.heap.size by have := (HM3.out.p.bd (b := g) rfl).2; omega)
       clear hd4 hg4))
  obtain ⟨h0, hh0⟩ : ∃ h0, h0 = w3.heap.size := ⟨_, rfl⟩
  have HH0 := Lib.hid (show n ≤ h0 by rw [hh0]; have := HM3.out.k.size; have := HNN.out; omega)
  rw [← hh0] at HB4 HG4 ⊢
  clear hh0
  refine (reach_any P (fuelR P) (List.replicate P.length false) d0 0 (n + 1) g cap (n + 1) h0 w4 HM4.out.p HB4.out HG4.out (by simp) hP5 HW.out.inside HD0.out (by unfold fuelR; omega) (by omega)).mono ?_
  rintro e w5 ⟨rfl, hb5, hk5, hl5⟩
  have HM5 := Lib.hid (HM4.out.step hk5 (fun b hb => ⟨by have := HH0.out; have := HNN.out; omega, by rw [hb]; exact fun e => HG4.out e.symm⟩))
  have HB5 := Lib.hid hb5
  have HL5 := Lib.hid hl5
  clear hb5 hk5 hl5 HB4 HM4 HM3 HO2 HK2 HS2 HP1 HK1 HS1 HD0
  go_wp2_with fail
  go_loopw [6, 7] (fun v6 i wr => ∃ (h j : Nat) (d : List Bool), v6 = .slice (some ⟨h, 0, none⟩) P.length P.length ∧ i = .int .i64 j ∧ j ≤ s.size ∧ Hid (MS P (n + 1) g cap w wr) ∧ Hid (BoolsO wr (n + 1) h d) ∧ Hid (d.length = P.length) ∧ Hid (runP P d (s.data.toList.drop j) = some r) ∧ Hid (g ≠ h)) (fun _ i _ => s.size - (intOf i).toNat)
  case atStart => exact ⟨h0, 0, d0, rfl, rfl, Nat.zero_le _, HM5.out, HB5.out, HL5.out, by rw [List.drop_zero]; exact HRUN.out, HG4.out⟩
  case round =>
    obtain ⟨h, j, d, rfl, rfl, hj, HM, HB, HL, HR, HG⟩ := hrel
    clear HM5 HB5 HL5 HRUN HG4
    by_cases hlt : j < s.size
    · have hgc := bAt_get hlt
      have hr2 := HR.out
      rw [drop_bAt hlt] at hr2
      obtain ⟨c, hc⟩ : ∃ c, bAt s j = c := ⟨_, rfl⟩
      rw [hc] at hgc hr2
      obtain ⟨d2, hsw, hrun2⟩ := runP_cons hr2
      have HSW := Lib.hid hsw
      have HR2 := Lib.hid hrun2
      have hc256 : c.toNat < 256 := c.toNat_lt
      clear hc hr2 hsw hrun2 HR
      go_wp2_with (first
        | (refine wpList_make_full _ rfl _ _ _ rfl (n + 1) 4 i0 (.bool false) 1 Tryd.underlying82 HI.out HI0.out HI1.out .i64 .i64 _ _ P.length rfl rfl rfl rfl HI2.out (by unfold maxLen; omega) HM.out.z ?_
           intro w6 hd6 hg6
           rw [bools_made] at hd6
           have HM6 := Lib.hid (HM.out.step (C := fun _ => False) (Kp.of_grown hg6 (fun _ h => by cases h)) (fun _ h => h.elim))
           have HX6 := Lib.hid (show BoolsO w6 (n + 1) wr.heap.size (List.replicate P.length false) by unfold BoolsO; rw [List.length_replicate]; exact hd6)
           have HB6 := Lib.hid (HB.out.kp (C := fun _ => False) (Kp.of_grown hg6 (fun _ h => by cases h)) (fun h => h))
           have HG6 := Lib.hid (show g ≠ wr.heap.size ∧ h ≠ wr.heap.size ∧ n ≤ wr.heap.size by have := (HM.out.p.bd (b := g) rfl).2; have := HB.out.bd.2; have := HM.out.z; omega)
           clear hd6 hg6))
      obtain ⟨h2, hh2⟩ : ∃ h2, h2 = wr.heap.size := ⟨_, rfl⟩
      rw [← hh2] at HX6 HG6 ⊢
      clear hh2 HM HB
      go_loopw [9] (fun i wq => ∃ (m : Nat) (nx : List Bool), i = .int .i64 m ∧ m ≤ P.length ∧ Hid (MS P (n + 1) g cap w wq) ∧ Hid (BoolsO wq (n + 1) h d) ∧ Hid (BoolsO wq (n + 1) h2 nx) ∧ Hid (nx.length = P.length) ∧ Hid (sweepP P d c (P.length - m) m nx = some d2)) (fun i _ => P.length - (intOf i).toNat)
      case atStart => exact ⟨0, List.replicate P.length false, rfl, Nat.zero_le _, HM6.out, HB6.out, HX6.out, Lib.hid List.length_replicate, HSW.out⟩
      case round =>
        obtain ⟨m, nx, rfl, hm, HM7, HB7, HX7, HL7, HW7⟩ := hrel
        clear HM6 HB6 HX6 HSW
        by_cases hlt2 : m < P.length
        · have hw7 := HW7.out
          rw [show P.length - m = (P.length - (m + 1)) + 1 by omega] at hw7
          obtain ⟨i1, b1, hi1, hb1, hcase⟩ := sweepP_succ hw7
          obtain ⟨kd, hkd⟩ : ∃ kd, kd = i1.kind := ⟨_, rfl⟩
          obtain ⟨sb, hsb⟩ : ∃ sb, sb = i1.set c := ⟨_, rfl⟩
          have cD := HB7.out.cell hb1
          have cK : wr.cell? ⟨g, m * 259, none⟩ = some (.int .i64 (kd : Int)) := by rw [hkd]; exact HM7.out.p.cell hi1 (j := 0) (by decide) (ienc_0 i1)
          have cS : wr.cell? ⟨g, m * 259 + 1 + c.toNat, none⟩ = some (.bool sb) := by
            rw [hsb, Nat.add_assoc]
            refine HM7.out.p.cell hi1 (j := 1 + c.toNat) (by omega) ?_
            rw [ienc_set i1 c.toNat hc256]
            simp
          obtain ⟨sw, hsw⟩ : ∃ sw, sw = swB b1 i1 c := ⟨_, rfl⟩
          rw [← hsw] at hcase
          have hswe : sw = (b1 && (kd == 1 && sb)) := by rw [hsw, hkd, hsb]; rfl
          have HCA := Lib.hid hcase
          clear hi1 hb1 hcase hw7 HW7 hkd hsb hsw
          go_upto_region 11 with fail
          go_cut [58] (fun s58 wx => s58 = .bool sw ∧ ∃ mm, wx = wr.drewN mm)
          case first =>
            cases b1 with
            | false =>
              have hs2 : sw = false := by rw [hswe]; rfl
              subst hs2
              clear hswe
              go_quiet (fail)
              go_wp2_with fail
              go_meet
              exact ⟨rfl, _, rfl⟩
            | true =>
              by_cases h1 : kd = 1
              · have e1 : ((kd : Int) == 1) = true := by rw [h1]; rfl
                have hs2 : sw = sb := by rw [hswe, h1]; rfl
                subst hs2
                clear hswe h1
                cases sw
                all_goals
                  go_quiet (fail)
                  go_wp2_with fail
                  go_meet
                  exact ⟨rfl, _, rfl⟩
              · have e1 : ((kd : Int) == 1) = false := by rw [beq_eq_false_iff_ne]; omega
                have hs2 : sw = false := by rw [hswe, beq_eq_false_iff_ne.2 h1]; rfl
                subst hs2
                clear hswe h1
                go_quiet (fail)
                go_wp2_with fail
                go_meet
                exact ⟨rfl, _, rfl⟩
          case rest =>
            obtain ⟨rfl, mm, rfl⟩ := hcut
            have kd9 : Kp (fun _ => False) wr (wr.drewN mm) := (Kp.refl _ _).drewN mm
            have HM8 := Lib.hid (HM7.out.step kd9 (fun _ h => h.elim))
            have HB8 := Lib.hid (HB7.out.kp kd9 (fun h => h))
            have HX8 := Lib.hid (HX7.out.kp kd9 (fun h => h))
            generalize wr.drewN mm = w8 at HM8 HB8 HX8 ⊢
            clear kd9 cD cK cS HM7 HB7 HX7 hswe
            cases sw with
            | false =>
              have HC2 := Lib.hid (show sweepP P d c (P.length - (m + 1)) (m + 1) nx = some d2 by
                rcases HCA.out with ⟨h, -⟩ | ⟨-, h⟩
                · cases h
                · exact h)
              go_wp2_with fail
              go_roundw
              case rel => exact ⟨m + 1, nx, by go_num, by omega, HM8.out, HB8.out, HX8.out, HL7.out, HC2.out⟩
              case measure => simp [intOf]; omega
            | true =>
              obtain ⟨n2, hn2, hw2⟩ : ∃ n2, reachP P (fuelR P) nx [m + 1] = some n2 ∧ sweepP P d c (P.length - (m + 1)) (m + 1) n2 = some d2 := by
                rcases HCA.out with ⟨-, h⟩ | ⟨h, -⟩
                · exact h
                · cases h
              have HW2 := Lib.hid hw2
              have HRE := Lib.hid (reach_any P (fuelR P) nx n2 (m + 1) (n + 1) g cap (n + 1) h2 w8 HM8.out.p HX8.out HG6.out.1 HL7.out hP5 HW.out.inside hn2 (by unfold fuelR; omega) (by omega))
              clear hn2 hw2 HCA
              go_wp2_with fail
              refine HRE.out.mono ?_
              rintro e w9 ⟨rfl, hb9, hk9, hl9⟩
              have HM9 := Lib.hid (HM8.out.step hk9 (fun b hb => ⟨by have := HG6.out; have := HNN.out; omega, by have := HG6.out; omega⟩))
              have HB9 := Lib.hid (HB8.out.kp hk9 (by have := HG6.out; omega))
              have HX9 := Lib.hid hb9
              have HL9 := Lib.hid hl9
              clear hb9 hk9 hl9 HRE
              go_wp2_with fail
              go_roundw
              case rel => exact ⟨m + 1, n2, by go_num, by omega, HM9.out, HB9.out, HX9.out, HL9.out, HW2.out⟩
              case measure => simp [intOf]; omega
        · obtain rfl : m = P.length := by omega
          have HD2 := Lib.hid (show nx = d2 by
            have := HW7.out
            rw [Nat.sub_self] at this
            unfold sweepP at this
            injection this)
          go_wp2_with fail
          go_roundw
          case rel => exact ⟨h2, j + 1, nx, rfl, by go_num, by omega, HM7.out, HX7.out, HL7.out, by rw [HD2.out]; exact HR2.out, HG6.out.1⟩
          case measure => simp [intOf]; omega
    · obtain rfl : j = s.size := by omega
      have hr2 := HR.out
      rw [drop_over (Nat.le_refl _)] at hr2
      have hr3 : d[P.length - 1]? = some r := hr2
      obtain ⟨lp, hlp⟩ : ∃ lp, lp = P.length - 1 := ⟨_, rfl⟩
      rw [← hlp] at hr3
      have cF := HB.out.cell hr3
      have hsub : (P.length : Int) - 1 = (lp : Int) := by omega
      have hwr : IntKind.i64.wrap (lp : Int) = (lp : Int) := by rw [IntKind.wrap_i64] <;> omega
      have hi0 : (0 : Int) ≤ (lp : Int) := by omega
      have hi1 : (lp : Int) < (P.length : Int) := by omega
      have hi2 : lp < P.length := by omega
      clear hr2 hr3 hlp HR
      go_wp2_with fail
      go_ret
      exact ⟨rfl, HM.out.k.below (Nat.le_refl _) (fun b h => h.elim)⟩
end Go.Proofs.YtnnfhcbopchodaaDoor
namespace Go.Proofs.YtnnfhcbopchodaaDoor
open Go Go.RowKit
set_option linter.unusedVariables false
set_option linter.unusedSimpArgs false
set_option maxRecDepth 100000
theorem split_plain : ∀ s : List UInt8, (∀ c ∈ s, c ≠ 46) → splitD s = [s]
  | [], h => rfl
  | c :: r, h => by
    rw [splitD, if_neg (h c (by simp)), split_plain r (fun d hd => h d (by simp [hd]))]
/-- A text that is one node is meant just if the node's pieces match it. -/
theorem match_one {ps : List Pc} {x : List UInt8} (hg : ∀ c ∈ x, isG c = true) (hne : x ≠ []) (hl : x.length ≤ 256) : matchG [ps] x = matchN ps x := by
  have hs := split_plain x (fun c hc => isG_ne (hg c hc) (by decide))
  have hn : nodeOk x = true := by
    unfold nodeOk
    rw [decide_eq_true hl, List.all_eq_true.2 hg]
    cases x with
    | nil => exact absurd rfl hne
    | cons a r => rfl
  unfold matchG okG
  rw [hs]
  simp [hn]
theorem dot_in {s : ByteArray} {j : Nat} (h : ∀ k, k < j → bAt s k ≠ 46) (hj : s.size ≤ j) : ∀ c ∈ s.data.toList, c ≠ 46 := by
  intro c hc
  obtain ⟨k, hk, rfl⟩ := List.mem_iff_getElem.1 hc
  have hk2 : k < s.size := hk
  have := h k (by omega)
  have e := bAt_some hk2
  rw [List.getElem?_eq_getElem hk] at e
  injection e with e
  rw [e]
  exact this
theorem is_in {s : ByteArray} {j : Nat} (h : ∀ k, k < j → isG (bAt s k) = true) (hj : s.size ≤ j) : ∀ c ∈ s.data.toList, isG c = true := by
  intro c hc
  obtain ⟨k, hk, rfl⟩ := List.mem_iff_getElem.1 hc
  have hk2 : k < s.size := hk
  have := h k (by omega)
  have e := bAt_some hk2
  rw [List.getElem?_eq_getElem hk] at e
  injection e with e
  rw [e]
  exact this
theorem Tryd.stepLoadNdG {ops : Array Oper} {rest : List Oper} {o : Oper} {a : Act} {w : World} {Q : Exit → Act → World → Prop} {z : ZNd} (x : Operand) (g : Nat) (hw : Region.wanted o (yielded ops a.tmps) = true) (ho : o.op = .load NdT x) (hx : a.eval x = .pointer (some ⟨g, 0, none⟩)) (hz : NdB w g z)
    (h : wpList Tryd.prog ops Q rest (a.put o.dst (.agg (nenc z).toArray)) w) : wpList Tryd.prog ops Q (o :: rest) a w := by
  obtain ⟨d, hd, hr⟩ := Tryd.ndRow
  refine BigFrame.wpList_want hw fun K hK => ?_
  exact wp_load_row NdT x ho g hx NdT _ _ d hz hd (by cases d <;> simp_all) (by rw [nenc_size]; exact Tryd.infoNd) (hK _ _ h)
theorem nodesG_err (s : List UInt8) : ∀ (f a : Nat) (g : List (List Pc)) (b : Nat) (er : Int), nodesG s f a g = .error (b, er) → er ≠ 0
  | 0, _, _, _, _, h => by cases h
  | f + 1, a, g, b, er, h => by
    unfold nodesG at h
    split at h
    · injection h with h
      injection h with h1 h2
      omega
    · split at h
      · cases h
      · split at h
        · injection h with h
          injection h with h1 h2
          omega
        · exact nodesG_err s f _ _ _ _ h
theorem compG_err {s : List UInt8} {b : Nat} {er : Int} (h : compG s = .error (b, er)) : er ≠ 0 := by
  unfold compG at h
  split at h
  · injection h with h
    injection h with h1 h2
    omega
  · exact nodesG_err s _ _ _ _ _ h
/-- What chapter 4 answers of a node's pattern is what the glob answers. -/
theorem nodes_law {ps : List Pc} (h : ∀ p ∈ ps, PcW p ∧ PcOk p) {x : List UInt8} (hg : ∀ c ∈ x, isG c = true) (hne : x ≠ []) (hl : x.length ≤ 256) : matchP (treeN ps) x = some (matchG [ps] x) := by
  obtain ⟨r, hr, hi⟩ := match_ok (treeN ps) (ok_node ps (fun p hp h4 => ((h p hp).1.words h4).1)) x
  rw [hr, match_one hg hne hl]
  congr 1
  rw [Bool.eq_iff_iff, hi, matchN_lang ps (fun p hp => (h p hp).1.kind)]
set_option maxHeartbeats 8000000 in
theorem globNodes_walk (p x : ByteArray) (w : World) (hk : KW w) (hsz1 : p.size ≤ 9223372036854775807) (hsz2 : x.size ≤ 9223372036854775807) :
    Calls Tryd.prog 3 #[.string p, .string x] w fun e w' => e = .returned (.bool true) ∧ Below w.heap.size w w' := by
  have HKW := Lib.hid hk
  have HZ1 := Lib.hid hsz1
  have HZ2 := Lib.hid hsz2
  clear hk hsz1 hsz2
  go_enter Tryd.func3, Tryd.ntmps3
  go_wp2_with fail
  refine (gknown_any _ HKW.out).mono ?_
  rintro e w1 ⟨rfl, hb1⟩
  have HB1 := Lib.hid hb1
  clear hb1
  by_cases hp : p.size ≤ 200
  rotate_left
  · have g1 : decide ((200 : Int) < (p.size : Int)) = true := by rw [decide_eq_true_iff]; omega
    go_wp2_with fail
    go_ret
    exact ⟨rfl, HB1.out⟩
  have g1 : decide ((200 : Int) < (p.size : Int)) = false := by rw [decide_eq_false_iff_not]; omega
  by_cases ho : x.size ≤ 200
  rotate_left
  · have g2 : decide ((200 : Int) < (x.size : Int)) = true := by rw [decide_eq_true_iff]; omega
    go_wp2_with fail
    go_ret
    exact ⟨rfl, HB1.out⟩
  have g2 : decide ((200 : Int) < (x.size : Int)) = false := by rw [decide_eq_false_iff_not]; omega
  go_wp2_with fail
  clear g1 g2
  go_loopw [5] (fun i wr => ∃ j : Nat, i = .int .i64 j ∧ j ≤ p.size ∧ wr = w1 ∧ Hid (∀ k, k < j → bAt p k ≠ 46)) (fun i _ => p.size - (intOf i).toNat)
  case atStart => exact ⟨0, rfl, Nat.zero_le _, rfl, fun k hk => absurd hk (Nat.not_lt_zero k)⟩
  case round =>
    obtain ⟨j, rfl, hj, rfl, HD⟩ := hrel
    by_cases hlt : j < p.size
    · have hg := bAt_get hlt
      obtain ⟨c, hc⟩ : ∃ c, bAt p j = c := ⟨_, rfl⟩
      rw [hc] at hg
      have e46 : ((c.toNat : Int) == 46) = (c == 46) := gu8_lit c 46 46 rfl
      by_cases h46 : c = 46
      · replace e46 : ((c.toNat : Int) == 46) = true := by rw [e46]; simpa using h46
        clear hc h46
        go_wp2_with fail
        go_ret
        exact ⟨rfl, HB1.out⟩
      · replace e46 : ((c.toNat : Int) == 46) = false := by rw [e46]; simpa using h46
        have HD2 := Lib.hid (show ∀ k, k < j + 1 → bAt p k ≠ 46 from fun k hk => by
          rcases Nat.lt_or_ge k j with h | h
          · exact HD.out k h
          · rw [show k = j by omega, hc]; exact h46)
        clear hc h46
        go_wp2_with fail
        go_roundw
        case rel => exact ⟨j + 1, by go_num, by omega, by first | trivial | rfl, HD2.out⟩
        case measure => simp [intOf]; omega
    · obtain rfl : j = p.size := by omega
      have HDD := Lib.hid (dot_in HD.out (Nat.le_refl _))
      clear HD
      go_wp2_with fail
      go_loopw [6] (fun i wr' => ∃ j : Nat, i = .int .i64 j ∧ j ≤ x.size ∧ wr' = wr ∧ Hid (∀ k, k < j → isG (bAt x k) = true)) (fun i _ => x.size - (intOf i).toNat)
      case atStart => exact ⟨0, rfl, Nat.zero_le _, rfl, fun k hk => absurd hk (Nat.not_lt_zero k)⟩
      case round =>
        obtain ⟨j, rfl, hj2, rfl, HX⟩ := hrel
        by_cases hlt2 : j < x.size
        · have hg := bAt_get hlt2
          obtain ⟨c, hc⟩ : ∃ c, bAt x j = c := ⟨_, rfl⟩
          rw [hc] at hg
          obtain ⟨b, hb⟩ : ∃ b, isG c = b := ⟨_, rfl⟩
          have HIS := Lib.hid (fun w => rgis_c c b hb w)
          cases b with
          | false =>
            clear hc hb
            go_wp2_with fail
            refine (HIS.out _).mono ?_
            rintro e w3 ⟨rfl, rfl⟩
            go_wp2_with fail
            go_ret
            exact ⟨rfl, HB1.out⟩
          | true =>
            have HX2 := Lib.hid (show ∀ k, k < j + 1 → isG (bAt x k) = true from fun k hk => by
              rcases Nat.lt_or_ge k j with h | h
              · exact HX.out k h
              · rw [show k = j by omega, hc]; exact hb)
            clear hc hb
            go_wp2_with fail
            refine (HIS.out _).mono ?_
            rintro e w3 ⟨rfl, rfl⟩
            go_wp2_with fail
            go_roundw
            case rel => exact ⟨j + 1, by go_num, by omega, by first | trivial | rfl, HX2.out⟩
            case measure => simp [intOf]; omega
        · obtain rfl : j = x.size := by omega
          have HXX := Lib.hid (is_in HX.out (Nat.le_refl _))
          clear HX
          cases hcg : compG p.data.toList with
          | error q =>
            obtain ⟨a, er⟩ := q
            have e0 : (er != 0) = true := by simpa using compG_err hcg
            have HC := Lib.hid (fun w => compile_err p a er w (by omega) hcg)
            clear hcg
            go_wp2_with fail
            refine (HC.out _).mono ?_
            rintro e w3 ⟨rfl, hb3⟩
            have HB3 := Lib.hid (HB1.out.trans (hb3.mono HB1.out.size))
            clear hb3
            go_wp2_with fail
            go_ret
            exact ⟨rfl, HB3.out⟩
          | ok g =>
            obtain ⟨ps, rfl, hps, hpne, hpl, hpc, hgok⟩ := comp_w (s := p.data.toList) (by exact hp) HDD.out hcg
            have HC := Lib.hid (fun w => compile_ok p [ps] w (by omega) hcg)
            have HPS := Lib.hid hps
            have HGO := Lib.hid hgok
            have HPC := Lib.hid hpc
            have HPL := Lib.hid hpl
            have HCR := Lib.hid (comp_read (fun p hp => (hps p hp).1) hpne)
            clear hcg hps hpne hpc hgok hpl
            go_wp2_with fail
            refine (HC.out _).mono ?_
            rintro e w3 ⟨gb, rfl, hg3, hb3⟩
            have HG3 := Lib.hid hg3
            have HB3 := Lib.hid (HB1.out.trans (hb3.mono HB1.out.size))
            clear hg3 hb3
            go_wp2_with fail
            refine (nodes_any gb [ps] w3 HG3.out HGO.out).mono ?_
            rintro e w4 ⟨v4, rfl, hs4, hb4⟩
            have HG4 := Lib.hid (HG3.out.below hb4)
            have HB4 := Lib.hid (HB3.out.trans (hb4.mono HB3.out.size))
            obtain ⟨a4, c4, rfl, -, -, -⟩ := hs4.split wenc_len
            rw [show (patsG [ps]).length = 1 from rfl]
            clear hs4 hb4
            go_wp2_with fail
            refine (nodes_any gb [ps] w4 HG4.out HGO.out).mono ?_
            rintro e w5 ⟨v5, rfl, hs5, hb5⟩
            have HG5 := Lib.hid (HG4.out.below hb5)
            have HB5 := Lib.hid (HB4.out.trans (hb5.mono HB4.out.size))
            obtain ⟨a5, c5, rfl, -, -, hc5⟩ := hs5.split wenc_len
            obtain ⟨b5, o5, rfl, hcell⟩ := hc5 0 (show 0 < 1 by decide)
            have k5 : w5.cell? ⟨b5, o5, none⟩ = some (.string (bsl (patN ps))) := hcell 0 _ rfl
            rw [show (patsG [ps]).length = 1 from rfl]
            have HCP := Lib.hid (r4compile_any (bsl (patN ps)) w5 (by rw [bsl_size]; have := HPL.out; omega))
            clear hs5 hb5 hc5 hcell
            obtain ⟨y, hy⟩ : ∃ y, y = bsl (patN ps) := ⟨_, rfl⟩
            rw [← hy] at k5 HCP
            have HY := Lib.hid (show compR y.data.toList = some (treeN ps) by rw [hy, bsl_data]; exact HCR.out)
            clear hy
            go_wp2_with fail
            refine HCP.out.mono ?_
            rintro e w6 ⟨hb6, hr6⟩
            rw [HY.out] at hr6
            have hr7 : ∃ v, e = .returned (.tuple #[.agg (nenc (v, treeN ps)).toArray, .int .i64 0, .int .i64 0]) ∧ NdOk (fun _ => False) w6 v (treeN ps) := by
              rcases hr6 with ⟨v, t, h1, h2, h3⟩ | ⟨h1, -⟩
              · injection h1 with h1
                subst h1
                exact ⟨v, h2, h3.mono (fun _ h => h.elim)⟩
              · cases h1
            obtain ⟨v6, rfl, hn6⟩ := hr7
            have HG6 := Lib.hid (HG5.out.below hb6)
            have HB6 := Lib.hid (HB5.out.trans (hb6.mono HB5.out.size))
            have HN6 := Lib.hid hn6
            obtain ⟨M, hM⟩ : ∃ M, w6.heap.size = M := ⟨_, rfl⟩
            have HM := Lib.hid hM
            clear hr6 hb6 hn6 hM k5 HCP
            obtain ⟨T, hT⟩ : ∃ T, T = treeN ps := ⟨_, rfl⟩
            have HT := Lib.hid hT
            rw [← hT] at HN6 ⊢
            clear hT
            by_cases hx0 : x = ⟨#[]⟩
            · have hxl : x.toList = [] := by rw [ByteArray.toList_eq, hx0]
              have hxe : x.toList.isEmpty = true := by rw [hxl]; rfl
              clear hx0
              go_upto_region 21 with (first
                | (refine Tryd.stepAllocNd (n := M) rfl rfl HM.out ?_
                   intro W7 p7 z7 k7
                   have HP7 := Lib.hid p7
                   have HK7 := Lib.hid k7
                   clear p7 z7 k7)
                | (refine Tryd.stepStoreNd (z := zN 0) (z' := (v6, T)) (.tmp 10) (.tmp 66) M rfl rfl rfl rfl HP7.out HN6.out.one ?_
                   intro W8 p8 z8 k8
                   have HK8 := Lib.hid (show Kp (fun _ => False) w6 W8 from HK7.out.trans_new k8 (fun b hb => .inr (by have := HM.out; omega)))
                   clear p8 z8 k8))
              go_wp2_with fail
              go_ret
              exact ⟨rfl, HB6.out.trans (HK8.out.below (n := w.heap.size) HB6.out.size (fun _ h => h.elim))⟩
            · have hxne : x.data.toList ≠ [] := fun e => hx0 (ba_eq e)
              have hxl : x.toList ≠ [] := by rw [ByteArray.toList_eq]; exact hxne
              have hxe : x.toList.isEmpty = false := by
                cases hh : x.toList with
                | nil => exact absurd hh hxl
                | cons a r => rfl
              have hlaw := nodes_law HPS.out HXX.out hxne (by show x.size ≤ 256; omega)
              obtain ⟨r, hr⟩ : ∃ r, r = matchG [ps] x.data.toList := ⟨_, rfl⟩
              rw [← hr, ← HT.out] at hlaw
              have HLAW := Lib.hid hlaw
              have HRR := Lib.hid hr
              have HOK := Lib.hid (show okT T = true by rw [HT.out]; exact ok_node ps (fun p hp h4 => ((HPS.out p hp).1.words h4).1))
              have HCT := Lib.hid (show costT T ≤ 40000 by rw [HT.out]; have := HPC.out; omega)
              clear hlaw hr hxne hx0
              go_wp2_with (first
                | (refine Tryd.stepAllocNd (n := M) rfl rfl HM.out ?_
                   intro W7 p7 z7 k7
                   have HP7 := Lib.hid p7
                   have HK7 := Lib.hid k7
                   clear p7 z7 k7)
                | (refine Tryd.stepStoreNd (z := zN 0) (z' := (v6, T)) (.tmp 10) (.tmp 66) M rfl rfl rfl rfl HP7.out HN6.out.one ?_
                   intro W8 p8 z8 k8
                   have HK8 := Lib.hid (show Kp (fun _ => False) w6 W8 from HK7.out.trans_new k8 (fun b hb => .inr (by have := HM.out; omega)))
                   have HP8 := Lib.hid p8
                   clear p8 z8 k8)
                | (refine Tryd.stepLoadNdG (z := (v6, T)) (.tmp 10) M (by rfl) rfl rfl HP8.out ?_))
              have HB8 := Lib.hid (HB6.out.trans (HK8.out.below (n := w.heap.size) HB6.out.size (fun _ h => h.elim)))
              have HG8 := Lib.hid (HG6.out.below (HK8.out.below (Nat.le_refl _) (fun _ h => h.elim)))
              refine (rmatch_any v6 T x W8 (HN6.out.kp_of HK8.out (fun _ h => h)) HOK.out HCT.out (by omega) r HLAW.out).mono ?_
              rintro e w9 ⟨rfl, hb9⟩
              have HB9 := Lib.hid (HB8.out.trans (hb9.mono HB8.out.size))
              have HG9 := Lib.hid (HG8.out.below hb9)
              clear hb9
              have HC9 := Lib.hid (match_any gb [ps] x w9 HG9.out (HKW.out.below HB9.out) (by omega))
              rw [← HRR.out] at HC9
              cases r
              all_goals
                go_wp2_with fail
                refine HC9.out.mono ?_
                rintro e w10 ⟨rfl, hb10⟩
                have HB10 := Lib.hid (HB9.out.trans (hb10.mono HB9.out.size))
                clear hb10
                go_wp2_with fail
                go_ret
                exact ⟨rfl, HB10.out⟩
end Go.Proofs.YtnnfhcbopchodaaDoor
