/- Agg, the document's walk. Names by number: Name, Named, both sides. The known case of chapter 10's laws. known of chapter 10's laws: its walk. How slices of whatever elements are opened. Vectors and groups that came in, opened; the law's Right; two answers of Normal. The guards of chapter 10's laws; two answers of Agg. Comparisons and operators of values: both sides' walks (printed by gen_vo1.py). slices.Insert at labels: one label into a row of one's own. slices.Insert at labels: the walk. (Several texts in one file, by merge.py.) -/
import Derived.Test.YtogjcaakfnfapaaGreatDoorZC8
import Derived.Test.YtogjcaakfnfapaaGreatDoorZC1
import Derived.ProofKit
import Derived.SizedLaws
import Derived.ChangeSlices
import Derived.Deep.Slices
import Derived.ChangeArms
import Derived.Lib.SmallJoins
import Derived.Test.YtogjcaakfnfapaaGreatDoorZC6
import Derived.Test.YtogjcaakfnfapaaGreatDoorZC4
import Derived.Deep.Strs
import Derived.Test.YtogjcaakfnfapaaGreatDoorZC7
import Derived.Lib.Overlaps
import Derived.Lib.AppendZerosOnto
import Derived.Laws.CopyRow
import Derived.Laws.Externs
import Derived.Outline
import Derived.Laws.CopyOwn
import Derived.Deep.RegionLaw
namespace Go.Proofs.YtogjcaakfnfapaaGreatDoor
open Go Go.RowKit Go.Maps
set_option linter.unusedVariables false
set_option linter.unusedSimpArgs false
set_option maxRecDepth 100000
theorem grown_more {W w1 w2 : World} {row row2 : Option Nat} (h : W.grownBy w1 row) (h2 : w1.grownBy w2 row2) (hr : row2 = row ∨ ∀ g, row2 = some g → W.heap.size ≤ g) : W.grownBy w2 row :=
  ⟨h2.os.trans h.os, h2.tape.trans h.tape, h2.output.trans h.output, Nat.le_trans h.size h2.size, fun b hb hne => by
    rw [h2.block b (Nat.lt_of_lt_of_le hb h.size) (fun e => by
      rcases hr with hr | hr
      · rw [hr] at e; exact hne e
      · have := hr b e.symm; omega)]
    exact h.block b hb hne⟩
theorem grown_refl (W : World) (row : Option Nat) : W.grownBy W row := ⟨rfl, rfl, rfl, Nat.le_refl _, fun _ _ _ => rfl⟩
def donel (d : Nat → Bool) (N : Nat) : List Value := (List.range N).map fun j => Value.bool (d j)
theorem donel_len (d : Nat → Bool) (N : Nat) : (donel d N).length = N := by simp [donel]
theorem donel_get {d : Nat → Bool} {N q : Nat} (h : q < N) : (donel d N)[q]? = some (.bool (d q)) := by simp [donel, h]
theorem donel_set (d : Nat → Bool) (N q : Nat) : (donel d N).set q (.bool true) = donel (fun j => if j = q then true else d j) N := by
  refine List.ext_getElem (by simp [donel_len]) fun j h1 h2 => ?_
  rw [List.getElem_set]
  simp only [donel, List.getElem_map, List.getElem_range]
  by_cases e : q = j
  · rw [if_pos e, if_pos e.symm]
  · rw [if_neg e, if_neg (Ne.symm e)]
theorem donel_made (N : Nat) : (madeCells (Value.bool false).cells (N * 1)).toList = donel (fun _ => false) N := by
  refine List.ext_getElem (by simp [donel_len, size_madeCells]) fun j h1 h2 => ?_
  simp only [donel, madeCells, List.getElem_map, List.getElem_range, Array.toList_map, Array.toList_range, Nat.mul_one]
  show (#[Value.bool false][j % 1]!) = _
  rw [Nat.mod_one]; rfl
/-- A list of labels does not lie in a full row of truth values. -/
theorem lab_apart {w : World} {lv : Value} {l : List Lb} {base g N : Nat} {d : Nat → Bool} {t : TypeId} (h : Sl lenc w lv l) (hx : l ≠ []) (ho : w.ownsRow base t 1 (.slice (some ⟨g, 0, none⟩) N N) N (donel d N)) : lv.ownBlock ≠ some g := by
  obtain ⟨a, c, rfl, hm, hn, hc⟩ := h
  obtain ⟨b, off, rfl, hd⟩ := hc hx
  intro e
  simp only [Value.ownBlock] at e
  injection e with e
  subst e
  cases l with
  | nil => exact hx rfl
  | cons x r =>
    have h0 := hd 0 (.string x.1) rfl
    rcases ho.2 with ⟨e, -⟩ | ⟨g', cap, cur, e, -, hg, -, -, hs, ht⟩
    · cases e
    · injection e with e1 e2 e3
      injection e1 with e1
      injection e1 with e1
      subst e1 e3
      have hcur : cur.toList = donel d N := by
        rw [← ht, List.take_of_length_le (by simp [hs])]
      simp only [World.cell?, hg, Option.isSome_none, Bool.false_eq_true, if_false] at h0
      have hm2 : Value.string x.1 ∈ cur.toList := by
        rw [Array.mem_toList_iff]
        exact Array.mem_of_getElem? h0
      rw [hcur] at hm2
      obtain ⟨j, -, e⟩ := List.mem_map.1 hm2
      cases e
theorem memb_take {β : Type} (gl : β → List Lb) (zs : List β) (m : Nat) (h : m < zs.length) (g : List Lb) : membG gl (zs.take (m + 1)) g = membG gl (zs.take m) g ++ if gl zs[m] = g then [zs[m]] else [] := by
  rw [List.take_succ_eq_append_getElem h]
  unfold membG
  rw [List.filter_append]
  by_cases e : gl zs[m] = g <;> simp [e, List.filter_cons]
theorem OV.keptBy {w w' : World} {base : Nat} {v : Value} {ps : List Pt} {row : Option Nat} (h : OV w base v ps) (hg : w.grownBy w' row) (hv : v.ownBlock = none ∨ v.ownBlock ≠ row) (hl : ∀ lv l, Sl lenc w lv l → l ≠ [] → lv.ownBlock ≠ row) : OV w' base v ps := by
  obtain ⟨zs, h1, h2, h3⟩ := h
  exact ⟨zs, h1, h2.kept hg hv, fun z hz => ⟨(h3 z hz).1.grown (hl _ _ (h3 z hz).1) hg, (h3 z hz).2⟩⟩
theorem Tryz.infoBool : (Tryz.prog.info? 4).map (fun i => (i.zero, i.size, i.bytes)) = some (some (.bool false), 1, 1) := by kernel_rfl
theorem rgroup_S (v vn : Value) (how : Int) (l : List Lb) (names : List ByteArray) (w : World) (h : Sl lenc w v l) (hn : Sl senc1 w vn names) (hl : l.length ≤ 100000) (hnl : names.length ≤ 100000) :
    Calls Tryz.prog 60 #[v, .agg #[.int .i64 how, vn]] w fun e w' => ∃ a n c, e = .returned (.slice a n c) ∧ Sl lenc w' (.slice a n c) (groupL how names l) ∧ (∀ k, (Value.slice a n c).ownBlock = some k → w.heap.size ≤ k) ∧ Below w.heap.size w w' := by
  refine (rgroup_own v vn how l names w h hn hl hnl).mono ?_
  rintro e w' ⟨v', rfl, ho, hb⟩
  have hs : Sl lenc w' v' (groupL how names l) := Sl.own lenc_len (by decide) ho
  obtain ⟨a, c, rfl, h1⟩ := id hs
  exact ⟨a, _, c, rfl, hs, fun k hk => (ho.lt k hk).1, hb⟩
theorem rsame_S (v1 v2 : Value) (xs ys : List Lb) (w : World) (h1 : Sl lenc w v1 xs) (h2 : Sl lenc w v2 ys) :
    Calls Tryz.prog 28 #[v1, v2] w fun e w' => e = .returned (.bool (decide (xs = ys))) ∧ Below w.heap.size w w' := by
  refine (rsame_any v1 v2 xs ys w h1 h2).mono ?_
  rintro e w' ⟨rfl, n, rfl⟩
  refine ⟨ret_b ?_, below_drewN (Below.refl _ _) n⟩
  rw [Bool.eq_iff_iff]
  simp only [beq_iff_eq, decide_eq_true_eq]
  exact cmpL_eq xs ys
end Go.Proofs.YtogjcaakfnfapaaGreatDoor
namespace Go.Proofs.YtogjcaakfnfapaaGreatDoor
open Go Go.RowKit
set_option linter.unusedVariables false
set_option linter.unusedSimpArgs false
def agNamesL : List ByteArray := [⟨#[]⟩, ⟨#[115, 117, 109]⟩, ⟨#[99, 111, 117, 110, 116]⟩, ⟨#[109, 105, 110]⟩, ⟨#[109, 97, 120]⟩, ⟨#[97, 118, 103]⟩, ⟨#[116, 111, 112, 107]⟩, ⟨#[98, 111, 116, 116, 111, 109, 107]⟩, ⟨#[103, 114, 111, 117, 112]⟩]
def agNameOf (fn : Int) : ByteArray := if 1 ≤ fn ∧ fn ≤ 8 then agNamesL.getD fn.toNat ⟨#[]⟩ else ⟨#[]⟩

def agFind (s : ByteArray) : List ByteArray → Nat → Int
  | [], _ => -1
  | x :: l, k => if x.toList = s.toList then (k : Int) else agFind s l (k + 1)
theorem agFind_drop (s : ByteArray) (xs : List ByteArray) (k : Nat) (h : k < xs.length) : agFind s (xs.drop k) k = if (xs[k]).toList = s.toList then (k : Int) else agFind s (xs.drop (k + 1)) (k + 1) := by
  rw [List.drop_eq_getElem_cons h]; rfl

set_option maxHeartbeats 1000000 in
theorem agIndex_any (v : Value) (xs : List ByteArray) (s : ByteArray) (w : World) (h : Sl senc1 w v xs) :
    Calls Tryz.prog 67 #[v, .string s] w fun e w' => e = .returned (.int .i64 (agFind s xs 0)) ∧ w = w' := by
  obtain ⟨a, cap, rfl, ⟨hle, hcap⟩, hc⟩ := h.strings
  have HC := Lib.hid hc
  clear hc h
  go_enter Tryz.func67, Tryz.ntmps67
  go_wp2_with fail
  go_loopw [8] (fun i wr => ∃ k : Nat, k ≤ xs.length ∧ i = .int .i64 k ∧ agFind s (xs.drop k) k = agFind s xs 0 ∧ wr = w) (fun i _ => xs.length - (intOf i).toNat)
  case atStart => exact ⟨0, Nat.zero_le _, rfl, rfl, rfl⟩
  case round =>
    obtain ⟨k, hk, rfl, hv, rfl⟩ := hrel
    have HV := Lib.hid hv
    clear hv
    by_cases hlt : k < xs.length
    · obtain ⟨b, off, rfl, hcc⟩ := HC.out k hlt
      have hc0 := hcc k hlt
      have hd := agFind_drop s xs k hlt
      obtain ⟨x, hx⟩ : ∃ x, x = xs[k] := ⟨_, rfl⟩
      rw [← hx] at hc0 hd
      clear hcc hx
      have hk0 : (0 : Int) ≤ (k : Int) := Int.natCast_nonneg _
      have hk1 : (k : Int) < (xs.length : Int) := by omega
      by_cases heq : x.toList = s.toList
      · rw [if_pos heq] at hd
        have b1 : (x.toList == s.toList) = true := by simpa using heq
        have b2 : (s.toList == x.toList) = true := by simpa using heq.symm
        have HD := Lib.hid hd
        clear hd heq
        go_wp2_with fail
        go_ret
        exact ⟨ret_i (by rw [← HV.out, HD.out]), rfl⟩
      · rw [if_neg heq] at hd
        have b1 : (x.toList == s.toList) = false := by simpa using heq
        have b2 : (s.toList == x.toList) = false := by simpa using (fun e => heq (Eq.symm e))
        have HD := Lib.hid hd
        clear hd heq
        go_wp2_with fail
        go_roundw
        case rel => exact ⟨k + 1, by omega, by go_num, by rw [← HV.out, HD.out], by trivial⟩
        case measure => simp [intOf]; omega
    · obtain rfl : k = xs.length := by omega
      go_wp2_with fail
      go_ret
      exact ⟨ret_i (by rw [← HV.out, List.drop_length]; rfl), rfl⟩

def agNamedI (s : ByteArray) : Int × Bool := if agFind s agNamesL 0 < 1 then (0, false) else (agFind s agNamesL 0, true)
theorem agFind_bd (s : ByteArray) (xs : List ByteArray) : ∀ k : Nat, -1 ≤ agFind s xs k ∧ agFind s xs k ≤ (k + xs.length : Nat) := by
  induction xs with
  | nil => intro k; simp [agFind]
  | cons x xs ih =>
    intro k
    have := ih (k + 1)
    unfold agFind
    split <;> (simp only [List.length_cons]; omega)
theorem Tryz.agNamedEq (s : ByteArray) : agNamedI s = if agFind s (agNamesL.drop 1) 1 < 0 then (0, false) else (agFind s (agNamesL.drop 1) 1, true) := by
  have h0 : agFind s agNamesL 0 = if (⟨#[]⟩ : ByteArray).toList = s.toList then 0 else agFind s (agNamesL.drop 1) 1 := rfl
  unfold agNamedI
  by_cases he : (⟨#[]⟩ : ByteArray).toList = s.toList
  · have e : ∀ (l : List ByteArray) k, agFind s l k = agFind ⟨#[]⟩ l k := by
      intro l
      induction l with
      | nil => intro k; rfl
      | cons x l ih => intro k; unfold agFind; rw [ih, he]
    rw [e, e]
    decide +kernel
  · rw [h0, if_neg he]
    have hp : agFind s (agNamesL.drop 1) 1 = -1 ∨ 1 ≤ agFind s (agNamesL.drop 1) 1 := by
      have : ∀ (l : List ByteArray) (k : Nat), 1 ≤ k → agFind s l k = -1 ∨ 1 ≤ agFind s l k := by
        intro l
        induction l with
        | nil => intro k _; exact .inl rfl
        | cons x l ih =>
          intro k hk
          unfold agFind
          split
          · right; omega
          · exact ih (k + 1) (by omega)
      exact this _ 1 (by omega)
    rcases hp with h | h
    · rw [h]; rfl
    · rw [if_neg (by omega), if_neg (by omega)]

theorem agFind_lt (s : ByteArray) (xs : List ByteArray) : ∀ k : Nat, agFind s xs k < (k + xs.length : Nat) := by
  induction xs with
  | nil => intro k; simp [agFind]; omega
  | cons x xs ih =>
    intro k
    have := ih (k + 1)
    unfold agFind
    split <;> (simp only [List.length_cons]; omega)
end Go.Proofs.YtogjcaakfnfapaaGreatDoor
namespace Go.Proofs.YtogjcaakfnfapaaGreatDoor
open Go Go.RowKit
set_option linter.unusedVariables false
set_option linter.unusedSimpArgs false
set_option maxRecDepth 100000
def lbOne : List Lb := [(⟨#[97]⟩, ⟨#[49]⟩), (⟨#[98]⟩, ⟨#[49]⟩)]
def lbTwo : List Lb := [(⟨#[97]⟩, ⟨#[49]⟩), (⟨#[98]⟩, ⟨#[50]⟩)]
def lbSum : List Lb := [(⟨#[97]⟩, ⟨#[49]⟩)]
def F2 : Nat := 4611686018427387904
def F3 : Nat := 4613937818241073152
def F5 : Nat := 4617315517961601024
def kps : List Pt := [(lbOne, F2), (lbTwo, F3)]
theorem kps_right : ∀ p ∈ kps, rightL p.1 = true := by decide +kernel
theorem kps_canon : kps.map canonP = kps := by decide +kernel
theorem kps_strict : Strict kps := by
  unfold Strict kps
  simp only [List.pairwise_cons, List.not_mem_nil, List.mem_singleton, forall_eq, false_imp_iff, implies_true, and_true, List.Pairwise.nil]
  decide +kernel
theorem kps_ok : ∀ p ∈ kps, PtOk p := by
  intro p hp
  rcases List.mem_cons.1 hp with rfl | hp
  · refine ⟨by decide, fun x hx => ?_, by show (4611686018427387904 : Nat) < _; decide⟩
    simp only [lbOne, List.mem_cons, List.not_mem_nil, or_false] at hx
    rcases hx with rfl | rfl <;> exact ⟨by decide, by decide⟩
  · rw [List.mem_singleton.1 hp]
    refine ⟨by decide, fun x hx => ?_, by show (4613937818241073152 : Nat) < _; decide⟩
    simp only [lbTwo, List.mem_cons, List.not_mem_nil, or_false] at hx
    rcases hx with rfl | rfl <;> exact ⟨by decide, by decide⟩
def kA : List ByteArray := [⟨#[97]⟩]
theorem k_sum : aggP 1 1 kA 0 kps = [(lbSum, F5)] := by decide +kernel
theorem k_top : aggP 6 0 [] F1 kps = [(lbTwo, F3)] := by decide +kernel
theorem k_chk1 : chkL 1 kA = 0 := by decide +kernel
theorem k_chk2 : chkL 0 [] = 0 := by decide +kernel
theorem k_named : agNamedI ⟨#[116, 111, 112, 107]⟩ = (6, true) := by decide +kernel
/-- Normal of one list that is in order. -/
theorem nr_known {ps : List Pt} {e : Ending} {w : World} (hr : ∀ p ∈ ps, rightL p.1 = true) (hc : ps.map canonP = ps) (hs : Strict ps) (h : NR ps e w) : ∃ v', e = .returned (.tuple #[v', .int .i64 0]) ∧ VS w v' ps := by
  rcases h with ⟨⟨p, hp, h1⟩, -⟩ | ⟨-, h1, -⟩ | ⟨-, q, v', h1, h2, h3, h4⟩
  · rw [hr p hp] at h1; cases h1
  · exact absurd hs (h1 _ (by rw [hc]))
  · have : q = ps := strictp_unique (h1.trans (by rw [hc])) h2 hs
    subst this
    exact ⟨v', h3, h4⟩
theorem aggr_known {op how : Int} {names : List ByteArray} {k : Nat} {ps qs : List Pt} {e : Ending} {w : World} (h0 : isB op = true) (h1 : chkL how names = 0) (h2 : aggP op how names k ps = qs)
    (hr : ∀ p ∈ qs, rightL p.1 = true) (hc : qs.map canonP = qs) (hs : Strict qs) (h : AggR op how names k ps e w) : ∃ v', e = .returned (.tuple #[v', .int .i64 0]) ∧ VS w v' qs := by
  rcases h with ⟨h3 | h3, -⟩ | ⟨-, -, h3⟩
  · rw [h0] at h3; cases h3
  · exact absurd h1 h3
  · rw [h2] at h3; exact nr_known hr hc hs h3
end Go.Proofs.YtogjcaakfnfapaaGreatDoor
namespace Go.Proofs.YtogjcaakfnfapaaGreatDoor
open Go Go.RowKit
set_option linter.unusedVariables false
set_option linter.unusedSimpArgs false
set_option maxRecDepth 100000
end Go.Proofs.YtogjcaakfnfapaaGreatDoor
namespace Go.Proofs.YtogjcaakfnfapaaGreatDoor
open Go.RowKit Go.ChangeShapes Go.WideShapes
set_option linter.unusedVariables false
set_option linter.unusedSimpArgs false

theorem add_spot {w : World} {x : Addr} {j : Nat} {u : Value} (h : w.cell? (x.add j) = some u) (hs : x.spot = none) : w.cell? ⟨x.block, x.off + j, none⟩ = some u := by
  obtain ⟨b, off, sp⟩ := x
  subst hs
  rw [Addr.add_lit] at h
  exact h

section
variable {H : Type} {enc : TypeId × Value → H} {P : Program} {w : World} {base : Nat} {spare : Nat → Bool} {held : Bool}

theorem cells_get {base n : Nat} {a : Addr} {cs : List Value} (h : w.cells? base a n = some cs) (hs : a.spot = none) : cs.length = n ∧ ∀ i u, cs[i]? = some u → w.cell? ⟨a.block, a.off + i, none⟩ = some u := by
  unfold World.cells? at h
  split at h
  · have hl : cs.length = n := by simpa using mapM_some_length h
    refine ⟨hl, fun i u hu => ?_⟩
    have hi : i < n := by have := (List.getElem?_eq_some_iff.1 hu).1; omega
    have := mapM_some_get h i i (by simp [hi])
    obtain ⟨b, off, sp⟩ := a
    simp only at hs
    subst hs
    rw [Addr.add_lit] at this
    rw [this]; exact hu
  · cases h

theorem cells_first {base n : Nat} {a : Addr} {cs : List Value} (h : w.cells? base a n = some cs) (h0 : 0 < n) : ∃ u, w.cell? a = some u := by
  unfold World.cells? at h
  split at h
  · have hl : cs.length = n := by simpa using mapM_some_length h
    have h3 := mapM_some_get h 0 0 (by simp [h0])
    exact ⟨cs[0], h3.trans (List.getElem?_eq_getElem (by omega))⟩
  · cases h
theorem pick_list {α : Type} {R : Nat → α → Prop} {len : Nat} (one : ∀ i, i < len → ∃ y, R i y) : ∃ xs : List α, xs.length = len ∧ ∀ i (hi : i < xs.length), R i xs[i] := by
  induction len with
  | zero => exact ⟨[], rfl, fun i hi => by simp at hi⟩
  | succ m ih =>
    obtain ⟨xs, hx, hh⟩ := ih (fun i hi => one i (by omega))
    obtain ⟨y, hy⟩ := one m (by omega)
    refine ⟨xs ++ [y], by simp [hx], fun i hi => ?_⟩
    by_cases h' : i < xs.length
    · rw [List.getElem_append_left h']; exact hh i h'
    · have : i = xs.length := by simp at hi; omega
      subst this
      rw [List.getElem_append_right (Nat.le_refl _)]
      simp only [Nat.sub_self, List.getElem_cons_zero]
      rw [hx]; exact hy

theorem open_sl_cs {α : Type} {encd : α → List Value} {sz : Nat} {t e : TypeId} {fuel : Nat} {cs : List Value} {x : DataW H × List MemPlace} {Good : α → Prop} (ht : P.underlying t = some (.slice e)) (hc : P.cellsOf e = sz) (h0 : 0 < sz) (hsz : ∀ x, (encd x).length = sz)
    (elem : ∀ n cs x, DataW.trod enc P w base spare held n e cs = some x → ∃ a : α, cs = encd a ∧ Good a)
    (h : DataW.trod enc P w base spare held fuel t cs = some x) : ∃ v xs, cs = [v] ∧ Sl encd w v xs ∧ ∀ a ∈ xs, Good a := by
  rcases DataW.trod_slice ht h with ⟨rfl, _⟩ | ⟨a, len, cap, elems, rest, n, _, rfl, _, hb, hl, hm, hlen, hel, _⟩
  · exact ⟨_, [], rfl, Sl.nil w, by simp⟩
  · rw [hc] at hel
    have one : ∀ i, i < len → ∃ y : α, Good y ∧ w.cells? base (a.add (i * sz)) sz = some (encd y) := by
      intro i hi
      have h1 := hel i hi
      have h2 : elems[i]? = some elems[i] := List.getElem?_eq_getElem (by omega)
      rw [h2] at h1
      obtain ⟨cs', h3, h4⟩ := Option.bind_eq_some_iff.1 h1
      obtain ⟨y, rfl, hg⟩ := elem _ _ _ h4
      exact ⟨y, hg, h3⟩
    obtain ⟨xs, hx, hh⟩ := pick_list (R := fun i y => Good y ∧ w.cells? base (a.add (i * sz)) sz = some (encd y)) one
    refine ⟨_, xs, rfl, ⟨some a, cap, by rw [hx], ⟨by omega, by unfold maxLen at hm; omega⟩, (fun e => by cases e), fun hne => ?_⟩, fun y hy => ?_⟩
    · have hpos : 0 < xs.length := List.length_pos_iff.2 hne
      have h1 := (hh 0 hpos).2
      have hsp : a.spot = none := by
        rw [Nat.zero_mul] at h1
        have h2 : (a.add 0) = a := rfl
        rw [h2] at h1
        obtain ⟨u, hu⟩ := cells_first h1 h0
        exact World.cell?_spot hu
      obtain ⟨b, off, sp⟩ := a
      simp only at hsp
      subst hsp
      refine ⟨b, off, rfl, fun j u hu => ?_⟩
      have hj : j < xs.length * sz := by rw [← flat_length hsz]; exact (List.getElem?_eq_some_iff.1 hu).1
      have hk : j / sz < xs.length := Nat.div_lt_of_lt_mul (by rw [Nat.mul_comm]; exact hj)
      have hjj : j = j / sz * sz + j % sz := by rw [Nat.mul_comm]; exact (Nat.div_add_mod j sz).symm
      rw [hjj, flat_get hsz xs _ _ (Nat.mod_lt _ h0) hk] at hu
      have h2 := (hh _ hk).2
      rw [Addr.add_lit] at h2
      have h3 := (cells_get h2 rfl).2 _ _ hu
      rw [hjj, ← Nat.add_assoc]
      exact h3
    · obtain ⟨i, hi, rfl⟩ := List.getElem_of_mem hy
      exact (hh i hi).1
theorem open_sl {α : Type} {encd : α → List Value} {sz b0 : Nat} {t e : TypeId} {r : Reach} {v : Value} {d : DataW H} {ps : List MemPlace} {Good : α → Prop} (ht : P.underlying t = some (.slice e)) (hc : P.cellsOf e = sz) (h0 : 0 < sz) (hsz : ∀ x, (encd x).length = sz)
    (elem : ∀ n cs x, DataW.trod enc P w base spare held n e cs = some x → ∃ a : α, cs = encd a ∧ Good a)
    (hval : Value.okWide P w r b0 t v) (h : DataW.Trod enc P w base spare held t v d ps) : ∃ xs, Sl encd w v xs ∧ ∀ a ∈ xs, Good a := by
  obtain ⟨a, len, cap, rfl⟩ := okWide_slice ht hval
  obtain ⟨fuel, hf⟩ := h
  obtain ⟨v', xs, hv, hs, hg⟩ := open_sl_cs ht hc h0 hsz elem hf
  simp [Value.cells] at hv
  subst hv
  exact ⟨xs, hs, hg⟩
end
end Go.Proofs.YtogjcaakfnfapaaGreatDoor
namespace Go.Proofs.YtogjcaakfnfapaaGreatDoor
open Go Go.RowKit Go.ChangeShapes Go.WideShapes Go.Joins
set_option linter.unusedVariables false
set_option linter.unusedSimpArgs false
set_option maxRecDepth 100000
theorem Tryz.cellsLb : Tryz.prog.cellsOf 46 = 2 := by kernel_rfl
theorem Tryz.cellsLbs : Tryz.prog.cellsOf 47 = 1 := by kernel_rfl
theorem Tryz.cellsPt : Tryz.prog.cellsOf 50 = 2 := by kernel_rfl
theorem Tryz.cellsFl : Tryz.prog.cellsOf 48 = 1 := by kernel_rfl
theorem Tryz.cellsI : Tryz.prog.cellsOf 3 = 1 := by kernel_rfl
theorem Tryz.cellsStrs : Tryz.prog.cellsOf 22 = 1 := by kernel_rfl
theorem Tryz.cellsGr : Tryz.prog.cellsOf 24 = 2 := by kernel_rfl
theorem Tryz.cellsStr : Tryz.prog.cellsOf 9 = 1 := by kernel_rfl
section
variable {H : Type} {enc : TypeId × Value → H} {w : World} {base : Nat} {spare : Nat → Bool} {held : Bool}
theorem trod_float {cs : List Value} {fuel : Nat} {t : TypeId} {k : FloatKind} {P : Program} {x : DataW H × List MemPlace} (ht : P.underlying t = some (.float k)) (h : DataW.trod enc P w base spare held fuel t cs = some x) : ∃ n, cs = [.float k n] ∧ (Lit.float k n).wf = true := by
  cases fuel with
  | zero => simp [DataW.trod] at h
  | succ n =>
    unfold DataW.trod at h
    rw [ht] at h
    split at h <;> simp_all
theorem elem_label (n : Nat) (cs : List Value) (x : DataW H × List MemPlace) (h : DataW.trod enc Tryz.prog w base spare held n 46 cs = some x) : ∃ a : Lb, cs = lenc a ∧ True := by
  obtain ⟨y0, y1, m, hx, hl, h0, h1⟩ := trod_struct2 Tryz.underlying46 h
  rw [Tryz.cellsLb] at hl
  match cs, hl with
  | [c0, c1], _ =>
    obtain ⟨s1, e0, _⟩ := DataW.trod_string Tryz.underlying9 h0
    obtain ⟨s2, e1, _⟩ := DataW.trod_string Tryz.underlying9 h1
    simp [Tryz.cellsStr] at e0 e1
    subst e0 e1
    exact ⟨(s1, s2), rfl, trivial⟩
def PGood (w : World) (a : RPt) : Prop := (∃ l, Sl lenc w a.1 l) ∧ (Lit.float .f64 a.2).wf = true
theorem elem_point (n : Nat) (cs : List Value) (x : DataW H × List MemPlace) (h : DataW.trod enc Tryz.prog w base spare held n 50 cs = some x) : ∃ a : RPt, cs = penc a ∧ PGood w a := by
  obtain ⟨y0, y1, m, hx, hl, h0, h1⟩ := trod_struct2 Tryz.underlying50 h
  rw [Tryz.cellsPt] at hl
  match cs, hl with
  | [c0, c1], _ =>
    obtain ⟨v, xs, e0, hs, -⟩ := open_sl_cs Tryz.underlying47 Tryz.cellsLb (by decide) lenc_len elem_label h0
    obtain ⟨s1, e1, hwf⟩ := trod_float Tryz.underlying48 h1
    simp [Tryz.cellsLbs, Tryz.cellsFl] at e0 e1
    subst e0 e1
    exact ⟨(c0, s1), rfl, ⟨xs, hs⟩, hwf⟩
theorem vs_good {v : Value} {xs : List RPt} (h : Sl penc w v xs) (hg : ∀ a ∈ xs, PGood w a) : ∃ ps, VS w v ps ∧ ∀ p ∈ ps, (Lit.float .f64 p.2).wf = true := by
  obtain ⟨ls, hl, hh⟩ := pick_list (R := fun i (l : List Lb) => ∃ hi : i < xs.length, Sl lenc w xs[i].1 l) (len := xs.length) (fun i hi => by
    obtain ⟨⟨l, hs⟩, -⟩ := hg xs[i] (List.getElem_mem hi)
    exact ⟨l, hi, hs⟩)
  refine ⟨List.zipWith (fun (a : RPt) (l : List Lb) => ((l, a.2) : Pt)) xs ls, ⟨xs, h, by simp [hl], fun k hk h2 => ?_⟩, fun p hp => ?_⟩
  · rw [List.getElem_zipWith]
    obtain ⟨_, hs⟩ := hh k (by omega)
    exact ⟨hs, rfl⟩
  · obtain ⟨k, hk, rfl⟩ := List.mem_iff_getElem.1 hp
    rw [List.getElem_zipWith]
    exact (hg _ (List.getElem_mem _)).2
theorem elem_str (n : Nat) (cs : List Value) (x : DataW H × List MemPlace) (h : DataW.trod enc Tryz.prog w base spare held n 9 cs = some x) : ∃ a : ByteArray, cs = senc1 a ∧ True := by
  obtain ⟨s1, e0, _⟩ := DataW.trod_string Tryz.underlying9 h
  exact ⟨s1, e0, trivial⟩
theorem open_group {r : Reach} {b0 : Nat} {v : Value} {d : DataW H} {ps : List MemPlace} (hval : Value.okWide Tryz.prog w r b0 24 v) (h : DataW.Trod enc Tryz.prog w base spare held 24 v d ps) : ∃ how u xs, v = .agg #[.int .i64 how, u] ∧ Sl senc1 w u xs := by
  obtain ⟨cs, rfl, hsz⟩ := okWide_struct Tryz.underlying24 hval
  obtain ⟨fuel, hf⟩ := h
  obtain ⟨y0, y1, m, hx, hl, h0, h1⟩ := trod_struct2 Tryz.underlying24 hf
  have hl3 : cs.toList.length = 2 := by simpa [Tryz.cellsGr] using hsz
  obtain ⟨l, rfl⟩ : ∃ l : List Value, cs = l.toArray := ⟨cs.toList, by simp⟩
  simp only [Value.cells] at h0 h1
  simp only [List.toList_toArray] at hl3 h0 h1
  match l, hl3 with
  | [c0, c1], _ =>
    obtain ⟨se, e0, _⟩ := DataW.trod_int Tryz.underlying3 h0
    obtain ⟨u, xs, e1, hs, _⟩ := open_sl_cs Tryz.underlying22 Tryz.cellsStr (by decide) senc1_len elem_str h1
    simp [Tryz.cellsI, Tryz.cellsStrs] at e0 e1
    subst e0 e1
    exact ⟨se, _, xs, rfl, hs⟩
theorem open_points {r : Reach} {b0 : Nat} {v : Value} {d : DataW H} {ps : List MemPlace} (hval : Value.okWide Tryz.prog w r b0 27 v) (h : DataW.Trod enc Tryz.prog w base spare held 27 v d ps) : ∃ ps, VS w v ps ∧ ∀ p ∈ ps, (Lit.float .f64 p.2).wf = true := by
  obtain ⟨xs, h, hg⟩ := open_sl Tryz.underlying27 Tryz.cellsPt (by decide) penc_len elem_point hval h
  exact vs_good h hg
theorem open_vec {r : Reach} {b0 : Nat} {v : Value} {d : DataW H} {ps : List MemPlace} (hval : Value.okWide Tryz.prog w r b0 28 v) (h : DataW.Trod enc Tryz.prog w base spare held 28 v d ps) : ∃ ps, VS w v ps ∧ ∀ p ∈ ps, (Lit.float .f64 p.2).wf = true := by
  obtain ⟨xs, h, hg⟩ := open_sl Tryz.underlying28 Tryz.cellsPt (by decide) penc_len elem_point hval h
  exact vs_good h hg
end
theorem vsame_refl (q : List Pt) : vsameL q q = true := vsame_yes ⟨rfl, fun k h _ => ⟨cmpL_refl _, by unfold fsame; simp⟩⟩
theorem few_all {ps : List Pt} (h : vfewL ps = true) : ps.length ≤ 60 ∧ ∀ p ∈ ps, fewL p.1 = true := by
  unfold vfewL at h
  rw [Bool.and_eq_true] at h
  exact ⟨of_decide_eq_true h.1, fun p hp => List.all_eq_true.1 h.2 p hp⟩
/-- Two answers of Normal to the same points are one. -/
theorem nr_two {ps : List Pt} {e f : Ending} {w w' W : World} (h : NR ps e w) (h' : NR ps f w') (hb : Below w.heap.size w W) (hb' : Below w'.heap.size w' W) :
    ∃ v u q n, e = .returned (.tuple #[v, .int .i64 n]) ∧ f = .returned (.tuple #[u, .int .i64 n]) ∧ VS W v q ∧ VS W u q ∧ ((n = 0 ∧ Strict q ∧ (∀ p ∈ q, rightL p.1 = true) ∧ q.Perm (ps.map canonP)) ∨ (n ≠ 0 ∧ q = [] ∧ v = .slice none 0 0 ∧ ¬ ((∀ p ∈ ps, rightL p.1 = true) ∧ ∃ q : List Pt, q.Perm (ps.map canonP) ∧ Strict q))) := by
  rcases h with ⟨⟨p, hp, h1⟩, rfl⟩ | ⟨h0, h1, rfl⟩ | ⟨h0, q, v, h1, h2, rfl, h4⟩
  · rcases h' with ⟨-, rfl⟩ | ⟨g0, -⟩ | ⟨g0, -⟩
    · exact ⟨_, _, [], 1, rfl, rfl, VS.nil _, VS.nil _, .inr ⟨by decide, rfl, rfl, fun hh => by rw [hh.1 p hp] at h1; cases h1⟩⟩
    · rw [g0 p hp] at h1; cases h1
    · rw [g0 p hp] at h1; cases h1
  · rcases h' with ⟨⟨p, hp, g1⟩, -⟩ | ⟨g0, g1, rfl⟩ | ⟨g0, q, v, g1, g2, -⟩
    · rw [h0 p hp] at g1; cases g1
    · exact ⟨_, _, [], 4, rfl, rfl, VS.nil _, VS.nil _, .inr ⟨by decide, rfl, rfl, fun ⟨_, q, a, b⟩ => h1 q a b⟩⟩
    · exact absurd g2 (h1 _ g1)
  · rcases h' with ⟨⟨p, hp, g1⟩, -⟩ | ⟨g0, g1, rfl⟩ | ⟨g0, q', v', g1, g2, rfl, g4⟩
    · rw [h0 p hp] at g1; cases g1
    · exact absurd h2 (g1 _ h1)
    · have he : q' = q := strictp_unique (g1.trans h1.symm) g2 h2
      subst he
      refine ⟨v, v', q', 0, rfl, rfl, h4.below hb (Nat.le_refl _), g4.below hb' (Nat.le_refl _), .inl ⟨rfl, h2, fun p hp => ?_, h1⟩⟩
      obtain ⟨r, hr, rfl⟩ := List.mem_map.1 (h1.subset hp)
      exact h0 r hr
theorem strict_vright {q : List Pt} (h : Strict q) (hr : ∀ p ∈ q, rightL p.1 = true) : vrightL q = true := vright_yes fun k hk => ⟨hr _ (List.getElem_mem hk), fun h0 => List.pairwise_iff_getElem.1 h (k - 1) k (by omega) hk (by omega)⟩
theorem lright_any (v : Value) (ps : List Pt) (w : World) (h : VS w v ps) :
    Calls Tryz.prog 6 #[v] w fun e w' => e = .returned (.bool (vfewL ps && vrightL ps)) ∧ ∃ n, w' = w.drewN n := by
  have HF := Lib.hid (vfew_any v ps w h)
  have HR := Lib.hid (rvright_any v ps w h)
  clear h
  obtain ⟨f, hf⟩ : ∃ f, f = vfewL ps := ⟨_, rfl⟩
  rw [← hf] at HF ⊢
  clear hf
  cases f with
  | false =>
    go_enter Tryz.func6, Tryz.ntmps6
    go_wp2_with fail
    refine HF.out.mono ?_
    rintro e w1 ⟨rfl, rfl⟩
    go_wp2_with fail
    go_ret
    exact ⟨rfl, 0, rfl⟩
  | true =>
    go_enter Tryz.func6, Tryz.ntmps6
    go_wp2_with fail
    refine HF.out.mono ?_
    rintro e w1 ⟨rfl, rfl⟩
    go_wp2_with fail
    refine HR.out.mono ?_
    rintro e w2 ⟨rfl, n, rfl⟩
    go_wp2_with fail
    go_ret
    exact ⟨rfl, n, rfl⟩
end Go.Proofs.YtogjcaakfnfapaaGreatDoor
namespace Go.Proofs.YtogjcaakfnfapaaGreatDoor
open Go Go.RowKit
set_option linter.unusedVariables false
set_option linter.unusedSimpArgs false
set_option maxRecDepth 100000
/-- What few says of a grouping's names. -/
def FewR (names : List ByteArray) (w : World) (e : Ending) (w' : World) : Prop := ∃ b, e = .returned (.bool b) ∧ (b = true → names.length ≤ 40 ∧ ∀ s ∈ names, s.size ≤ 300) ∧ Below w.heap.size w w'
/-- Two answers of Agg to the same are one. -/
theorem aggr_two {op how : Int} {names : List ByteArray} {k : Nat} {ps : List Pt} {e f : Ending} {w w' W : World} (h : AggR op how names k ps e w) (h' : AggR op how names k ps f w') (hb : Below w.heap.size w W) (hb' : Below w'.heap.size w' W) :
    ∃ v u q n, e = .returned (.tuple #[v, .int .i64 n]) ∧ f = .returned (.tuple #[u, .int .i64 n]) ∧ VS W v q ∧ VS W u q := by
  rcases h with ⟨h1, rfl⟩ | ⟨h1, h2, h3⟩
  · rcases h' with ⟨-, rfl⟩ | ⟨g1, g2, -⟩
    · exact ⟨_, _, [], 1, rfl, rfl, VS.nil _, VS.nil _⟩
    · rcases h1 with h1 | h1
      · rw [g1] at h1; cases h1
      · exact absurd g2 h1
  · rcases h' with ⟨g1, -⟩ | ⟨-, -, g3⟩
    · rcases g1 with g1 | g1
      · rw [h1] at g1; cases g1
      · exact absurd h2 g1
    · obtain ⟨v, u, q, n, e1, e2, e3, e4, -⟩ := nr_two h3 g3 hb hb'
      exact ⟨v, u, q, n, e1, e2, e3, e4⟩
theorem fb_of {b : Nat} (h : (Lit.float .f64 b).wf = true) : FB b := by
  unfold Lit.wf at h
  unfold FB
  simpa using h
theorem few_ok {ps : List Pt} (h : vfewL ps = true) (hf : ∀ p ∈ ps, (Lit.float .f64 p.2).wf = true) : (∀ p ∈ ps, PtOk p) ∧ ps.length ≤ 300 := by
  obtain ⟨h1, h2⟩ := few_all h
  refine ⟨fun p hp => ?_, by omega⟩
  have h3 := h2 p hp
  unfold fewL at h3
  simp only [Bool.and_eq_true, decide_eq_true_eq, List.all_eq_true] at h3
  exact ⟨by omega, fun x hx => by have := h3.2 x hx; omega, fb_of (hf p hp)⟩
end Go.Proofs.YtogjcaakfnfapaaGreatDoor
namespace Go.Proofs.YtogjcaakfnfapaaGreatDoor
open Go Go.RowKit
set_option linter.unusedVariables false
set_option linter.unusedSimpArgs false
set_option maxRecDepth 100000
def holdsF (op : Int) (a b : Nat) : Bool :=
  if op = 5 then FloatKind.f64.format.order a b == some .eq
  else if op = 6 then FloatKind.f64.format.order a b != some .eq
  else if op = 7 then FloatKind.f64.format.order a b == some .gt
  else if op = 8 then FloatKind.f64.format.order a b == some .lt
  else if op = 9 then FloatKind.f64.format.order a b == some .gt || FloatKind.f64.format.order a b == some .eq
  else if op = 10 then FloatKind.f64.format.order a b == some .lt || FloatKind.f64.format.order a b == some .eq
  else false
def opV (op : Int) (a b : Nat) : Nat :=
  if op = 1 then cop .add a b else if op = 2 then cop .sub a b else if op = 3 then cop .mul a b else if op = 4 then cop .quo a b
  else if op < 5 ∨ 10 < op then 0 else if holdsF op a b = true then 4607182418800017408 else 0
def opOk (op : Int) : Bool := decide (1 ≤ op) && decide (op ≤ 10)
theorem holds_any (op : Int) (a b : Nat) (w : World) : Calls Tryz.prog 24 #[.int .i64 op, .float .f64 a, .float .f64 b] w fun e w' => e = .returned (.bool (holdsF op a b)) ∧ w = w' := by
  by_cases h5 : op = 5
  · subst h5
    go_enter Tryz.func24, Tryz.ntmps24
    go_wp2_with fail
    go_ret
    exact ⟨rfl, rfl⟩
  · have g5 : (op == 5) = false := by simpa using h5
    by_cases h6 : op = 6
    · subst h6
      go_enter Tryz.func24, Tryz.ntmps24
      go_wp2_with fail
      go_ret
      exact ⟨rfl, rfl⟩
    · have g6 : (op == 6) = false := by simpa using h6
      by_cases h7 : op = 7
      · subst h7
        go_enter Tryz.func24, Tryz.ntmps24
        go_wp2_with fail
        go_ret
        exact ⟨rfl, rfl⟩
      · have g7 : (op == 7) = false := by simpa using h7
        by_cases h8 : op = 8
        · subst h8
          go_enter Tryz.func24, Tryz.ntmps24
          go_wp2_with fail
          go_ret
          exact ⟨rfl, rfl⟩
        · have g8 : (op == 8) = false := by simpa using h8
          by_cases h9 : op = 9
          · subst h9
            go_enter Tryz.func24, Tryz.ntmps24
            go_wp2_with fail
            go_ret
            exact ⟨rfl, rfl⟩
          · have g9 : (op == 9) = false := by simpa using h9
            by_cases h10 : op = 10
            · subst h10
              go_enter Tryz.func24, Tryz.ntmps24
              go_wp2_with fail
              go_ret
              exact ⟨rfl, rfl⟩
            · have g10 : (op == 10) = false := by simpa using h10
              have hz : holdsF op a b = false := by unfold holdsF; rw [if_neg h5, if_neg h6, if_neg h7, if_neg h8, if_neg h9, if_neg h10]
              rw [hz]
              clear hz
              go_enter Tryz.func24, Tryz.ntmps24
              go_wp2_with fail
              go_ret
              exact ⟨rfl, rfl⟩
theorem rholds_any (op : Int) (a b : Nat) (w : World) : Calls Tryz.prog 31 #[.int .i64 op, .float .f64 a, .float .f64 b] w fun e w' => e = .returned (.bool (holdsF op a b)) ∧ w = w' := by
  by_cases h5 : op = 5
  · subst h5
    go_enter Tryz.func31, Tryz.ntmps31
    go_wp2_with fail
    go_ret
    exact ⟨rfl, rfl⟩
  · have g5 : (op == 5) = false := by simpa using h5
    by_cases h6 : op = 6
    · subst h6
      go_enter Tryz.func31, Tryz.ntmps31
      go_wp2_with fail
      go_ret
      exact ⟨rfl, rfl⟩
    · have g6 : (op == 6) = false := by simpa using h6
      by_cases h7 : op = 7
      · subst h7
        go_enter Tryz.func31, Tryz.ntmps31
        go_wp2_with fail
        go_ret
        exact ⟨rfl, rfl⟩
      · have g7 : (op == 7) = false := by simpa using h7
        by_cases h8 : op = 8
        · subst h8
          go_enter Tryz.func31, Tryz.ntmps31
          go_wp2_with fail
          go_ret
          exact ⟨rfl, rfl⟩
        · have g8 : (op == 8) = false := by simpa using h8
          by_cases h9 : op = 9
          · subst h9
            go_enter Tryz.func31, Tryz.ntmps31
            go_wp2_with fail
            go_ret
            exact ⟨rfl, rfl⟩
          · have g9 : (op == 9) = false := by simpa using h9
            by_cases h10 : op = 10
            · subst h10
              go_enter Tryz.func31, Tryz.ntmps31
              go_wp2_with fail
              go_ret
              exact ⟨rfl, rfl⟩
            · have g10 : (op == 10) = false := by simpa using h10
              have hz : holdsF op a b = false := by unfold holdsF; rw [if_neg h5, if_neg h6, if_neg h7, if_neg h8, if_neg h9, if_neg h10]
              rw [hz]
              clear hz
              go_enter Tryz.func31, Tryz.ntmps31
              go_wp2_with fail
              go_ret
              exact ⟨rfl, rfl⟩
set_option maxHeartbeats 2000000 in
theorem op_any (op : Int) (a b : Nat) (w : World) : Calls Tryz.prog 25 #[.int .i64 op, .float .f64 a, .float .f64 b] w fun e w' => e = .returned (.tuple #[.float .f64 (opV op a b), .bool (opOk op)]) ∧ ∃ n, w' = w.drewN n := by
  by_cases h1 : op = 1
  · subst h1
    go_enter Tryz.func25, Tryz.ntmps25
    go_wp2_with fail
    refine (canon_any _ _).mono ?_
    rintro e w1 ⟨rfl, rfl⟩
    rw [canon_fop]
    go_wp2_with fail
    go_ret2
    exact ⟨rfl, _, rfl⟩
  · have g1 : (op == 1) = false := by simpa using h1
    by_cases h2 : op = 2
    · subst h2
      go_enter Tryz.func25, Tryz.ntmps25
      go_wp2_with fail
      refine (canon_any _ _).mono ?_
      rintro e w1 ⟨rfl, rfl⟩
      rw [canon_fop]
      go_wp2_with fail
      go_ret2
      exact ⟨rfl, _, rfl⟩
    · have g2 : (op == 2) = false := by simpa using h2
      by_cases h3 : op = 3
      · subst h3
        go_enter Tryz.func25, Tryz.ntmps25
        go_wp2_with fail
        refine (canon_any _ _).mono ?_
        rintro e w1 ⟨rfl, rfl⟩
        rw [canon_fop]
        go_wp2_with fail
        go_ret2
        exact ⟨rfl, _, rfl⟩
      · have g3 : (op == 3) = false := by simpa using h3
        by_cases h4 : op = 4
        · subst h4
          go_enter Tryz.func25, Tryz.ntmps25
          go_wp2_with fail
          refine (canon_any _ _).mono ?_
          rintro e w1 ⟨rfl, rfl⟩
          rw [canon_fop]
          go_wp2_with fail
          go_ret2
          exact ⟨rfl, _, rfl⟩
        · have g4 : (op == 4) = false := by simpa using h4
          by_cases ha : op < 5
          · have ha2 : decide (op < 5) = true := decide_eq_true ha
            have hv : opV op a b = 0 := by unfold opV; rw [if_neg h1, if_neg h2, if_neg h3, if_neg h4, if_pos (.inl ha)]
            have ho : opOk op = false := by unfold opOk; rw [Bool.and_eq_false_iff]; left; exact decide_eq_false (by omega)
            rw [hv, ho]
            clear hv ho
            go_enter Tryz.func25, Tryz.ntmps25
            go_wp2_with fail
            go_ret2
            exact ⟨rfl, 0, rfl⟩
          · have ha2 : decide (op < 5) = false := decide_eq_false ha
            by_cases hb : 10 < op
            · have hb2 : decide (10 < op) = true := decide_eq_true hb
              have hv : opV op a b = 0 := by unfold opV; rw [if_neg h1, if_neg h2, if_neg h3, if_neg h4, if_pos (.inr hb)]
              have ho : opOk op = false := by unfold opOk; rw [Bool.and_eq_false_iff]; right; exact decide_eq_false (by omega)
              rw [hv, ho]
              clear hv ho
              go_enter Tryz.func25, Tryz.ntmps25
              go_wp2_with fail
              go_ret2
              exact ⟨rfl, 0, rfl⟩
            · have hb2 : decide (10 < op) = false := decide_eq_false hb
              have ho : opOk op = true := by unfold opOk; rw [Bool.and_eq_true]; exact ⟨decide_eq_true (by omega), decide_eq_true (by omega)⟩
              have hv : opV op a b = if holdsF op a b = true then 4607182418800017408 else 0 := by unfold opV; rw [if_neg h1, if_neg h2, if_neg h3, if_neg h4, if_neg (by omega)]
              rw [ho, hv]
              clear ho hv
              have HH := Lib.hid (holds_any op a b w)
              obtain ⟨hr, hrE⟩ : ∃ r, r = holdsF op a b := ⟨_, rfl⟩
              rw [← hrE] at HH ⊢
              clear hrE
              cases hr with
              | true =>
                go_enter Tryz.func25, Tryz.ntmps25
                go_wp2_with fail
                refine HH.out.mono ?_
                rintro e w1 ⟨rfl, rfl⟩
                go_wp2_with fail
                go_ret2
                exact ⟨rfl, 0, rfl⟩
              | false =>
                go_enter Tryz.func25, Tryz.ntmps25
                go_wp2_with fail
                refine HH.out.mono ?_
                rintro e w1 ⟨rfl, rfl⟩
                go_wp2_with fail
                go_ret2
                exact ⟨rfl, 0, rfl⟩
set_option maxHeartbeats 2000000 in
theorem rop_any (op : Int) (a b : Nat) (w : World) : Calls Tryz.prog 32 #[.int .i64 op, .float .f64 a, .float .f64 b] w fun e w' => e = .returned (.tuple #[.float .f64 (opV op a b), .bool (opOk op)]) ∧ ∃ n, w' = w.drewN n := by
  by_cases h1 : op = 1
  · subst h1
    go_enter Tryz.func32, Tryz.ntmps32
    go_wp2_with fail
    refine (rcanon_any _ _).mono ?_
    rintro e w1 ⟨rfl, rfl⟩
    rw [canon_fop]
    go_wp2_with fail
    go_ret2
    exact ⟨rfl, _, rfl⟩
  · have g1 : (op == 1) = false := by simpa using h1
    by_cases h2 : op = 2
    · subst h2
      go_enter Tryz.func32, Tryz.ntmps32
      go_wp2_with fail
      refine (rcanon_any _ _).mono ?_
      rintro e w1 ⟨rfl, rfl⟩
      rw [canon_fop]
      go_wp2_with fail
      go_ret2
      exact ⟨rfl, _, rfl⟩
    · have g2 : (op == 2) = false := by simpa using h2
      by_cases h3 : op = 3
      · subst h3
        go_enter Tryz.func32, Tryz.ntmps32
        go_wp2_with fail
        refine (rcanon_any _ _).mono ?_
        rintro e w1 ⟨rfl, rfl⟩
        rw [canon_fop]
        go_wp2_with fail
        go_ret2
        exact ⟨rfl, _, rfl⟩
      · have g3 : (op == 3) = false := by simpa using h3
        by_cases h4 : op = 4
        · subst h4
          go_enter Tryz.func32, Tryz.ntmps32
          go_wp2_with fail
          refine (rcanon_any _ _).mono ?_
          rintro e w1 ⟨rfl, rfl⟩
          rw [canon_fop]
          go_wp2_with fail
          go_ret2
          exact ⟨rfl, _, rfl⟩
        · have g4 : (op == 4) = false := by simpa using h4
          by_cases ha : op < 5
          · have ha2 : decide (op < 5) = true := decide_eq_true ha
            have hv : opV op a b = 0 := by unfold opV; rw [if_neg h1, if_neg h2, if_neg h3, if_neg h4, if_pos (.inl ha)]
            have ho : opOk op = false := by unfold opOk; rw [Bool.and_eq_false_iff]; left; exact decide_eq_false (by omega)
            rw [hv, ho]
            clear hv ho
            go_enter Tryz.func32, Tryz.ntmps32
            go_wp2_with fail
            go_ret2
            exact ⟨rfl, 0, rfl⟩
          · have ha2 : decide (op < 5) = false := decide_eq_false ha
            by_cases hb : 10 < op
            · have hb2 : decide (10 < op) = true := decide_eq_true hb
              have hv : opV op a b = 0 := by unfold opV; rw [if_neg h1, if_neg h2, if_neg h3, if_neg h4, if_pos (.inr hb)]
              have ho : opOk op = false := by unfold opOk; rw [Bool.and_eq_false_iff]; right; exact decide_eq_false (by omega)
              rw [hv, ho]
              clear hv ho
              go_enter Tryz.func32, Tryz.ntmps32
              go_wp2_with fail
              go_ret2
              exact ⟨rfl, 0, rfl⟩
            · have hb2 : decide (10 < op) = false := decide_eq_false hb
              have ho : opOk op = true := by unfold opOk; rw [Bool.and_eq_true]; exact ⟨decide_eq_true (by omega), decide_eq_true (by omega)⟩
              have hv : opV op a b = if holdsF op a b = true then 4607182418800017408 else 0 := by unfold opV; rw [if_neg h1, if_neg h2, if_neg h3, if_neg h4, if_neg (by omega)]
              rw [ho, hv]
              clear ho hv
              have HH := Lib.hid (rholds_any op a b w)
              obtain ⟨hr, hrE⟩ : ∃ r, r = holdsF op a b := ⟨_, rfl⟩
              rw [← hrE] at HH ⊢
              clear hrE
              cases hr with
              | true =>
                go_enter Tryz.func32, Tryz.ntmps32
                go_wp2_with fail
                refine HH.out.mono ?_
                rintro e w1 ⟨rfl, rfl⟩
                go_wp2_with fail
                go_ret2
                exact ⟨rfl, 0, rfl⟩
              | false =>
                go_enter Tryz.func32, Tryz.ntmps32
                go_wp2_with fail
                refine HH.out.mono ?_
                rintro e w1 ⟨rfl, rfl⟩
                go_wp2_with fail
                go_ret2
                exact ⟨rfl, 0, rfl⟩
end Go.Proofs.YtogjcaakfnfapaaGreatDoor
namespace Go.Proofs.YtogjcaakfnfapaaGreatDoor
open Go Go.RowKit
set_option linter.unusedVariables false
set_option linter.unusedSimpArgs false
set_option maxRecDepth 100000
/-- copy between rows of elements of k cells. -/
theorem run_copy_rowK {P : Program} (w : World) (dT sT ty elem : TypeId) (k g o dLen dCap : Nat) (a : Addr) (sLen sCap : Nat) (cur : Array Value) (t : TypeId) (cs : List Value)
    (hu : P.underlying dT = some (.slice elem)) (hs : (P.info? elem).map (·.size) = some k)
    (hg : w.heap[g]? = some (.cells cur t (0, 0))) (hn : cs.length = Nat.min sLen dLen * k)
    (hsrc : ∀ j v, cs[j]? = some v → w.cell? (a.add j) = some v) (hfit : o + cs.length ≤ cur.size) (h1 : ∀ v ∈ cs, v.oneCell' = true) :
    (Builtin.copy_ #[dT, sT] ty #[.slice (some ⟨g, o, none⟩) dLen dCap, .slice (some a) sLen sCap]).run P w =
      .ok (goInt (Nat.min sLen dLen)) (w.setRow g (cur.toList.take o ++ cs ++ cur.toList.drop (o + cs.length)).toArray) := by
  have hl := run_loadCells_list (P := P) w a cs hsrc
  have hst := run_storeCells_at P g o t cs 0 cur w hg (by simpa using hfit) h1
  cases hq : P.info? elem with
  | none => simp [hq] at hs
  | some i =>
    have hi : i.size = k := by simpa [hq] using hs
    simp [Builtin.copy_, run_underlying hu, Builtin.lenOf, Builtin.firstCells, sizeOf, typeInfo, hq, hi, ← hn, hl, hst]
theorem wpList_copy_run' {P : Program} (w : World) {ops : Array Oper} {rest : List Oper} {o : Oper} {a : Act} {Q : Exit → Act → World → Prop} (hgd : o.guard = none) (d s : Operand) (t t' : TypeId)
    (ho : o.op = .call { callee := .builtin .copy, args := #[d, s], argTypes := #[t, t'] }) (v u : Value) (hd : a.eval d = v) (hs : a.eval s = u) {v' : Value} {w' : World}
    (hr : (Builtin.copy_ #[t, t'] o.type #[v, u]).run P w = .ok v' w') (h : wpList P ops Q rest (a.put o.dst v') w') : wpList P ops Q (o :: rest) a w :=
  wpList_plain hgd fun _ hK => by
    unfold Oper.wp execOp
    simp only [ho, resolve, invoke, builtin, Sem.run_bind, Sem.run_pure, Result.andThen_ok, List.map_toArray, List.map_cons, List.map_nil, hd, hs, hr]
    exact hK _ _ h
theorem step_copy_run' {P : Program} {ops : Array Oper} {o : Oper} {a : Act} {w : World} {K : Act → World → Prop} {Q : Exit → Act → World → Prop} {E : Prop}
    (hg : o.guard = none) (d x : Operand) (dT sT : TypeId) (hop : o.op = Op.call { callee := Callee.builtin Builtin.copy, args := #[d, x], argTypes := #[dT, sT] })
    (v u : Value) (hd : a.eval d = v) (hx : a.eval x = u) {v' : Value} {w' : World} (hr : (Builtin.copy_ #[dT, sT] o.type #[v, u]).run P w = .ok v' w') (hK : K (a.put o.dst v') w') :
    if Region.wanted o (yielded ops a.tmps) = true then Oper.wp P o a w K Q else E := by
  have hw : Region.wanted o (yielded ops a.tmps) = true := by simp [Region.wanted, hg]
  rw [if_pos hw]
  unfold Oper.wp
  simp [execOp, hop, resolve, invoke, builtin, hd, hx, hr, Result.andThen]
  exact hK
theorem Tryz.sizeLb' (w : World) : (sizeOf 46).run Tryz.prog w = .ok 2 w := by rfl
theorem Sl.row {α : Type} {enc : α → List Value} {w : World} {g cap n : Nat} {t : TypeId} {fr : Nat × Nat} {cur : Array Value} {xs : List α} {R : List Value} (hg : w.heap[g]? = some (.cells cur t fr)) (hc : cur.toList = xs.flatMap enc ++ R) (hn : n = xs.length) (hcap : n ≤ cap ∧ cap ≤ 9223372036854775807) : Sl enc w (.slice (some ⟨g, 0, none⟩) n cap) xs := by
  subst hn
  refine ⟨_, cap, rfl, hcap, (fun e => by cases e), fun _ => ⟨g, 0, rfl, fun j u hu => ?_⟩⟩
  rw [Nat.zero_add, cell_of_row w g j cur t fr hg, ← Array.getElem?_toList, hc, List.getElem?_append_left (List.getElem?_eq_some_iff.1 hu).1]
  exact hu
/-- What the two copies leave of a row. -/
theorem two_copies (T D R X : List Value) (n2 i2 : Nat) (hi : i2 = T.length) (hX : X.length = 2) (hR : 2 ≤ R.length) :
    (((T ++ D ++ R).take (i2 + 2) ++ D ++ (T ++ D ++ R).drop (i2 + 2 + D.length)).take i2 ++ X ++ ((T ++ D ++ R).take (i2 + 2) ++ D ++ (T ++ D ++ R).drop (i2 + 2 + D.length)).drop (i2 + X.length)) = T ++ X ++ D ++ R.drop 2 := by
  subst hi
  have e1 : (T ++ D ++ R).drop (T.length + 2 + D.length) = R.drop 2 := by
    rw [show T.length + 2 + D.length = (T ++ D).length + 2 by rw [List.length_append]; omega, List.drop_append, List.drop_of_length_le (by omega), List.nil_append]
    congr 1; omega
  have e2 : (T ++ D ++ R).take (T.length + 2) = T ++ (D ++ R).take 2 := by
    rw [List.append_assoc, List.take_append, List.take_of_length_le (by omega)]
    congr 2; omega
  have e3 : ((D ++ R).take 2).length = 2 := by rw [List.length_take, List.length_append]; omega
  rw [e1, e2, hX]
  have e4 : (T ++ (D ++ R).take 2 ++ D ++ R.drop 2).take T.length = T := by
    rw [List.append_assoc, List.append_assoc, List.take_append, List.take_of_length_le (Nat.le_refl _)]; simp
  have e5 : (T ++ (D ++ R).take 2 ++ D ++ R.drop 2).drop (T.length + 2) = D ++ R.drop 2 := by
    rw [show T ++ (D ++ R).take 2 ++ D ++ R.drop 2 = (T ++ (D ++ R).take 2) ++ (D ++ R.drop 2) by simp only [List.append_assoc]]
    rw [show T.length + 2 = (T ++ (D ++ R).take 2).length by rw [List.length_append, e3]]
    exact List.drop_left
  rw [e4, e5]
  simp only [List.append_assoc]
end Go.Proofs.YtogjcaakfnfapaaGreatDoor
namespace Go.Proofs.YtogjcaakfnfapaaGreatDoor
open Go Go.RowKit
set_option linter.unusedVariables false
set_option linter.unusedSimpArgs false
set_option maxRecDepth 100000
theorem lenc_two (t y : ByteArray) : ∀ u ∈ [Value.string t, .string y], u.oneCell' = true := by
  intro u hu
  simp at hu
  rcases hu with rfl | rfl <;> rfl
theorem ins_end (v : Value) (base : Nat) (d : List Lb) (t y : ByteArray) (b1 : Nat) (w : World) (hown : w.ownsRow base 46 2 v d.length (d.flatMap lenc)) (hl : d.length ≤ 1000000)
    (hx : w.heap[b1]? = some (.cells #[.string t, .string y] 46 (0, 0))) (hbw : base ≤ w.heap.size) :
    Calls Tryz.prog 81 #[v, .int .i64 d.length, .slice (some ⟨b1, 0, none⟩) 1 1] w fun e w' => ∃ v', e = .returned v' ∧ Sl lenc w' v' (d ++ [(t, y)]) ∧ Below base w w' := by
  obtain ⟨i0, hi, hz0, hz1, hz2⟩ := info_parts Tryz.infoLb
  have HO := Lib.hid hown
  have HN := Lib.hid (World.news_of_block hx)
  clear hx
  obtain ⟨ao, cap, rfl, hcap⟩ : ∃ ao cap, v = .slice ao d.length cap ∧ d.length ≤ cap := by
    rcases hown.2 with ⟨hv, h0⟩ | ⟨g, cap, cur, hv, _, _, hle, _⟩
    · exact ⟨none, 0, by rw [hv, h0], by omega⟩
    · exact ⟨_, _, hv, hle⟩
  have h00 : (0 : Int) ≤ (d.length : Int) := by omega
  go_enter Tryz.func81, Tryz.ntmps81
  go_wp2_with (at_builtin; refine wpList_append_own _ rfl _ _ 47 rfl base 46 i0 (.agg #[.string ⟨#[]⟩, .string ⟨#[]⟩]) 2 32 Tryz.underlying47 hi hz0 hz1 hz2 rfl (by decide) _ _ _ rfl hown ⟨b1, 0, none⟩ 1 1 [.string t, .string y] rfl rfl HN.out (lenc_two t y) (by unfold maxLen; omega) (by omega) hbw ?_)
  all_goals
    intro v' w1 hown' hgrow _
    have hsl : Sl lenc w1 v' (d ++ [(t, y)]) := Sl.own lenc_len (by decide) (by rw [flat_snoc]; exact hown')
    have HSL := Lib.hid hsl
    have HB := Lib.hid ((Below.refl base w).grown hgrow hbw (fun j hj => (HO.out.lt j (by cases ao with | none => simp [Value.ownBlock] at hj | some x => exact hj)).1))
    clear hown hown' hgrow hsl
    go_wp2_with fail
    go_ret
    exact ⟨_, rfl, HSL.out, HB.out⟩
set_option maxHeartbeats 4000000 in
theorem ins_shift (g base cap i : Nat) (d : List Lb) (t y : ByteArray) (b1 : Nat) (w : World) (hown : w.ownsRow base 46 2 (.slice (some ⟨g, 0, none⟩) d.length cap) d.length (d.flatMap lenc)) (hl : d.length ≤ 1000000)
    (hx : w.heap[b1]? = some (.cells #[.string t, .string y] 46 (0, 0))) (hbw : base ≤ w.heap.size) (hne : b1 ≠ g) (hi1 : i < d.length) (hroom : d.length + 1 ≤ cap) :
    Calls Tryz.prog 81 #[.slice (some ⟨g, 0, none⟩) d.length cap, .int .i64 i, .slice (some ⟨b1, 0, none⟩) 1 1] w fun e w' => ∃ v', e = .returned v' ∧ Sl lenc w' v' (d.take i ++ (t, y) :: d.drop i) ∧ Below base w w' := by
  obtain ⟨i0, hi, hz0, hz1, hz2⟩ := info_parts Tryz.infoLb
  obtain ⟨cur, hbg, hg, hcap, hcur, hpre⟩ : ∃ cur : Array Value, base ≤ g ∧ w.heap[g]? = some (.cells cur 46 (0, 0)) ∧ cap ≤ maxLen ∧ cur.size = cap * 2 ∧ cur.toList.take (d.length * 2) = d.flatMap lenc := by
    rcases hown.2 with ⟨hv, h0⟩ | ⟨g', cap', cur, hv, h1, h2, h3, h4, h5, h6⟩
    · cases hv
    · injection hv with e1 e2 e3
      injection e1 with e1
      injection e1 with e1
      subst e1 e3
      exact ⟨cur, h1, h2, h4, h5, h6⟩
  unfold maxLen at hcap
  have h00 : (0 : Int) ≤ (i : Int) := by omega
  have hz2' : ¬ ((i : Int) = (d.length : Int)) := by omega
  have hz3 : ((i : Int) == (d.length : Int)) = false := by simpa using hz2'
  have hov : ∀ lb cb, (callFunc 94 #[.slice (some ⟨b1, 0, none⟩) 1 1, .slice (some ⟨g, (i + 1) * 2, none⟩) lb cb]).run Tryz.prog w = .ok (.value (.bool false)) w := fun lb cb => by
    rw [run_callFunc_extern Tryz.func94 (by kernel_rfl) (by kernel_rfl) (by kernel_rfl) (e := Extern.SlicesOverlaps.overlaps #[47, 47] #[4]) (by kernel_rfl),
      Lib.run_overlaps_apart w 47 4 46 Tryz.underlying47 2 Tryz.sizeLb' ⟨b1, 0, none⟩ ⟨g, (i + 1) * 2, none⟩ 1 1 lb cb hne 46 46 2 cur.size (by simp [World.shape?, hx]) (by simp [World.shape?, hg]) (by rw [hcur]; omega) (by simp [World.frozen?, hx]) (by simp [World.frozen?, hx])]
    rfl
  have hw1 : IntKind.i64.wrap ((i : Int) + 1) = (i : Int) + 1 := by rw [IntKind.wrap_i64]; omega
  have hb1 : (0 : Int) ≤ (i : Int) + 1 := by omega
  have htn : ((i : Int) + 1).toNat = i + 1 := by omega
  have hb2 : ¬ (cap = i + 1) := by omega
  have hb4 : ¬ (cap = i) := by omega
  have hb3 : (i : Int) ≤ (d.length : Int) + 1 := by omega
  have hb5 : (i : Int) + 1 ≤ (d.length : Int) + 1 := by omega
  have hb6 : (i : Int) ≤ (d.length : Int) := by omega
  have hb7 : (i : Int) + 1 ≤ ((d.length + 1 : Nat) : Int) := by omega
  obtain ⟨T, hT⟩ : ∃ T, T = (d.take i).flatMap lenc := ⟨_, rfl⟩
  obtain ⟨D, hD⟩ : ∃ D, D = (d.drop i).flatMap lenc := ⟨_, rfl⟩
  obtain ⟨R, hR⟩ : ∃ R, R = cur.toList.drop (d.length * 2) := ⟨_, rfl⟩
  have hcl : cur.toList = T ++ D ++ R := by
    rw [hT, hD, hR, ← List.flatMap_append, List.take_append_drop, ← hpre, List.take_append_drop]
  have hTl : T.length = i * 2 := by rw [hT, flat_length lenc_len, List.length_take, Nat.min_eq_left (by omega)]
  have hDl : D.length = (d.length - i) * 2 := by rw [hD, flat_length lenc_len, List.length_drop]
  have hRl : 2 ≤ R.length := by rw [hR, List.length_drop]; simp only [Array.length_toList]; omega
  have hcz : cur.size = i * 2 + (d.length - i) * 2 + R.length := by rw [← Array.length_toList, hcl, List.length_append, List.length_append, hTl, hDl]
  have hD1 : ∀ v ∈ D, v.oneCell' = true := by rw [hD]; exact oneCell_flat _
  have hmin : Nat.min (d.length + 1 - i) (d.length - i) = d.length - i := Nat.min_eq_right (by omega)
  have hmin1 : Nat.min 1 (d.length + 1 - i) = 1 := Nat.min_eq_left (by omega)
  have hcp1 : ∀ ty dc sc, (Builtin.copy_ #[47, 47] ty #[.slice (some ⟨g, (i + 1) * 2, none⟩) (d.length - i) dc, .slice (some ⟨g, i * 2, none⟩) (d.length + 1 - i) sc]).run Tryz.prog w.drew = .ok (goInt ((d.length - i : Nat) : Int)) (w.drew.setRow g ((T ++ D ++ R).take (i * 2 + 2) ++ D ++ (T ++ D ++ R).drop (i * 2 + 2 + D.length)).toArray) := fun ty dc sc => by
    have h := run_copy_rowK (P := Tryz.prog) w.drew 47 47 ty 46 2 g ((i + 1) * 2) (d.length - i) dc ⟨g, i * 2, none⟩ (d.length + 1 - i) sc cur 46 D Tryz.underlying47 (by rw [hi]; simp [hz1]) hg (by rw [hDl, hmin])
      (fun j v hj => by
        rw [Addr.add_lit, cell_of_row w.drew g (i * 2 + j) cur _ _ hg, ← Array.getElem?_toList, hcl, List.append_assoc, List.getElem?_append_right (by omega), hTl, List.getElem?_append_left (by have := (List.getElem?_eq_some_iff.1 hj).1; omega), Nat.add_sub_cancel_left]
        exact hj) (by omega) hD1
    rw [h, hcl, hmin, show (i + 1) * 2 = i * 2 + 2 by omega]
  obtain ⟨C1, hC1⟩ : ∃ C1, C1 = ((T ++ D ++ R).take (i * 2 + 2) ++ D ++ (T ++ D ++ R).drop (i * 2 + 2 + D.length)).toArray := ⟨_, rfl⟩
  rw [← hC1] at hcp1
  have hgd : w.drew.heap[g]? = some (.cells cur 46 (0, 0)) := hg
  have hg1 : (w.drew.setRow g C1).heap[g]? = some (.cells C1 46 (0, 0)) := setRow_heap w.drew g cur C1 _ _ hgd
  have hx1 : (w.drew.setRow g C1).heap[b1]? = some (.cells #[.string t, .string y] 46 (0, 0)) := by rw [setRow_other w.drew g b1 C1 (fun e => hne e)]; exact hx
  have hC1z : C1.size = cur.size := by
    rw [hC1, List.size_toArray, List.length_append, List.length_append, List.length_take, List.length_drop, List.length_append, List.length_append, hTl, hDl]
    omega
  have hcp2 : ∀ ty dc, (Builtin.copy_ #[47, 47] ty #[.slice (some ⟨g, i * 2, none⟩) (d.length + 1 - i) dc, .slice (some ⟨b1, 0, none⟩) 1 1]).run Tryz.prog (w.drew.setRow g C1) = .ok (goInt 1) ((w.drew.setRow g C1).setRow g (C1.toList.take (i * 2) ++ [Value.string t, Value.string y] ++ C1.toList.drop (i * 2 + 2)).toArray) := fun ty dc => by
    have h := run_copy_rowK (P := Tryz.prog) (w.drew.setRow g C1) 47 47 ty 46 2 g (i * 2) (d.length + 1 - i) dc ⟨b1, 0, none⟩ 1 1 C1 46 [.string t, .string y] Tryz.underlying47 (by rw [hi]; simp [hz1]) hg1 (by rw [hmin1]; rfl) (World.news_of_block hx1) (by rw [hC1z]; simp; omega) (lenc_two t y)
    rw [h, hmin1]
    rfl
  have hfin : C1.toList.take (i * 2) ++ [Value.string t, Value.string y] ++ C1.toList.drop (i * 2 + 2) = T ++ [Value.string t, Value.string y] ++ D ++ R.drop 2 := by
    rw [hC1]
    exact two_copies T D R [.string t, .string y] 0 (i * 2) hTl.symm rfl hRl
  obtain ⟨W1, hW1⟩ : ∃ W1, W1 = w.drew.setRow g C1 := ⟨_, rfl⟩
  obtain ⟨C2, hC2⟩ : ∃ C2, C2 = C1.toList.take (i * 2) ++ [Value.string t, Value.string y] ++ C1.toList.drop (i * 2 + 2) := ⟨_, rfl⟩
  rw [← hW1, ← hC2] at hcp2
  rw [← hW1] at hcp1
  rw [← hC2] at hfin
  have HSL := Lib.hid (show Sl lenc (W1.setRow g C2.toArray) (.slice (some ⟨g, 0, none⟩) (d.length + 1) cap) (d.take i ++ (t, y) :: d.drop i) from
    Sl.row (g := g) (t := 46) (fr := (0, 0)) (R := R.drop 2) (setRow_heap W1 g C1 C2.toArray _ _ (by rw [hW1]; exact hg1)) (by rw [List.toList_toArray, hfin, List.flatMap_append, List.flatMap_cons, ← hT, ← hD]; simp [lenc]) (by simp; omega) (by omega))
  have HBB := Lib.hid (show Below base w (W1.setRow g C2.toArray) by
    rw [hW1]
    exact below_setRow (below_setRow (below_drewN (Below.refl base w) 1) hbg C1) hbg C2.toArray)
  clear hcl hTl hDl hRl hcz hD1 hC1 hgd hg1 hx1 hC1z hfin hW1 hC2 hT hD hR hpre hcur hg hx hown
  go_enter Tryz.func81, Tryz.ntmps81
  go_wp2_with (simp only [hov])
  go_region_law (refine step_copy_run' rfl _ _ 47 47 rfl _ _ (by simp [Act.eval, Act.put]) (by simp [Act.eval, Act.put]) (hcp1 _ _ _) ?_)
  go_wp2_with (at_builtin; refine wpList_copy_run' _ rfl _ _ 47 47 rfl _ _ rfl rfl (hcp2 _ _) ?_)
  go_ret
  exact ⟨_, rfl, HSL.out, HBB.out⟩
end Go.Proofs.YtogjcaakfnfapaaGreatDoor
