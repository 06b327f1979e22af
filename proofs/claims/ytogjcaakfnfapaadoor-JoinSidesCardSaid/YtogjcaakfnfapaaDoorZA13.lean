/- The known case of chapter 10's laws. known of chapter 10's laws: its walk. What the listed variables give: the table that strconv.Itoa reads. (Several texts in one file, by merge.py.) -/
import Derived.Test.YtogjcaakfnfapaaDoorZA12
import Derived.Test.YtogjcaakfnfapaaDoorZA8
import Derived.Test.YtogjcaakfnfapaaDoorRows
import Derived.LaidMore
import Derived.LaidHandle
import Derived.MakeChecks
namespace Go.Proofs.YtogjcaakfnfapaaDoor
open Go Go.RowKit
set_option linter.unusedVariables false
set_option linter.unusedSimpArgs false
set_option maxRecDepth 100000
def lbOne : List Lb := [(⟨#[97]⟩, ⟨#[49]⟩), (⟨#[98]⟩, ⟨#[49]⟩)]
def lbTwo : List Lb := [(⟨#[97]⟩, ⟨#[49]⟩), (⟨#[98]⟩, ⟨#[50]⟩)]
def lbSum : List Lb := [(⟨#[97]⟩, ⟨#[49]⟩)]
def F2 : Nat := 4611686018427387904
def F3 : Nat := 4613937818241073152
def F5 : Nat := 4617315517961601024
def kps : List Pt := [(lbOne, F2), (lbTwo, F3)]
theorem kps_right : ∀ p ∈ kps, rightL p.1 = true := by decide +kernel
theorem kps_canon : kps.map canonP = kps := by decide +kernel
theorem kps_strict : Strict kps := by
  unfold Strict kps
  simp only [List.pairwise_cons, List.not_mem_nil, List.mem_singleton, forall_eq, false_imp_iff, implies_true, and_true, List.Pairwise.nil]
  decide +kernel
theorem kps_ok : ∀ p ∈ kps, PtOk p := by
  intro p hp
  rcases List.mem_cons.1 hp with rfl | hp
  · refine ⟨by decide, fun x hx => ?_, by show (4611686018427387904 : Nat) < _; decide⟩
    simp only [lbOne, List.mem_cons, List.not_mem_nil, or_false] at hx
    rcases hx with rfl | rfl <;> exact ⟨by decide, by decide⟩
  · rw [List.mem_singleton.1 hp]
    refine ⟨by decide, fun x hx => ?_, by show (4613937818241073152 : Nat) < _; decide⟩
    simp only [lbTwo, List.mem_cons, List.not_mem_nil, or_false] at hx
    rcases hx with rfl | rfl <;> exact ⟨by decide, by decide⟩
def kA : List ByteArray := [⟨#[97]⟩]
theorem k_sum : aggP 1 1 kA 0 kps = [(lbSum, F5)] := by decide +kernel
theorem k_top : aggP 6 0 [] F1 kps = [(lbTwo, F3)] := by decide +kernel
theorem k_chk1 : chkL 1 kA = 0 := by decide +kernel
theorem k_chk2 : chkL 0 [] = 0 := by decide +kernel
theorem k_named : agNamedI ⟨#[116, 111, 112, 107]⟩ = (6, true) := by decide +kernel
/-- Normal of one list that is in order. -/
theorem nr_known {ps : List Pt} {e : Ending} {w : World} (hr : ∀ p ∈ ps, rightL p.1 = true) (hc : ps.map canonP = ps) (hs : Strict ps) (h : NR ps e w) : ∃ v', e = .returned (.tuple #[v', .int .i64 0]) ∧ VS w v' ps := by
  rcases h with ⟨⟨p, hp, h1⟩, -⟩ | ⟨-, h1, -⟩ | ⟨-, q, v', h1, h2, h3, h4⟩
  · rw [hr p hp] at h1; cases h1
  · exact absurd hs (h1 _ (by rw [hc]))
  · have : q = ps := strictp_unique (h1.trans (by rw [hc])) h2 hs
    subst this
    exact ⟨v', h3, h4⟩
theorem aggr_known {op how : Int} {names : List ByteArray} {k : Nat} {ps qs : List Pt} {e : Ending} {w : World} (h0 : isB op = true) (h1 : chkL how names = 0) (h2 : aggP op how names k ps = qs)
    (hr : ∀ p ∈ qs, rightL p.1 = true) (hc : qs.map canonP = qs) (hs : Strict qs) (h : AggR op how names k ps e w) : ∃ v', e = .returned (.tuple #[v', .int .i64 0]) ∧ VS w v' qs := by
  rcases h with ⟨h3 | h3, -⟩ | ⟨-, -, h3⟩
  · rw [h0] at h3; cases h3
  · exact absurd h1 h3
  · rw [h2] at h3; exact nr_known hr hc hs h3
end Go.Proofs.YtogjcaakfnfapaaDoor
namespace Go.Proofs.YtogjcaakfnfapaaDoor
open Go Go.RowKit
set_option linter.unusedVariables false
set_option linter.unusedSimpArgs false
set_option maxRecDepth 100000
set_option maxHeartbeats 4000000 in
theorem known_any (w : World) (ht : Tab w) : Calls Tryd.prog 10 #[] w fun e w' => e = .returned (.bool true) ∧ Below w.heap.size w w' := by
  obtain ⟨w3, hw3⟩ : ∃ w3, w3 = ((w.alloc (.cells #[.string ⟨#[97]⟩, .string ⟨#[49]⟩, .string ⟨#[98]⟩, .string ⟨#[49]⟩] 69)).alloc (.cells #[.string ⟨#[97]⟩, .string ⟨#[49]⟩, .string ⟨#[98]⟩, .string ⟨#[50]⟩] 69)).alloc (.cells #[.slice (some ⟨w.heap.size, 0, none⟩) 2 2, .float .f64 F2, .slice (some ⟨w.heap.size + 1, 0, none⟩) 2 2, .float .f64 F3] 42) := ⟨_, rfl⟩
  have hb3 : Below w.heap.size w w3 := by rw [hw3]; exact (((Below.refl _ _).alloc (Nat.le_refl _) _).alloc (by simp) _).alloc (by simp; omega) _
  have st : ∀ (w : World) (o : Obj), Below w.heap.size w (w.alloc o) := fun w o => (Below.refl _ _).alloc (Nat.le_refl _) _
  have nw : ∀ (w : World) (o : Obj) (n : Nat), n = w.heap.size → (w.alloc o).heap[n]? = some o := fun w o n h => by subst h; exact heap_new _ _
  have hA : w3.heap[w.heap.size]? = some (.cells #[.string ⟨#[97]⟩, .string ⟨#[49]⟩, .string ⟨#[98]⟩, .string ⟨#[49]⟩] 69 (0, 0)) := by
    rw [hw3]
    exact ((st _ _).block _ (by simp; omega)).trans (((st _ _).block _ (by simp)).trans (nw _ _ _ rfl))
  have hB : w3.heap[w.heap.size + 1]? = some (.cells #[.string ⟨#[97]⟩, .string ⟨#[49]⟩, .string ⟨#[98]⟩, .string ⟨#[50]⟩] 69 (0, 0)) := by
    rw [hw3]
    exact ((st _ _).block _ (by simp)).trans (nw _ _ _ (by simp))
  have hC : w3.heap[w.heap.size + 2]? = some (.cells #[.slice (some ⟨w.heap.size, 0, none⟩) 2 2, .float .f64 F2, .slice (some ⟨w.heap.size + 1, 0, none⟩) 2 2, .float .f64 F3] 42 (0, 0)) := by
    rw [hw3]
    exact nw _ _ _ (by simp)
  have hvs : VS w3 (.slice (some ⟨w.heap.size + 2, 0, none⟩) 2 2) kps :=
    vs_of (zs := [(.slice (some ⟨w.heap.size, 0, none⟩) 2 2, lbOne, F2), (.slice (some ⟨w.heap.size + 1, 0, none⟩) 2 2, lbTwo, F3)]) (Sl.lit hC rfl rfl (by omega)) (fun z hz => by
      rcases List.mem_cons.1 hz with rfl | hz
      · exact Sl.lit hA rfl rfl (by omega)
      · rw [List.mem_singleton.1 hz]; exact Sl.lit hB rfl rfl (by omega))
  have HN := Lib.hid (normal_any _ _ w3 hvs (by decide))
  have HB3 := Lib.hid hb3
  have HW3 := Lib.hid hw3
  have HT := Lib.hid ht
  clear hw3 hb3 hA hB hC hvs st nw ht
  go_enter Tryd.func10, Tryd.ntmps10
  go_wp2_with fail
  rw [show (4613937818241073152 : Nat) = F3 from rfl, show (4611686018427387904 : Nat) = F2 from rfl, ← HW3.out]
  refine HN.out.mono ?_
  rintro e w4 ⟨hb4, hn⟩
  obtain ⟨v', rfl, hv⟩ := nr_known kps_right kps_canon kps_strict hn
  have hb04 := HB3.out.trans (hb4.mono HB3.out.size)
  have hz4 := hb04.size
  have hbk : Below w4.heap.size w4 (w4.alloc (.cells #[.string ⟨#[97]⟩] 9)) := (Below.refl _ _).alloc (Nat.le_refl _) _
  have HS := Lib.hid (agg_go 1 1 0 (.slice (some ⟨w4.heap.size, 0, none⟩) 1 1) v' kA kps (w4.alloc (.cells #[.string ⟨#[97]⟩] 9)) (hv.below hbk (Nat.le_refl _)) (gsl_one w4 ⟨#[97]⟩) (fun s hs => by rw [List.mem_singleton.1 hs]; decide) kps_ok (by decide) (HT.out.below (hb04.trans (hbk.mono hz4)) (Nat.le_refl _)))
  have HV := Lib.hid hv
  have HB4 := Lib.hid (hb04.trans (hbk.mono hz4))
  obtain ⟨a, cap, rfl, hlen, -⟩ := hv.split
  clear hb4 hn hv HN hb04 hbk
  simp only [show kps.length = 2 from rfl] at hlen HS HV ⊢
  go_wp2_with fail
  refine HS.out.mono ?_
  rintro e w5 ⟨hb5, hr5⟩
  obtain ⟨v5, rfl, hv5⟩ := aggr_known (by decide) k_chk1 k_sum (by decide +kernel) (by decide +kernel) (List.pairwise_singleton _ _) hr5
  have hb05 := HB4.out.trans (hb5.mono HB4.out.size)
  have hz5 := hb05.size
  have HS2 := Lib.hid (agg_go 6 0 F1 (.slice none 0 0) (.slice a 2 cap) [] kps w5 ((HV.out.below ((Below.refl _ _).alloc (Nat.le_refl _) _) (Nat.le_refl _)).below hb5 (Nat.le_refl _)) (Sl.nil _) (fun s hs => by cases hs) kps_ok (by decide) (HT.out.below hb05 (Nat.le_refl _)))
  have HV5 := Lib.hid hv5
  have HB5 := Lib.hid hb05
  obtain ⟨a5, cap5, rfl, hlen5, hc5⟩ := hv5.split
  obtain ⟨b5, off5, lv5, rfl, -, k5, -⟩ := hc5 0 (by decide)
  have K5 := Lib.hid k5
  clear hb5 hr5 hv5 hb05 hc5 k5 HS
  simp only [show ([(lbSum, F5)] : List Pt).length = 1 from rfl] at hlen5 ⊢
  go_wp2_with fail
  rw [show (4607182418800017408 : Nat) = F1 from rfl]
  refine HS2.out.mono ?_
  rintro e w6 ⟨hb6, hr6⟩
  obtain ⟨v6, rfl, hv6⟩ := aggr_known (by decide) k_chk2 k_top (by decide +kernel) (by decide +kernel) (List.pairwise_singleton _ _) hr6
  have hb06 := HB5.out.trans (hb6.mono HB5.out.size)
  have hz6 := hb06.size
  obtain ⟨a6, cap6, rfl, hlen6, hc6⟩ := hv6.split
  obtain ⟨b6, off6, lv6, rfl, -, k6, -⟩ := hc6 0 (by decide)
  have k5 := cell_below hb6 (Nat.le_refl _) K5.out
  have HNM := Lib.hid (agNamed_any ⟨#[116, 111, 112, 107]⟩ w6)
  rw [k_named] at HNM
  have HB6 := Lib.hid hb06
  have K6 := Lib.hid k6
  have K5' := Lib.hid k5
  clear hb6 hr6 hv6 hb06 hc6 k5 k6 HS2 K5
  simp only [show ([(lbTwo, F3)] : List Pt).length = 1 from rfl] at hlen6 ⊢
  go_wp2_with fail
  refine HNM.out.mono ?_
  rintro e w7 ⟨rfl, hb7⟩
  have q5 : w7.cell? ⟨b5, off5 + 1, none⟩ = some (.float .f64 4617315517961601024) := cell_below hb7 (Nat.le_refl _) K5'.out
  have q6 : w7.cell? ⟨b6, off6 + 1, none⟩ = some (.float .f64 4613937818241073152) := cell_below hb7 (Nat.le_refl _) K6.out
  have o5 : (FloatKind.f64.format.order 4617315517961601024 4617315517961601024 == some .eq) = true := by decide +kernel
  have o3 : (FloatKind.f64.format.order 4613937818241073152 4613937818241073152 == some .eq) = true := by decide +kernel
  have HTK := Lib.hid (fun w => takes_any 6 w)
  have HB7 := Lib.hid (HB6.out.trans (hb7.mono hz6))
  rw [show takesB 6 = true from rfl] at HTK
  clear hb7
  go_wp2_with fail
  refine (HTK.out _).mono ?_
  rintro e w8 ⟨rfl, rfl⟩
  go_wp2_with fail
  go_ret
  exact ⟨rfl, HB7.out⟩
end Go.Proofs.YtogjcaakfnfapaaDoor
namespace Go.Proofs.YtogjcaakfnfapaaDoor
open Go Go.RowKit
set_option linter.unusedVariables false

theorem tab_of_laid {W : World} (h : laidMetH Tryd.prog [("math/bits.deBruijn32tab", Rows.laid_math_bits_deBruijn32tab), ("math/bits.deBruijn64tab", Rows.laid_math_bits_deBruijn64tab), ("internal/strconv.uint64pow10", Rows.laid_internal_strconv_uint64pow10)] W) : Tab W := by
  rw [MakeChecks.laidMetH_plain _ _ _ (by kernel_rfl)] at h
  obtain ⟨ps, ⟨g0, t0, cs0, f0, p0, q0, hg0, ht0, hv0, hd0, ⟨g1, t1, cs1, f1, p1, q1, hg1, ht1, hv1, hd1, ⟨g2, t2, cs2, f2, p2, q2, hg2, ht2, hv2, hd2, _, _⟩, _⟩, _⟩, _, _⟩ := h
  have hg : Tryd.prog.globalNamed "internal/strconv.uint64pow10" = some g2 := hg2
  have hty : (Tryd.prog.globals[g2]?).map (·.type) = some t2 := ht2
  have e2 : t2 = 144 := by
    have hk : (Tryd.prog.globalNamed "internal/strconv.uint64pow10").bind (fun g => (Tryd.prog.globals[g]?).map (·.type)) = some 144 := by kernel_rfl
    rw [hg, Option.bind_some, hty] at hk
    exact Option.some.inj hk
  subst e2
  have hc := Lib.cells_of_tab (k := .u64) (zs := Lib.pow10Tab) Tryd.underlying144 Tryd.underlying115 (by kernel_rfl) (by kernel_rfl) hd2
  unfold Tab Lib.TabIs
  rw [hv2, ← hc]
end Go.Proofs.YtogjcaakfnfapaaDoor
