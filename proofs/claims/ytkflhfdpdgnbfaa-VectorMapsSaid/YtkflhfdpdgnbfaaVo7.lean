/- known: two points, a filter. -/
import Derived.Test.YtkflhfdpdgnbfaaVo6
namespace Go.Proofs.Ytkflhfdpdgnbfaa
open Go Go.RowKit
set_option linter.unusedVariables false
set_option linter.unusedSimpArgs false
set_option maxRecDepth 100000
def lbB : List Lb := [(⟨#[98]⟩, ⟨#[49]⟩)]
def lbA : List Lb := [(⟨#[97]⟩, ⟨#[49]⟩)]
def F1 : Nat := 4607182418800017408
def F2 : Nat := 4611686018427387904
def F3 : Nat := 4613937818241073152
def kps : List Pt := [(lbB, F3), (lbA, F1)]
def kqs : List Pt := [(lbA, F1), (lbB, F3)]
theorem kps_right : ∀ p ∈ kps, rightL p.1 = true := by decide +kernel
theorem kqs_strict : Strict kqs := by
  unfold Strict kqs
  simp only [List.pairwise_cons, List.not_mem_nil, List.mem_singleton, forall_eq, false_imp_iff, implies_true, and_true, List.Pairwise.nil]
  decide +kernel
theorem kps_canon : kps.map canonP = kps := by decide +kernel
theorem kqs_perm : kqs.Perm (kps.map canonP) := by rw [kps_canon]; exact List.Perm.swap _ _ _
theorem kqs_filter : kqs.filterMap (filterF 7 F2 false) = [(lbB, F3)] := by decide +kernel
theorem known_normal {e : Ending} {w : World} (h : NR kps e w) : ∃ v', e = .returned (.tuple #[v', .int .i64 0]) ∧ VS w v' kqs := by
  rcases h with ⟨⟨p, hp, h1⟩, -⟩ | ⟨-, h1, -⟩ | ⟨-, q, v', h1, h2, h3, h4⟩
  · rw [kps_right p hp] at h1; cases h1
  · exact absurd kqs_strict (h1 _ kqs_perm)
  · have : q = kqs := strictp_unique (h1.trans kqs_perm.symm) h2 kqs_strict
    subst this
    exact ⟨v', h3, h4⟩
theorem known_filter {e : Ending} {w : World} (h : NR (kqs.filterMap (filterF 7 F2 false)) e w) : ∃ v', e = .returned (.tuple #[v', .int .i64 0]) ∧ VS w v' [(lbB, F3)] := by
  rw [kqs_filter] at h
  have hc : [(lbB, F3)].map canonP = [(lbB, F3)] := by decide +kernel
  have hs : Strict [(lbB, F3)] := List.pairwise_singleton _ _
  rcases h with ⟨⟨p, hp, h1⟩, -⟩ | ⟨-, h1, -⟩ | ⟨-, q, v', h1, h2, h3, h4⟩
  · rw [List.mem_singleton.1 hp] at h1
    exact absurd h1 (by decide +kernel)
  · exact absurd hs (h1 _ (by rw [hc]))
  · have : q = [(lbB, F3)] := strictp_unique (h1.trans (by rw [hc])) h2 hs
    subst this
    exact ⟨v', h3, h4⟩
set_option maxHeartbeats 4000000 in
theorem known_any (w : World) : Calls Try.prog 7 #[] w fun e w' => e = .returned (.bool true) ∧ Below w.heap.size w w' := by
  obtain ⟨w3, hw3⟩ : ∃ w3, w3 = ((w.alloc (.cells #[.string ⟨#[98]⟩, .string ⟨#[49]⟩] 49)).alloc (.cells #[.string ⟨#[97]⟩, .string ⟨#[49]⟩] 49)).alloc (.cells #[.slice (some ⟨w.heap.size, 0, none⟩) 1 1, .float .f64 F3, .slice (some ⟨w.heap.size + 1, 0, none⟩) 1 1, .float .f64 F1] 35) := ⟨_, rfl⟩
  have hb3 : Below w.heap.size w w3 := by rw [hw3]; exact (((Below.refl _ _).alloc (Nat.le_refl _) _).alloc (by simp) _).alloc (by simp; omega) _
  have st : ∀ (w : World) (o : Obj), Below w.heap.size w (w.alloc o) := fun w o => (Below.refl _ _).alloc (Nat.le_refl _) _
  have nw : ∀ (w : World) (o : Obj) (n : Nat), n = w.heap.size → (w.alloc o).heap[n]? = some o := fun w o n h => by subst h; exact heap_new _ _
  have hA : w3.heap[w.heap.size]? = some (.cells #[.string ⟨#[98]⟩, .string ⟨#[49]⟩] 49 (0, 0)) := by
    rw [hw3]
    exact ((st _ _).block _ (by simp; omega)).trans (((st _ _).block _ (by simp)).trans (nw _ _ _ rfl))
  have hB : w3.heap[w.heap.size + 1]? = some (.cells #[.string ⟨#[97]⟩, .string ⟨#[49]⟩] 49 (0, 0)) := by
    rw [hw3]
    exact ((st _ _).block _ (by simp)).trans (nw _ _ _ (by simp))
  have hC : w3.heap[w.heap.size + 2]? = some (.cells #[.slice (some ⟨w.heap.size, 0, none⟩) 1 1, .float .f64 F3, .slice (some ⟨w.heap.size + 1, 0, none⟩) 1 1, .float .f64 F1] 35 (0, 0)) := by
    rw [hw3]
    exact nw _ _ _ (by simp)
  have hvs : VS w3 (.slice (some ⟨w.heap.size + 2, 0, none⟩) 2 2) kps :=
    vs_of (zs := [(.slice (some ⟨w.heap.size, 0, none⟩) 1 1, lbB, F3), (.slice (some ⟨w.heap.size + 1, 0, none⟩) 1 1, lbA, F1)]) (Sl.lit hC rfl rfl (by omega)) (fun z hz => by
      rcases List.mem_cons.1 hz with rfl | hz
      · exact Sl.lit hA rfl rfl (by omega)
      · rw [List.mem_singleton.1 hz]; exact Sl.lit hB rfl rfl (by omega))
  have HN := Lib.hid (normal_any _ _ w3 hvs (by decide))
  have HB3 := Lib.hid hb3
  have HW3 := Lib.hid hw3
  clear hw3 hb3 hA hB hC hvs st nw
  go_enter Try.func7, Try.ntmps7
  go_wp2_with fail
  rw [show (4613937818241073152 : Nat) = F3 from rfl, show (4607182418800017408 : Nat) = F1 from rfl, ← HW3.out]
  refine HN.out.mono ?_
  rintro e w4 ⟨hb4, hn⟩
  obtain ⟨v', rfl, hv⟩ := known_normal hn
  have HB4 := Lib.hid (HB3.out.trans (hb4.mono HB3.out.size))
  have HV := Lib.hid hv
  have HSC := Lib.hid (scaled_filter v' kqs F2 false 7 w4 hv (by decide) (by decide) (by decide) (by decide))
  obtain ⟨a, cap, rfl, hlen, hc⟩ := hv.split
  obtain ⟨b, off, lv, rfl, k0, k1, -⟩ := hc 0 (by decide)
  have hz4 := HB4.out.size
  clear hb4 hn hv hc HN
  simp only [show kqs.length = 2 from rfl] at hlen HSC ⊢
  have k1 : w4.cell? ⟨b, off + 1, none⟩ = some (.float .f64 4607182418800017408) := k1
  go_wp2_with fail
  rw [show (4611686018427387904 : Nat) = F2 from rfl]
  refine HSC.out.mono ?_
  rintro e w5 ⟨hb5, hn5⟩
  obtain ⟨v2, rfl, hv2⟩ := known_filter hn5
  obtain ⟨a2, cap2, rfl, hlen2, hc2⟩ := hv2.split
  obtain ⟨b2, off2, lv2, rfl, -, k2, -⟩ := hc2 0 (by decide)
  have k2 : w5.cell? ⟨b2, off2 + 1, none⟩ = some (.float .f64 4613937818241073152) := k2
  have k3 : w5.cell? ⟨b, off + 1, none⟩ = some (.float .f64 4607182418800017408) := cell_below hb5 (Nat.le_refl _) k1
  have HB5 := Lib.hid (HB4.out.trans (hb5.mono hz4))
  have hz5 : w.heap.size ≤ w5.heap.size := HB5.out.size
  simp only [show ([(lbB, F3)] : List Pt).length = 1 from rfl] at hlen2 ⊢
  have o1 : (FloatKind.f64.format.order 4607182418800017408 4607182418800017408 == some .eq) = true := by decide +kernel
  have o3 : (FloatKind.f64.format.order 4613937818241073152 4613937818241073152 == some .eq) = true := by decide +kernel
  have o4 : (FloatKind.f64.format.order 4616189618054758400 4616189618054758400 == some .eq) = true := by decide +kernel
  have c4 : canon 4616189618054758400 = 4616189618054758400 := by decide +kernel
  clear hb5 hn5 hv2 hc2 HSC k0 k1
  go_wp2_with (first
    | (go_at_call 23
       refine (name1_any _).mono ?_
       rintro e w6 ⟨rfl, rfl⟩)
    | (go_at_call 24
       refine (of_any _ _).mono ?_
       rintro e w6 ⟨rfl, rfl⟩
       rw [c4])
    | (go_at_call 25
       refine (scalar_one _ 0 _ 4616189618054758400 _ (by decide) (by simp)).mono ?_
       rintro e w7 ⟨rfl, rfl⟩
       rw [c4]))
  go_ret
  exact ⟨rfl, HB5.out.alloc hz5 _⟩
end Go.Proofs.Ytkflhfdpdgnbfaa
