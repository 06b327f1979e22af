/- The walk of CostMatchers. -/
import Derived.Test.YtdhahnagnemgaaaCmatch
import Derived.Test.YtdhahnagnemgaaaSl
import Derived.Deep.RegionHeld3
import Derived.Deep.AppendLies
namespace Go.Proofs.Ytdhahnagnemgaaa
open Go.RowKit
set_option linter.unusedVariables false
set_option linter.unusedSimpArgs false

theorem mrow_of {w : World} {v : Value} {ms : List (Int × ByteArray × ByteArray)} (h : Sl menc w v ms) : MRow w v ms := h
theorem crow_of {w : World} {v : Value} {ms : List (ByteArray × Int)} (h : Sl cenc w v ms) : CRow w v ms := h
theorem Try.infoM : (Try.prog.info? 74).map (fun i => (i.zero, i.size, i.bytes)) = some (some (.agg #[.int .i64 0, .string ByteArray.empty, .string ByteArray.empty]), 3, 40) := by kernel_rfl

theorem upI_pos {a b : Int} (ha : 1 ≤ a) (hb : 1 ≤ b) : 1 ≤ upI a b := by
  have r1 : 0 ≤ a % b := Int.emod_nonneg a (by omega)
  have q1 : 0 ≤ a / b := Int.ediv_nonneg (by omega) (by omega)
  have h := Int.mul_ediv_add_emod a b
  unfold upI
  by_cases hq : a / b = 0
  · rw [hq, Int.mul_zero] at h
    omega
  · omega
/-- One matcher more never makes a selection greater; of no series there is none. -/
theorem card_more (cs : List (ByteArray × Int)) (se : Int) (ms : List (Int × ByteArray × ByteArray)) (m : Int × ByteArray × ByteArray) :
    cardI cs se (ms ++ [m]) ≤ cardI cs se ms ∧ (cardI cs se ms = 0 ∨ 1 ≤ cardI cs se (ms ++ [m])) ∧ cardI cs 0 ms = 0 := by
  have e : cardI cs se (ms ++ [m]) = cardStep cs (cardI cs se ms) m := by unfold cardI; rw [List.foldl_append]; rfl
  have b0 := card_bd cs ms _ (cutI_bd se).1
  have b1 := cardStep_bd cs m b0.1
  rw [e]
  refine ⟨b1.2, ?_, ?_⟩
  · by_cases h : cardI cs se ms = 0
    · exact .inl h
    · have hp : 1 ≤ cardI cs se ms := by have := b0.1; unfold cardI at h ⊢; omega
      refine .inr ?_
      unfold cardStep
      split
      · exact upI_pos hp (valuesI_pos _ _)
      · split
        · exact upI_pos hp (by omega)
        · exact hp
  · have h0 : cutI 0 = 0 := rfl
    have := card_bd cs ms 0 (by omega)
    unfold cardI
    rw [h0]
    omega

theorem S_keep {w3 w' : World} {a b : Nat} {x0 x1 x2 y0 y1 y2 : Value} (p0 : w3.cell? ⟨a, 0, none⟩ = some x0) (p1 : w3.cell? ⟨a, 1, none⟩ = some x1) (p2 : w3.cell? ⟨a, 2, none⟩ = some x2)
    (q0 : w3.cell? ⟨b, 0, none⟩ = some y0) (q1 : w3.cell? ⟨b, 1, none⟩ = some y1) (q2 : w3.cell? ⟨b, 2, none⟩ = some y2) (h : Below w3.heap.size w3 w') :
    Below w3.heap.size w3 w' ∧ w'.cell? ⟨a, 0, none⟩ = some x0 ∧ w'.cell? ⟨a, 1, none⟩ = some x1 ∧ w'.cell? ⟨a, 2, none⟩ = some x2 ∧ w'.cell? ⟨b, 0, none⟩ = some y0 ∧ w'.cell? ⟨b, 1, none⟩ = some y1 ∧ w'.cell? ⟨b, 2, none⟩ = some y2 :=
  ⟨h, cell_below h (Nat.le_refl _) p0, cell_below h (Nat.le_refl _) p1, cell_below h (Nat.le_refl _) p2, cell_below h (Nat.le_refl _) q0, cell_below h (Nat.le_refl _) q1, cell_below h (Nat.le_refl _) q2⟩

set_option maxRecDepth 100000 in
set_option maxHeartbeats 4000000 in
theorem cmat_walk (v0 : Value) (ms : List (Int × ByteArray × ByteArray)) (mk : Int) (mn mv : ByteArray) (se st : Int) (v : Value) (cs : List (ByteArray × Int)) (w : World)
    (h1 : Sl menc w v0 ms) (h2 : Sl cenc w v cs) (hm : ms.length ≤ 40) (hc : cs.length ≤ 100) :
    Calls Try.prog 8 #[v0, .agg #[.int .i64 mk, .string mn, .string mv], .agg #[.int .i64 se, v, .int .i64 st]] w fun e w' => e = .returned (.bool true) ∧ Below w.heap.size w w' := by
  obtain ⟨i0, hi, hz0, hz1, hz2⟩ := info_parts Try.infoM
  obtain ⟨sa, c0, rfl, -, hnil, hcells⟩ := h1.len (fun _ => by simp [menc])
  have hcm := card_more cs se ms (mk, mn, mv)
  have HCM := Lib.hid hcm
  have H1 := Lib.hid h1
  have H2 := Lib.hid h2
  have HN := Lib.hid hnil
  have HCE := Lib.hid hcells
  have hf : decide (cs.length ≤ 100) = true := by simpa using hc
  have HF := Lib.hid hf
  clear hcm h1 h2 hnil hcells hf
  go_enter Try.func8, Try.ntmps8
  go_wp2_with fail
  obtain ⟨w0, hw0⟩ : ∃ w0, w0 = (w.alloc (.cells #[.int .i64 mk, .string mn, .string mv] 74)).alloc (.cells #[.int .i64 se, v, .int .i64 st] 62) := ⟨_, rfl⟩
  rw [← hw0]
  have hsz : w0.heap.size = w.heap.size + 2 := by rw [hw0]; simp
  have hb0 : Below w.heap.size w w0 := by rw [hw0]; exact ((Below.refl _ _).alloc (Nat.le_refl _) _).alloc (by simp) _
  have p0 : w0.cell? ⟨w.heap.size, 0, none⟩ = some (.int .i64 mk) := by rw [hw0, World.cell?_alloc_past _ _ _ (by simp)]; exact World.cell?_alloc_at _ _ _ _ rfl
  have p1 : w0.cell? ⟨w.heap.size, 1, none⟩ = some (.string mn) := by rw [hw0, World.cell?_alloc_past _ _ _ (by simp)]; exact World.cell?_alloc_at _ _ _ _ rfl
  have p2 : w0.cell? ⟨w.heap.size, 2, none⟩ = some (.string mv) := by rw [hw0, World.cell?_alloc_past _ _ _ (by simp)]; exact World.cell?_alloc_at _ _ _ _ rfl
  have q0 : w0.cell? ⟨w.heap.size + 1, 0, none⟩ = some (.int .i64 se) := by rw [hw0]; exact World.cell?_alloc_at _ _ _ _ (by simp)
  have q1 : w0.cell? ⟨w.heap.size + 1, 1, none⟩ = some v := by rw [hw0]; exact World.cell?_alloc_at _ _ _ _ (by simp)
  have q2 : w0.cell? ⟨w.heap.size + 1, 2, none⟩ = some (.int .i64 st) := by rw [hw0]; exact World.cell?_alloc_at _ _ _ _ (by simp)
  have f0 : w0.frozen? ⟨w.heap.size + 1, 0, none⟩ = false := by rw [hw0]; exact World.frozen?_alloc_at _ _ _ _ (by simp)
  have HW0 := Lib.hid hw0
  have HSZ := Lib.hid hsz
  clear hw0 hsz
  refine (known15 _).mono ?_
  rintro e w1 ⟨rfl, hb1⟩
  have hb01 := hb0.trans (hb1.mono hb0.size)
  have hs1 := hb1.size
  replace p0 := cell_below hb1 (Nat.le_refl _) p0
  replace p1 := cell_below hb1 (Nat.le_refl _) p1
  replace p2 := cell_below hb1 (Nat.le_refl _) p2
  replace f0 := (below_frozen hb1 _ 0 (World.block_lt_of_cell? _ _ q0)).trans f0
  replace q0 := cell_below hb1 (Nat.le_refl _) q0
  replace q1 := cell_below hb1 (Nat.le_refl _) q1
  replace q2 := cell_below hb1 (Nat.le_refl _) q2
  go_wp2_with fail
  refine (few15 se st v cs _ (crow_of (H2.out.below hb01 (Nat.le_refl _)))).mono ?_
  rw [HF.out]
  rintro e w2 ⟨rfl, hb2⟩
  have hb02 := hb01.trans (hb2.mono hb01.size)
  replace p0 := cell_below hb2 (Nat.le_refl _) p0
  replace p1 := cell_below hb2 (Nat.le_refl _) p1
  replace p2 := cell_below hb2 (Nat.le_refl _) p2
  replace f0 := (below_frozen hb2 _ 0 (World.block_lt_of_cell? _ _ q0)).trans f0
  replace q0 := cell_below hb2 (Nat.le_refl _) q0
  replace q1 := cell_below hb2 (Nat.le_refl _) q1
  replace q2 := cell_below hb2 (Nat.le_refl _) q2
  go_wp2_with fail
  refine (card_any se st v _ cs ms _ (crow_of (H2.out.below hb02 (Nat.le_refl _))) (mrow_of (H1.out.below hb02 (Nat.le_refl _)))).mono ?_
  rintro e w3 ⟨rfl, hb3⟩
  have hb03 := hb02.trans (hb3.mono hb02.size)
  replace p0 := cell_below hb3 (Nat.le_refl _) p0
  replace p1 := cell_below hb3 (Nat.le_refl _) p1
  replace p2 := cell_below hb3 (Nat.le_refl _) p2
  replace f0 := (below_frozen hb3 _ 0 (World.block_lt_of_cell? _ _ q0)).trans f0
  replace q0 := cell_below hb3 (Nat.le_refl _) q0
  replace q1 := cell_below hb3 (Nat.le_refl _) q1
  replace q2 := cell_below hb3 (Nat.le_refl _) q2
  go_wp2_with fail
  clear hb1 hb2 hb3 hb0 hb01 hb02 hs1
  have hwz : w.heap.size + 2 ≤ w3.heap.size := by
    have := World.block_lt_of_cell? _ _ q0
    simp only at this
    omega
  have HB03 := Lib.hid hb03
  clear hb03
  have e1 : (.slice (some ⟨0, 0, none⟩) 0 0 : Value) = .slice (some ⟨0, 0, none⟩) 0 0 := rfl
  clear e1
  go_region_held3 (fun w' => Below w3.heap.size w3 w' ∧ w'.cell? ⟨w.heap.size, 0, none⟩ = some (.int .i64 mk) ∧ w'.cell? ⟨w.heap.size, 1, none⟩ = some (.string mn) ∧ w'.cell? ⟨w.heap.size, 2, none⟩ = some (.string mv) ∧
      w'.cell? ⟨w.heap.size + 1, 0, none⟩ = some (.int .i64 se) ∧ w'.cell? ⟨w.heap.size + 1, 1, none⟩ = some v ∧ w'.cell? ⟨w.heap.size + 1, 2, none⟩ = some (.int .i64 st))
    (exact S_keep p0 p1 p2 q0 q1 q2 (by go_grown))
    (first
      | (go_at_call 38
         refine (card_any se st v _ cs (ms ++ [(mk, mn, mv)]) _ ?_ ?_).mono ?_
         exact crow_of ((H2.out.below HB03.out (Nat.le_refl _)).below hbB (Nat.le_refl _))
         exact mrow_of (Sl.own menc_len (by decide) (by rw [flat_snoc]; exact hown2) (by simp; omega))
         rintro e w9 ⟨rfl, hb9⟩
         have hbC : Below w3.heap.size w3 w9 := hbB.trans (hb9.mono hsB))
      | (refine step_append_rd rfl (.tmp 22) (.tmp 23) _ rfl w3.heap.size 74 i0 _ 3 40 Try.underlying51 hi hz0 hz1 hz2 rfl (by decide) (.slice (some ⟨_, 0, none⟩) 0 0) 0 [] rfl
           ?_ sa ms.length c0 (ms.flatMap menc) rfl (fun e => ⟨by rw [(HN.out e).2]; rfl, (HN.out e).1, by rw [(HN.out e).2]; rfl⟩) (flat_length menc_len ms) ?_ ?_ ?_ ?_ ?_ ?_
         (refine owns_lit ?_ ?_; (first | exact lit1 _ _ | exact lit2 _ _ _ | exact lit3 _ _ _); (simp <;> omega))
         (exact fun ad e j u hu => cell_below (B := w3.heap.size) (by go_grown) (Nat.le_refl _) (cell_below HB03.out (Nat.le_refl _) (HCE.out ad e j u hu)))
         (intro u hu; obtain ⟨m, _, hu⟩ := List.mem_flatMap.1 hu; simp [menc] at hu; rcases hu with rfl | rfl | rfl <;> rfl)
         (unfold maxLen; omega)
         (omega)
         (simp <;> omega)
         intro v1 wA hown1 hg1
         have hbA : Below w3.heap.size w3 wA := Below.grown (by go_grown) hg1 (by simp <;> omega) (fun j hj => by simp [Value.ownBlock] at hj; omega)
         have hsA := hbA.size)
      | (refine step_append_rd rfl (.tmp 24) (.tmp 26) _ rfl w3.heap.size 74 i0 _ 3 40 Try.underlying51 hi hz0 hz1 hz2 rfl (by decide) v1 ms.length (ms.flatMap menc) rfl
           ?_ (some _) 1 1 (menc (mk, mn, mv)) rfl (fun e => by cases e) rfl ?_ ?_ ?_ ?_ ?_ ?_
         (first | exact (by simpa using hown1) | exact World.ownsRow.alloc (by simpa using hown1) _)
         (first
           | exact fun ad e j u hu => by injection e with e; subst e; exact World.news_of_block (cs := #[.int .i64 mk, .string mn, .string mv]) (lit1 wA _) j u hu
           | exact fun ad e j u hu => by injection e with e; subst e; exact World.news_of_block (cs := #[.int .i64 mk, .string mn, .string mv]) (heap_new wA _) j u hu
           | exact fun ad e j u hu => by injection e with e; subst e; exact World.news_of_block (cs := #[.int .i64 mk, .string mn, .string mv]) ((hg1.block _ (by simp) (by simp [Value.ownBlock])).trans (lit3 w3 _ _)) j u hu
           | exact fun ad e j u hu => by injection e with e; subst e; exact World.news_of_block (cs := #[.int .i64 mk, .string mn, .string mv]) ((hg1.block _ (by simp <;> omega) (by simp [Value.ownBlock])).trans (lit2 w3 _ _)) j u hu)
         (intro u hu; simp [menc] at hu; rcases hu with rfl | rfl | rfl <;> rfl)
         (unfold maxLen; omega)
         (omega)
         (first | exact hsA | (simp; omega))
         intro v2 wB hown2 hg2
         have hbB : Below w3.heap.size w3 wB := Below.grown (by go_grown) hg2 (by first | exact hsA | (simp; omega)) (fun j hj => (hown1.lt j hj).1)
         have hsB := hbB.size))
  all_goals
    have r0 := cell_below hbC (Nat.le_refl _) q0
    have r1 := cell_below hbC (Nat.le_refl _) q1
    have r2 := cell_below hbC (Nat.le_refl _) q2
    have f9 := (below_frozen hbC _ 0 (World.block_lt_of_cell? _ _ q0)).trans f0
    clear hown1 hown2 hg1 hg2 hbA hbB hsA hsB hb9
    have hbD : Below w.heap.size w w9 := HB03.out.trans (hbC.mono (by omega))
    have HBD := Lib.hid hbD
    clear hbC hbD
    have c1 := HCM.out.1
    have c2 := HCM.out.2.1
    go_wp2_with fail
  all_goals
    have hbE : Below w.heap.size w (w9.setCell ⟨w.heap.size + 1, 0, none⟩ (.int .i64 0)) := HBD.out.setCell (by simp) _
    refine (card_any 0 st v _ cs ms _ (crow_of (H2.out.below hbE (Nat.le_refl _))) (mrow_of (H1.out.below hbE (Nat.le_refl _)))).mono ?_
    rw [HCM.out.2.2]
    rintro e w10 ⟨rfl, hb10⟩
    have hbF := hbE.trans (hb10.mono hbE.size)
    have HBF := Lib.hid hbF
    clear hbE hbF hb10
    go_wp2_with fail
    go_ret
    exact ⟨rfl, HBF.out⟩
end Go.Proofs.Ytdhahnagnemgaaa
