/- Normal: the document's walk. -/
import Derived.Test.YtkflhfdpdgnbfaaVn5
import Derived.Test.YtkflhfdpdgnbfaaVp2
import Derived.Test.YtkflhfdpdgnbfaaLa15
namespace Go.Proofs.Ytkflhfdpdgnbfaa
open Go Go.RowKit
set_option linter.unusedVariables false
set_option linter.unusedSimpArgs false
set_option maxRecDepth 100000
theorem ownsRow_low {w : World} {base base' : Nat} {e : TypeId} {size : Nat} {v : Value} {n : Nat} {xs : List Value} (h : w.ownsRow base e size v n xs) (hb : base' ≤ base) : w.ownsRow base' e size v n xs :=
  ⟨h.1, h.2.imp id fun ⟨g, cap, cur, e, h1, rest⟩ => ⟨g, cap, cur, e, Nat.le_trans hb h1, rest⟩⟩
theorem S_keepP {w3 w' : World} {p q : Addr} {x0 x1 : Value} (p0 : w3.cell? p = some x0) (p1 : w3.cell? q = some x1) (h : Below w3.heap.size w3 w') :
    Below w3.heap.size w3 w' ∧ w'.cell? p = some x0 ∧ w'.cell? q = some x1 := ⟨h, cell_below h (Nat.le_refl _) p0, cell_below h (Nat.le_refl _) p1⟩
theorem zenc_pos (x : ZPt) : 0 < (zenc x).length := Nat.zero_lt_succ _
theorem Try.elemPts : Try.prog.underlying 22 = some (.slice (Try.prog.elem 22)) := by kernel_rfl
theorem Try.sizePt (w : World) : (sizeOf (Try.prog.elem 22)).run Try.prog w = .ok 2 w := by rfl
theorem zenc_one {w : World} {zs : List ZPt} (h : ∀ z ∈ zs, Sl lenc w z.1 z.2.1) : ∀ u ∈ zs.flatMap zenc, u.oneCell' = true := by
  intro u hu
  rw [List.mem_flatMap] at hu
  obtain ⟨x, hx, hu⟩ := hu
  obtain ⟨a, c, e, -⟩ := h x hx
  simp [zenc] at hu
  rcases hu with rfl | rfl
  · rw [e]; rfl
  · rfl
/-- The row of what the document's Normal has so far. -/
def RN (ps : List Pt) (w : World) (k : Nat) (zs : List ZPt) (dup : Bool) : Prop :=
  zs.length = k ∧ (∀ z ∈ zs, Sl lenc w z.1 z.2.1) ∧ (zs.map (·.2)).Perm ((ps.take k).map canonP) ∧ Weak (zs.map (·.2)) ∧ (dup = true → ¬ ((zs.map (·.2)).map (·.1)).Nodup) ∧ (dup = false → Strict (zs.map (·.2))) ∧ ∀ j (hj : j < ps.length), j < k → rightL ps[j].1 = true
theorem take_canon2 (ps : List Pt) (k : Nat) (h : k < ps.length) : (ps.take (k + 1)).map canonP = (ps.take k).map canonP ++ [canonP ps[k]] := by
  rw [List.take_succ_eq_append_getElem h, List.map_append]; rfl
theorem RN.step {ps : List Pt} {w : World} {k j : Nat} {zs : List ZPt} {dup d' : Bool} {lv : Value} (h : RN ps w k zs dup) (hk : k < ps.length) (hr : rightL ps[k].1 = true) (hs : Sl lenc w lv ps[k].1)
    (h1 : ∀ i (hi : i < zs.length), i < j → cmpL zs[i].2.1 ps[k].1 < 0) (h2 : ∀ hj : j < zs.length, 0 ≤ cmpL zs[j].2.1 ps[k].1)
    (hd : (d' = dup ∧ ∀ hj : j < zs.length, cmpL zs[j].2.1 ps[k].1 ≠ 0) ∨ (d' = true ∧ ∃ hj : j < zs.length, cmpL zs[j].2.1 ps[k].1 = 0)) :
    RN ps w (k + 1) (zs.take j ++ (lv, ps[k].1, canon ps[k].2) :: zs.drop j) d' := by
  obtain ⟨g1, g2, g3, g4, g5, g6, g7⟩ := h
  have hm : (zs.take j ++ (lv, ps[k].1, canon ps[k].2) :: zs.drop j).map (·.2) = putAt (zs.map (·.2)) j (canonP ps[k]) := by
    unfold putAt
    rw [List.map_append, List.map_cons, List.map_take, List.map_drop]; rfl
  have e1 : ∀ m (hm : m < (zs.map (·.2)).length), m < j → cmpL (zs.map (fun z : ZPt => z.2))[m].1 (canonP ps[k]).1 < 0 := fun m hm hmj => by
    rw [List.getElem_map]; exact h1 m (by simpa using hm) hmj
  have e2 : ∀ hj : j < (zs.map (·.2)).length, 0 ≤ cmpL (zs.map (fun z : ZPt => z.2))[j].1 (canonP ps[k]).1 := fun hj => by
    rw [List.getElem_map]; exact h2 (by simpa using hj)
  refine ⟨?_, ?_, ?_, ?_, ?_, ?_, ?_⟩
  · simp; omega
  · intro z hz
    rcases List.mem_append.1 hz with hz | hz
    · exact g2 z (List.mem_of_mem_take hz)
    · rcases List.mem_cons.1 hz with rfl | hz
      · exact hs
      · exact g2 z (List.mem_of_mem_drop hz)
  · rw [hm, take_canon2 ps k hk]
    exact (putAt_perm _ _ _).trans (g3.append_right _)
  · rw [hm]; exact putAt_weak g4 e1 e2
  · intro e
    rw [hm]
    rcases hd with ⟨rfl, hd⟩ | ⟨-, hj, hd⟩
    · exact putAt_dup' (g5 e)
    · exact putAt_dup (j := j) (by simpa using hj) (by rw [List.getElem_map]; exact hd)
  · intro e
    rw [hm]
    rcases hd with ⟨rfl, hd⟩ | ⟨e2, -⟩
    · refine putAt_strict (g6 e) e1 fun hj => ?_
      have := e2 hj
      have hj2 : j < zs.length := by simpa using hj
      have h3 := hd hj2
      rw [List.getElem_map] at this ⊢
      have h4 : cmpL zs[j].2.1 (canonP ps[k]).1 ≠ 0 := h3
      omega
    · rw [e] at e2; cases e2
  · intro i hi hik
    by_cases he : i = k
    · subst he; exact hr
    · exact g7 i hi (by omega)
set_option maxHeartbeats 8000000 in
theorem rnormal_any (v : Value) (ps : List Pt) (w : World) (h : VS w v ps) (hl : ps.length ≤ 100000) :
    Calls Try.prog 10 #[v] w fun e w' => Below w.heap.size w w' ∧ NR ps e w' := by
  obtain ⟨a, cap, rfl, hlen, hc⟩ := h.split
  have HC := Lib.hid hc
  clear hc h
  obtain ⟨i0, hi, hz0, hz1, hz2⟩ := info_parts Try.infoPt
  go_enter Try.func10, Try.ntmps10
  go_wp2_with fail
  go_loopw [4, 5, 6] (fun v d i wr => ∃ (k : Nat) (zs : List ZPt) (dup : Bool), k ≤ ps.length ∧ i = .int .i64 k ∧ d = .bool dup ∧ wr.ownsRow w.heap.size 35 2 v k (zs.flatMap zenc) ∧ Hid (RN ps w k zs dup) ∧ Hid (Below w.heap.size w wr)) (fun _ _ i _ => ps.length - (intOf i).toNat)
  case atStart => exact ⟨0, [], false, Nat.zero_le _, rfl, rfl, World.ownsRow_nil _ _ _ _, ⟨rfl, (fun z hz => by cases hz), List.Perm.refl _, List.Pairwise.nil, (fun e => by cases e), (fun _ => List.Pairwise.nil), fun j _ hj => absurd hj (Nat.not_lt_zero _)⟩, Below.refl _ _⟩
  case round =>
    obtain ⟨k, zs, dup, hk, rfl, rfl, hown, HR, HB⟩ := hrel
    have hBz := HB.out.size
    have h00 : (0 : Int) ≤ (k : Int) := by omega
    by_cases hlt : k < ps.length
    · have hltz : (k : Int) < (ps.length : Int) := by omega
      obtain ⟨b, off, lv, rfl, k0, k1, hsl⟩ := HC.out k hlt
      have p0 := cell_below HB.out (Nat.le_refl _) k0
      have p1 := cell_below HB.out (Nat.le_refl _) k1
      have hslr := hsl.below HB.out (Nat.le_refl _)
      obtain ⟨a2, n2, c2, rfl⟩ : ∃ a2 n2 c2, lv = .slice a2 n2 c2 := by
        obtain ⟨a2, c2, e, -⟩ := hsl
        exact ⟨a2, _, c2, e⟩
      obtain ⟨x, hx⟩ : ∃ x, x = ps[k].2 := ⟨_, rfl⟩
      rw [← hx] at p1
      have HX := Lib.hid hx
      have HFR := Lib.hid (fun q => rright_any (.slice a2 n2 c2) ps[k].1 (wr.drewN q) (hslr.below (below_drewN (Below.refl _ _) q) (Nat.le_refl _)))
      have HSL := Lib.hid hsl
      have HSR := Lib.hid hslr
      obtain ⟨rk, hrk⟩ : ∃ r, r = rightL ps[k].1 := ⟨_, rfl⟩
      rw [← hrk] at HFR
      have HRK := Lib.hid hrk
      clear hsl hslr k0 k1 hx hrk
      have hzs : Sl zenc wr u4 zs := Sl.own zenc_len (by decide) hown
      have hzl : zs.length = k := HR.out.1
      obtain ⟨a4, c4, rfl, hlen4, -, hc4⟩ := hzs.split zenc_len
      rw [hzl] at hlen4 hown hzs ⊢
      have HO := Lib.hid hown
      have HC4 := Lib.hid hc4
      have HZ := Lib.hid hzs
      have HZL := Lib.hid hzl
      clear hc4 hown hzs hzl
      cases rk with
      | false =>
        have HF := Lib.hid (show ∃ p ∈ ps, rightL p.1 = false from ⟨_, List.getElem_mem hlt, HRK.out.symm⟩)
        go_wp2_with fail
        refine (HFR.out 0).mono ?_
        rintro e w2 ⟨rfl, n1, rfl⟩
        go_wp2_with fail
        go_ret2
        exact ⟨below_drewN HB.out _, .inl ⟨HF.out, rfl⟩⟩
      | true =>
        go_wp2_with fail
        refine (HFR.out 0).mono ?_
        rintro e w2 ⟨rfl, n1, rfl⟩
        go_wp2_with fail
        go_loopw [7] (fun j wq => ∃ (m n : Nat), m ≤ k ∧ j = .int .i64 m ∧ Hid (∀ i (hi : i < zs.length), i < m → cmpL zs[i].2.1 ps[k].1 < 0) ∧ wq = wr.drewN n) (fun j _ => k - (intOf j).toNat)
        case atStart => exact ⟨0, _, Nat.zero_le _, rfl, fun j _ hj => absurd hj (Nat.not_lt_zero _), by first | rfl | exact World.drewN_drewN _ _ _⟩
        case round =>
          obtain ⟨m, n, hm, rfl, HV, rfl⟩ := hrel
          have hm0 : (0 : Int) ≤ (m : Int) := by omega
          have hthree : (∃ hm : m < zs.length, cmpL zs[m].2.1 ps[k].1 < 0) ∨ (∃ hm : m < zs.length, cmpL zs[m].2.1 ps[k].1 = 0) ∨ (∃ hm : m < zs.length, 0 < cmpL zs[m].2.1 ps[k].1) ∨ m = k := by
            have := HZL.out
            by_cases h : m < zs.length
            · rcases Int.lt_trichotomy (cmpL zs[m].2.1 ps[k].1) 0 with h1 | h1 | h1
              · exact .inl ⟨h, h1⟩
              · exact .inr (.inl ⟨h, h1⟩)
              · exact .inr (.inr (.inl ⟨h, h1⟩))
            · exact .inr (.inr (.inr (by omega)))
          by_cases hgo : ∃ hm : m < zs.length, cmpL zs[m].2.1 ps[k].1 < 0
          · obtain ⟨hmzs, hcn⟩ := hgo
            clear hthree
            have hmk : m < k := by have := HZL.out; omega
            have hmz : (m : Int) < (k : Int) := by omega
            have hmb : decide ((m : Int) < (k : Int)) = true := decide_eq_true hmz
            have hmb2 : decide (m < k) = true := decide_eq_true hmk
            obtain ⟨b4, off4, rfl, hcc⟩ := HC4.out m hmzs
            have r0 : wr.cell? ⟨b4, off4 + m * 2, none⟩ = some zs[m].1 := hcc 0 _ rfl
            have hzm : Sl lenc wr zs[m].1 zs[m].2.1 := (HR.out.2.1 _ (List.getElem_mem hmzs)).below HB.out (Nat.le_refl _)
            obtain ⟨lz, hlz⟩ : ∃ l, l = zs[m].1 := ⟨_, rfl⟩
            rw [← hlz] at r0 hzm
            obtain ⟨cc, hccE⟩ : ∃ c, c = cmpL zs[m].2.1 ps[k].1 := ⟨_, rfl⟩
            have HCP := Lib.hid (fun q => rcompare_any lz (.slice a2 n2 c2) zs[m].2.1 ps[k].1 (wr.drewN q) (hzm.below (below_drewN (Below.refl _ _) q) (Nat.le_refl _)) (HSR.out.below (below_drewN (Below.refl _ _) q) (Nat.le_refl _)))
            rw [← hccE] at HCP hcn
            have HCE := Lib.hid hccE
            have HN := Lib.hid hcn
            clear hcc hlz hzm hccE hcn
            go_wp2_with fail
            have hcb : decide (cc < 0) = true := decide_eq_true HN.out
            go_quiet ((go_at_call 34; refine qd (HCP.out _)))
            go_wp2_with fail
            go_roundw
            case rel => exact ⟨m + 1, _, by omega, by go_num, (fun i hi him => by
              by_cases he : i = m
              · subst he; rw [← HCE.out]; exact HN.out
              · exact HV.out i hi (by omega)), by first | rfl | (simp only [World.drewN_drewN]; done) | exact World.drewN_drewN _ _ _⟩
            case measure => simp [intOf]; omega
          · have hthree := hthree.resolve_left hgo
            obtain ⟨a5, c5, E1, hs1⟩ := Sl.head Try.elemPts Try.sizePt zenc_len HZ.out (k := m) (by have := HZL.out; omega)
            obtain ⟨a6, c6, E2, hs2⟩ := Sl.tail Try.elemPts Try.sizePt zenc_len HZ.out (k := m) (by have := HZL.out; omega)
            obtain ⟨-, n5, s5⟩ := hs1.src zenc_pos
            obtain ⟨-, n6, s6⟩ := hs2.src zenc_pos
            rw [HZL.out] at E2 n6
            have N5 := Lib.hid n5
            have N6 := Lib.hid n6
            have S5 := Lib.hid s5
            have S6 := Lib.hid s6
            clear hs1 hs2 n5 n6 s5 s6 hgo
            have h01 : (m : Int) ≤ (k : Int) := by omega
            have h02 : (m : Int) ≤ (c4 : Int) := by omega
            rcases hthree with hA | hA | hA
            case' inr.inr =>
              have HD := Lib.hid (HR.out.step hlt HRK.out.symm HSL.out (d' := dup) HV.out (fun h => absurd h (by have := HZL.out; omega)) (.inl ⟨rfl, fun h => absurd h (by have := HZL.out; omega)⟩))
              have hmz : ¬ (m : Int) < (k : Int) := by omega
              have hmb : decide ((m : Int) < (k : Int)) = false := decide_eq_false hmz
              have hmb2 : decide (m < k) = false := decide_eq_false (by omega)
              have HA := Lib.hid hA
              clear hA
              go_wp2_with fail
              go_quiet (fail)
              (revert nq; intro nq1)
              go_wp2_with fail
              go_quiet (fail)
              go_wp2_with fail
            case' inl =>
              obtain ⟨hmzs, hcz⟩ := hA
              have HD := Lib.hid (HR.out.step hlt HRK.out.symm HSL.out (d' := true) HV.out (fun _ => by omega) (.inr ⟨rfl, hmzs, hcz⟩))
              have hmk : m < k := by have := HZL.out; omega
              have hmz : (m : Int) < (k : Int) := by omega
              have hmb : decide ((m : Int) < (k : Int)) = true := decide_eq_true hmz
              have hmb2 : decide (m < k) = true := decide_eq_true hmk
              obtain ⟨b4, off4, rfl, hcc⟩ := HC4.out m hmzs
              have r0 : wr.cell? ⟨b4, off4 + m * 2, none⟩ = some zs[m].1 := hcc 0 _ rfl
              have hzm : Sl lenc wr zs[m].1 zs[m].2.1 := (HR.out.2.1 _ (List.getElem_mem hmzs)).below HB.out (Nat.le_refl _)
              obtain ⟨lz, hlz⟩ : ∃ l, l = zs[m].1 := ⟨_, rfl⟩
              rw [← hlz] at r0 hzm
              obtain ⟨cc, hccE⟩ : ∃ c, c = cmpL zs[m].2.1 ps[k].1 := ⟨_, rfl⟩
              have HCP := Lib.hid (fun q => rcompare_any lz (.slice a2 n2 c2) zs[m].2.1 ps[k].1 (wr.drewN q) (hzm.below (below_drewN (Below.refl _ _) q) (Nat.le_refl _)) (HSR.out.below (below_drewN (Below.refl _ _) q) (Nat.le_refl _)))
              rw [← hccE] at HCP hcz
              clear hcc hlz hzm hccE
              have HCZ := Lib.hid hcz
              clear hcz
              go_wp2_with fail
              have hcb : decide (cc < 0) = false := decide_eq_false (by have := HCZ.out; omega)
              go_quiet ((go_at_call 34; refine qd (HCP.out _)))
              (revert nq; intro nq1)
              have hcb2 : (cc == 0) = true := by have := HCZ.out; simpa using this
              go_wp2_with fail
              go_quiet ((go_at_call 34; refine qd (HCP.out _)))
              go_wp2_with fail
            case' inr.inl =>
              obtain ⟨hmzs, hcz⟩ := hA
              have HD := Lib.hid (HR.out.step hlt HRK.out.symm HSL.out (d' := dup) HV.out (fun _ => by omega) (.inl ⟨rfl, fun _ => by omega⟩))
              have hmk : m < k := by have := HZL.out; omega
              have hmz : (m : Int) < (k : Int) := by omega
              have hmb : decide ((m : Int) < (k : Int)) = true := decide_eq_true hmz
              have hmb2 : decide (m < k) = true := decide_eq_true hmk
              obtain ⟨b4, off4, rfl, hcc⟩ := HC4.out m hmzs
              have r0 : wr.cell? ⟨b4, off4 + m * 2, none⟩ = some zs[m].1 := hcc 0 _ rfl
              have hzm : Sl lenc wr zs[m].1 zs[m].2.1 := (HR.out.2.1 _ (List.getElem_mem hmzs)).below HB.out (Nat.le_refl _)
              obtain ⟨lz, hlz⟩ : ∃ l, l = zs[m].1 := ⟨_, rfl⟩
              rw [← hlz] at r0 hzm
              obtain ⟨cc, hccE⟩ : ∃ c, c = cmpL zs[m].2.1 ps[k].1 := ⟨_, rfl⟩
              have HCP := Lib.hid (fun q => rcompare_any lz (.slice a2 n2 c2) zs[m].2.1 ps[k].1 (wr.drewN q) (hzm.below (below_drewN (Below.refl _ _) q) (Nat.le_refl _)) (HSR.out.below (below_drewN (Below.refl _ _) q) (Nat.le_refl _)))
              rw [← hccE] at HCP hcz
              clear hcc hlz hzm hccE
              have HCZ := Lib.hid hcz
              clear hcz
              go_wp2_with fail
              have hcb : decide (cc < 0) = false := decide_eq_false (by have := HCZ.out; omega)
              go_quiet ((go_at_call 34; refine qd (HCP.out _)))
              (revert nq; intro nq1)
              have hcb2 : (cc == 0) = false := by have := HCZ.out; have h2 : cc ≠ 0 := (by omega); simpa using h2
              go_wp2_with fail
              go_quiet ((go_at_call 34; refine qd (HCP.out _)))
              go_wp2_with fail
            all_goals
              try rw [World.drewN_drewN wr n nq1]
              have q0 : ((wr.drewN (n + nq1)).drewN nq).cell? ⟨b, off + k * 2, none⟩ = some (.slice a2 n2 c2) := p0
              have q1 : ((wr.drewN (n + nq1)).drewN nq).cell? ⟨b, off + k * 2 + 1, none⟩ = some (.float .f64 x) := p1
              have hb03 : Below wr.heap.size wr ((wr.drewN (n + nq1)).drewN nq) := below_drewN (below_drewN (Below.refl _ _) _) _
              generalize (wr.drewN (n + nq1)).drewN nq = w3 at q0 q1 hb03 ⊢
              have hz3 : wr.heap.size ≤ w3.heap.size := hb03.size
              have HB03 := Lib.hid hb03
              clear hb03
              go_region_held3 (fun w' => Below w3.heap.size w3 w' ∧ w'.cell? ⟨b, off + k * 2, none⟩ = some (.slice a2 n2 c2) ∧ w'.cell? ⟨b, off + k * 2 + 1, none⟩ = some (.float .f64 x))
                (exact S_keepP q0 q1 (by go_grown))
                (first
                  | (go_at_call 35
                     refine (rcanon_any _ _).mono ?_
                     rintro e w8 ⟨rfl, rfl⟩)
                  | (refine step_append_rd rfl (.tmp 60) (.tmp 63) _ rfl w3.heap.size 35 i0 _ 2 32 Try.underlying22 hi hz0 hz1 hz2 rfl (by decide) (.slice (some ⟨_, 0, none⟩) 0 0) 0 [] rfl
                       ?_ a5 m c5 ((zs.take m).flatMap zenc) rfl N5.out (by rw [flat_length zenc_len, List.length_take, HZL.out, Nat.min_eq_left hm]) ?_ ?_ ?_ ?_ ?_ ?_
                     (refine owns_lit ?_ ?_; (first | exact lit1 _ _ | exact lit2 _ _ _ | exact lit3 _ _ _); (simp <;> omega))
                     (exact fun ad e j u hu => cell_below (B := w3.heap.size) (by go_grown) (Nat.le_refl _) (cell_below HB03.out (Nat.le_refl _) (S5.out ad e j u hu)))
                     (exact zenc_one (w := w) fun z hz => HR.out.2.1 z (List.mem_of_mem_take hz))
                     (unfold maxLen; omega)
                     (omega)
                     (simp <;> omega)
                     intro v1 wA hown1 hg1
                     have hbA : Below w3.heap.size w3 wA := Below.grown (by go_grown) hg1 (by simp <;> omega) (fun j hj => by simp [Value.ownBlock] at hj; omega)
                     have hsA := hbA.size)
                  | (refine step_append_rd rfl (.tmp 64) (.tmp 77) _ rfl w3.heap.size 35 i0 _ 2 32 Try.underlying22 hi hz0 hz1 hz2 rfl (by decide) v1 m ((zs.take m).flatMap zenc) rfl
                       ?_ (some _) 1 1 (zenc (.slice a2 n2 c2, ps[k].1, canon x)) rfl (fun e => by cases e) rfl ?_ ?_ ?_ ?_ ?_ ?_
                     (first | exact (by simpa using hown1) | exact World.ownsRow.alloc (by simpa using hown1) _)
                     (first
                       | exact fun ad e j u hu => by injection e with e; subst e; exact World.news_of_block (cs := #[.slice a2 n2 c2, .float .f64 (canon x)]) (lit1 wA _) j u hu
                       | exact fun ad e j u hu => by injection e with e; subst e; exact World.news_of_block (cs := #[.slice a2 n2 c2, .float .f64 (canon x)]) (heap_new wA _) j u hu)
                     (intro u hu; simp [zenc] at hu; rcases hu with rfl | rfl <;> rfl)
                     (unfold maxLen; omega)
                     (omega)
                     (first | exact hsA | (simp; omega))
                     intro v2 wB hown2 hg2
                     have hbB : Below w3.heap.size w3 wB := Below.grown (by go_grown) hg2 (by first | exact hsA | (simp; omega)) (fun j hj => (hown1.lt j hj).1)
                     have hsB := hbB.size))
            all_goals
              have HBB := Lib.hid hbB
              clear hown1 hg1 hg2 hbA hbB hsA
              go_wp2_with (at_builtin; refine wpList_append_rd rfl _ _ 22 rfl w3.heap.size 35 i0 _ 2 32 Try.underlying22 hi hz0 hz1 hz2 rfl (by decide) v2 (m + 1) ((zs.take m).flatMap zenc ++ zenc (.slice a2 n2 c2, ps[k].1, canon x)) rfl hown2 a6 (k - m) c6 ((zs.drop m).flatMap zenc) rfl N6.out (by rw [flat_length zenc_len, List.length_drop, HZL.out]) (fun ad e j u hu => cell_below HBB.out (Nat.le_refl _) (cell_below HB03.out (Nat.le_refl _) (S6.out ad e j u hu))) (zenc_one (w := w) fun z hz => HR.out.2.1 z (List.mem_of_mem_drop hz)) (by unfold maxLen; omega) (by omega) hsB ?_)
              intro v3 w9 hown3 hg3
              have hbC : Below w3.heap.size w3 w9 := Below.grown HBB.out hg3 hsB (fun j hj => (hown2.lt j hj).1)
              have HC9 := Lib.hid (HB.out.trans ((HB03.out.trans (hbC.mono hz3)).mono hBz))
              have HO3 := Lib.hid (ownsRow_low hown3 (Nat.le_trans hBz hz3))
              clear hown2 hown3 hg3 hbC hsB
              go_wp2_with fail
              go_roundw
              case rel =>
                refine ⟨k + 1, _, _, by omega, by go_num, rfl, ?_, HD.out, HC9.out⟩
                rw [← HX.out, List.flatMap_append, List.flatMap_cons]
                have := HO3.out
                rw [show m + 1 + (k - m) = k + 1 by omega] at this
                exact this
              case measure => simp [intOf]; omega
    · have hltz : ¬ (k : Int) < (ps.length : Int) := by omega
      obtain rfl : k = ps.length := by omega
      have HR2 := Lib.hid (show (∀ p ∈ ps, rightL p.1 = true) from fun p hp => by
        obtain ⟨j, hj, rfl⟩ := List.mem_iff_getElem.1 hp
        exact HR.out.2.2.2.2.2.2 j hj hj)
      have HP := Lib.hid (show (zs.map (fun z : ZPt => z.2)).Perm (ps.map canonP) by have := HR.out.2.2.1; rwa [List.take_of_length_le (Nat.le_refl _)] at this)
      have hzs : Sl zenc wr u4 zs := Sl.own zenc_len (by decide) hown
      have HVS := Lib.hid (vs_of hzs fun z hz => (HR.out.2.1 z hz).below HB.out (Nat.le_refl _))
      clear hown hzs
      cases dup with
      | true =>
        go_wp2_with fail
        go_ret2
        exact ⟨HB.out, .inr (.inl ⟨HR2.out, no_strict (HR.out.2.2.2.2.1 rfl) HP.out, rfl⟩)⟩
      | false =>
        go_wp2_with fail
        go_ret2
        exact ⟨HB.out, .inr (.inr ⟨HR2.out, _, _, HP.out, HR.out.2.2.2.2.2.1 rfl, rfl, HVS.out⟩)⟩
end Go.Proofs.Ytkflhfdpdgnbfaa
