/- Normal: the document's walk. A group's chosen points, the code's walk. A group's value, both sides. Maps keyed by strings that the call makes: what lies at each key, as a function; maps of rows of points. Group: the code's and the document's. (Several texts in one file, by merge.py.) -/
import Derived.Test.YtogjcaakfnfapaaDoorZA6
import Derived.Test.YtogjcaakfnfapaaDoorZA4
import Derived.Test.YtogjcaakfnfapaaDoorZA3
import Derived.Maps.OwnSet
import Derived.Maps.OwnOps
import Derived.StringKeys
import Derived.Carry
import Derived.Deep.AppendLies
namespace Go.Proofs.YtogjcaakfnfapaaDoor
open Go Go.RowKit
set_option linter.unusedVariables false
set_option linter.unusedSimpArgs false
set_option maxRecDepth 100000
theorem ownsRow_low {w : World} {base base' : Nat} {e : TypeId} {size : Nat} {v : Value} {n : Nat} {xs : List Value} (h : w.ownsRow base e size v n xs) (hb : base' ≤ base) : w.ownsRow base' e size v n xs :=
  ⟨h.1, h.2.imp id fun ⟨g, cap, cur, e, h1, rest⟩ => ⟨g, cap, cur, e, Nat.le_trans hb h1, rest⟩⟩
theorem S_keepP {w3 w' : World} {p q : Addr} {x0 x1 : Value} (p0 : w3.cell? p = some x0) (p1 : w3.cell? q = some x1) (h : Below w3.heap.size w3 w') :
    Below w3.heap.size w3 w' ∧ w'.cell? p = some x0 ∧ w'.cell? q = some x1 := ⟨h, cell_below h (Nat.le_refl _) p0, cell_below h (Nat.le_refl _) p1⟩
theorem zenc_pos (x : ZPt) : 0 < (zenc x).length := Nat.zero_lt_succ _
theorem Tryd.elemPts : Tryd.prog.underlying 26 = some (.slice (Tryd.prog.elem 26)) := by kernel_rfl
theorem Tryd.sizePt (w : World) : (sizeOf (Tryd.prog.elem 26)).run Tryd.prog w = .ok 2 w := by rfl
theorem zenc_one {w : World} {zs : List ZPt} (h : ∀ z ∈ zs, Sl lenc w z.1 z.2.1) : ∀ u ∈ zs.flatMap zenc, u.oneCell' = true := by
  intro u hu
  rw [List.mem_flatMap] at hu
  obtain ⟨x, hx, hu⟩ := hu
  obtain ⟨a, c, e, -⟩ := h x hx
  simp [zenc] at hu
  rcases hu with rfl | rfl
  · rw [e]; rfl
  · rfl
/-- The row of what the document's Normal has so far. -/
def RN (ps : List Pt) (w : World) (k : Nat) (zs : List ZPt) (dup : Bool) : Prop :=
  zs.length = k ∧ (∀ z ∈ zs, Sl lenc w z.1 z.2.1) ∧ (zs.map (·.2)).Perm ((ps.take k).map canonP) ∧ Weak (zs.map (·.2)) ∧ (dup = true → ¬ ((zs.map (·.2)).map (·.1)).Nodup) ∧ (dup = false → Strict (zs.map (·.2))) ∧ ∀ j (hj : j < ps.length), j < k → rightL ps[j].1 = true
theorem take_canon2 (ps : List Pt) (k : Nat) (h : k < ps.length) : (ps.take (k + 1)).map canonP = (ps.take k).map canonP ++ [canonP ps[k]] := by
  rw [List.take_succ_eq_append_getElem h, List.map_append]; rfl
theorem RN.step {ps : List Pt} {w : World} {k j : Nat} {zs : List ZPt} {dup d' : Bool} {lv : Value} (h : RN ps w k zs dup) (hk : k < ps.length) (hr : rightL ps[k].1 = true) (hs : Sl lenc w lv ps[k].1)
    (h1 : ∀ i (hi : i < zs.length), i < j → cmpL zs[i].2.1 ps[k].1 < 0) (h2 : ∀ hj : j < zs.length, 0 ≤ cmpL zs[j].2.1 ps[k].1)
    (hd : (d' = dup ∧ ∀ hj : j < zs.length, cmpL zs[j].2.1 ps[k].1 ≠ 0) ∨ (d' = true ∧ ∃ hj : j < zs.length, cmpL zs[j].2.1 ps[k].1 = 0)) :
    RN ps w (k + 1) (zs.take j ++ (lv, ps[k].1, canon ps[k].2) :: zs.drop j) d' := by
  obtain ⟨g1, g2, g3, g4, g5, g6, g7⟩ := h
  have hm : (zs.take j ++ (lv, ps[k].1, canon ps[k].2) :: zs.drop j).map (·.2) = putAt (zs.map (·.2)) j (canonP ps[k]) := by
    unfold putAt
    rw [List.map_append, List.map_cons, List.map_take, List.map_drop]; rfl
  have e1 : ∀ m (hm : m < (zs.map (·.2)).length), m < j → cmpL (zs.map (fun z : ZPt => z.2))[m].1 (canonP ps[k]).1 < 0 := fun m hm hmj => by
    rw [List.getElem_map]; exact h1 m (by simpa using hm) hmj
  have e2 : ∀ hj : j < (zs.map (·.2)).length, 0 ≤ cmpL (zs.map (fun z : ZPt => z.2))[j].1 (canonP ps[k]).1 := fun hj => by
    rw [List.getElem_map]; exact h2 (by simpa using hj)
  refine ⟨?_, ?_, ?_, ?_, ?_, ?_, ?_⟩
  · simp; omega
  · intro z hz
    rcases List.mem_append.1 hz with hz | hz
    · exact g2 z (List.mem_of_mem_take hz)
    · rcases List.mem_cons.1 hz with rfl | hz
      · exact hs
      · exact g2 z (List.mem_of_mem_drop hz)
  · rw [hm, take_canon2 ps k hk]
    exact (putAt_perm _ _ _).trans (g3.append_right _)
  · rw [hm]; exact putAt_weak g4 e1 e2
  · intro e
    rw [hm]
    rcases hd with ⟨rfl, hd⟩ | ⟨-, hj, hd⟩
    · exact putAt_dup' (g5 e)
    · exact putAt_dup (j := j) (by simpa using hj) (by rw [List.getElem_map]; exact hd)
  · intro e
    rw [hm]
    rcases hd with ⟨rfl, hd⟩ | ⟨e2, -⟩
    · refine putAt_strict (g6 e) e1 fun hj => ?_
      have := e2 hj
      have hj2 : j < zs.length := by simpa using hj
      have h3 := hd hj2
      rw [List.getElem_map] at this ⊢
      have h4 : cmpL zs[j].2.1 (canonP ps[k]).1 ≠ 0 := h3
      omega
    · rw [e] at e2; cases e2
  · intro i hi hik
    by_cases he : i = k
    · subst he; exact hr
    · exact g7 i hi (by omega)
set_option maxHeartbeats 8000000 in
theorem rnormal_any (v : Value) (ps : List Pt) (w : World) (h : VS w v ps) (hl : ps.length ≤ 100000) :
    Calls Tryd.prog 55 #[v] w fun e w' => Below w.heap.size w w' ∧ NR ps e w' := by
  obtain ⟨a, cap, rfl, hlen, hc⟩ := h.split
  have HC := Lib.hid hc
  clear hc h
  obtain ⟨i0, hi, hz0, hz1, hz2⟩ := info_parts Tryd.infoPt
  go_enter Tryd.func55, Tryd.ntmps55
  go_wp2_with fail
  go_loopw [4, 5, 6] (fun v d i wr => ∃ (k : Nat) (zs : List ZPt) (dup : Bool), k ≤ ps.length ∧ i = .int .i64 k ∧ d = .bool dup ∧ wr.ownsRow w.heap.size 42 2 v k (zs.flatMap zenc) ∧ Hid (RN ps w k zs dup) ∧ Hid (Below w.heap.size w wr)) (fun _ _ i _ => ps.length - (intOf i).toNat)
  case atStart => exact ⟨0, [], false, Nat.zero_le _, rfl, rfl, World.ownsRow_nil _ _ _ _, ⟨rfl, (fun z hz => by cases hz), List.Perm.refl _, List.Pairwise.nil, (fun e => by cases e), (fun _ => List.Pairwise.nil), fun j _ hj => absurd hj (Nat.not_lt_zero _)⟩, Below.refl _ _⟩
  case round =>
    obtain ⟨k, zs, dup, hk, rfl, rfl, hown, HR, HB⟩ := hrel
    have hBz := HB.out.size
    have h00 : (0 : Int) ≤ (k : Int) := by omega
    by_cases hlt : k < ps.length
    · have hltz : (k : Int) < (ps.length : Int) := by omega
      obtain ⟨b, off, lv, rfl, k0, k1, hsl⟩ := HC.out k hlt
      have p0 := cell_below HB.out (Nat.le_refl _) k0
      have p1 := cell_below HB.out (Nat.le_refl _) k1
      have hslr := hsl.below HB.out (Nat.le_refl _)
      obtain ⟨a2, n2, c2, rfl⟩ : ∃ a2 n2 c2, lv = .slice a2 n2 c2 := by
        obtain ⟨a2, c2, e, -⟩ := hsl
        exact ⟨a2, _, c2, e⟩
      obtain ⟨x, hx⟩ : ∃ x, x = ps[k].2 := ⟨_, rfl⟩
      rw [← hx] at p1
      have HX := Lib.hid hx
      have HFR := Lib.hid (fun q => rright_any (.slice a2 n2 c2) ps[k].1 (wr.drewN q) (hslr.below (below_drewN (Below.refl _ _) q) (Nat.le_refl _)))
      have HSL := Lib.hid hsl
      have HSR := Lib.hid hslr
      obtain ⟨rk, hrk⟩ : ∃ r, r = rightL ps[k].1 := ⟨_, rfl⟩
      rw [← hrk] at HFR
      have HRK := Lib.hid hrk
      clear hsl hslr k0 k1 hx hrk
      have hzs : Sl zenc wr u4 zs := Sl.own zenc_len (by decide) hown
      have hzl : zs.length = k := HR.out.1
      obtain ⟨a4, c4, rfl, hlen4, -, hc4⟩ := hzs.split zenc_len
      rw [hzl] at hlen4 hown hzs ⊢
      have HO := Lib.hid hown
      have HC4 := Lib.hid hc4
      have HZ := Lib.hid hzs
      have HZL := Lib.hid hzl
      clear hc4 hown hzs hzl
      cases rk with
      | false =>
        have HF := Lib.hid (show ∃ p ∈ ps, rightL p.1 = false from ⟨_, List.getElem_mem hlt, HRK.out.symm⟩)
        go_wp2_with fail
        refine (HFR.out 0).mono ?_
        rintro e w2 ⟨rfl, n1, rfl⟩
        go_wp2_with fail
        go_ret2
        exact ⟨below_drewN HB.out _, .inl ⟨HF.out, rfl⟩⟩
      | true =>
        go_wp2_with fail
        refine (HFR.out 0).mono ?_
        rintro e w2 ⟨rfl, n1, rfl⟩
        go_wp2_with fail
        go_loopw [7] (fun j wq => ∃ (m n : Nat), m ≤ k ∧ j = .int .i64 m ∧ Hid (∀ i (hi : i < zs.length), i < m → cmpL zs[i].2.1 ps[k].1 < 0) ∧ wq = wr.drewN n) (fun j _ => k - (intOf j).toNat)
        case atStart => exact ⟨0, _, Nat.zero_le _, rfl, fun j _ hj => absurd hj (Nat.not_lt_zero _), by first | rfl | exact World.drewN_drewN _ _ _⟩
        case round =>
          obtain ⟨m, n, hm, rfl, HV, rfl⟩ := hrel
          have hm0 : (0 : Int) ≤ (m : Int) := by omega
          have hthree : (∃ hm : m < zs.length, cmpL zs[m].2.1 ps[k].1 < 0) ∨ (∃ hm : m < zs.length, cmpL zs[m].2.1 ps[k].1 = 0) ∨ (∃ hm : m < zs.length, 0 < cmpL zs[m].2.1 ps[k].1) ∨ m = k := by
            have := HZL.out
            by_cases h : m < zs.length
            · rcases Int.lt_trichotomy (cmpL zs[m].2.1 ps[k].1) 0 with h1 | h1 | h1
              · exact .inl ⟨h, h1⟩
              · exact .inr (.inl ⟨h, h1⟩)
              · exact .inr (.inr (.inl ⟨h, h1⟩))
            · exact .inr (.inr (.inr (by omega)))
          by_cases hgo : ∃ hm : m < zs.length, cmpL zs[m].2.1 ps[k].1 < 0
          · obtain ⟨hmzs, hcn⟩ := hgo
            clear hthree
            have hmk : m < k := by have := HZL.out; omega
            have hmz : (m : Int) < (k : Int) := by omega
            have hmb : decide ((m : Int) < (k : Int)) = true := decide_eq_true hmz
            have hmb2 : decide (m < k) = true := decide_eq_true hmk
            obtain ⟨b4, off4, rfl, hcc⟩ := HC4.out m hmzs
            have r0 : wr.cell? ⟨b4, off4 + m * 2, none⟩ = some zs[m].1 := hcc 0 _ rfl
            have hzm : Sl lenc wr zs[m].1 zs[m].2.1 := (HR.out.2.1 _ (List.getElem_mem hmzs)).below HB.out (Nat.le_refl _)
            obtain ⟨lz, hlz⟩ : ∃ l, l = zs[m].1 := ⟨_, rfl⟩
            rw [← hlz] at r0 hzm
            obtain ⟨cc, hccE⟩ : ∃ c, c = cmpL zs[m].2.1 ps[k].1 := ⟨_, rfl⟩
            have HCP := Lib.hid (fun q => rcompare_any lz (.slice a2 n2 c2) zs[m].2.1 ps[k].1 (wr.drewN q) (hzm.below (below_drewN (Below.refl _ _) q) (Nat.le_refl _)) (HSR.out.below (below_drewN (Below.refl _ _) q) (Nat.le_refl _)))
            rw [← hccE] at HCP hcn
            have HCE := Lib.hid hccE
            have HN := Lib.hid hcn
            clear hcc hlz hzm hccE hcn
            go_wp2_with fail
            have hcb : decide (cc < 0) = true := decide_eq_true HN.out
            go_quiet ((go_at_call 60; refine qd (HCP.out _)))
            go_wp2_with fail
            go_roundw
            case rel => exact ⟨m + 1, _, by omega, by go_num, (fun i hi him => by
              by_cases he : i = m
              · subst he; rw [← HCE.out]; exact HN.out
              · exact HV.out i hi (by omega)), by first | rfl | (simp only [World.drewN_drewN]; done) | exact World.drewN_drewN _ _ _⟩
            case measure => simp [intOf]; omega
          · have hthree := hthree.resolve_left hgo
            obtain ⟨a5, c5, E1, hs1⟩ := Sl.head Tryd.elemPts Tryd.sizePt zenc_len HZ.out (k := m) (by have := HZL.out; omega)
            obtain ⟨a6, c6, E2, hs2⟩ := Sl.tail Tryd.elemPts Tryd.sizePt zenc_len HZ.out (k := m) (by have := HZL.out; omega)
            obtain ⟨-, n5, s5⟩ := hs1.src zenc_pos
            obtain ⟨-, n6, s6⟩ := hs2.src zenc_pos
            rw [HZL.out] at E2 n6
            have N5 := Lib.hid n5
            have N6 := Lib.hid n6
            have S5 := Lib.hid s5
            have S6 := Lib.hid s6
            clear hs1 hs2 n5 n6 s5 s6 hgo
            have h01 : (m : Int) ≤ (k : Int) := by omega
            have h02 : (m : Int) ≤ (c4 : Int) := by omega
            rcases hthree with hA | hA | hA
            case' inr.inr =>
              have HD := Lib.hid (HR.out.step hlt HRK.out.symm HSL.out (d' := dup) HV.out (fun h => absurd h (by have := HZL.out; omega)) (.inl ⟨rfl, fun h => absurd h (by have := HZL.out; omega)⟩))
              have hmz : ¬ (m : Int) < (k : Int) := by omega
              have hmb : decide ((m : Int) < (k : Int)) = false := decide_eq_false hmz
              have hmb2 : decide (m < k) = false := decide_eq_false (by omega)
              have HA := Lib.hid hA
              clear hA
              go_wp2_with fail
              go_quiet (fail)
              (revert nq; intro nq1)
              go_wp2_with fail
              go_quiet (fail)
              go_wp2_with fail
            case' inl =>
              obtain ⟨hmzs, hcz⟩ := hA
              have HD := Lib.hid (HR.out.step hlt HRK.out.symm HSL.out (d' := true) HV.out (fun _ => by omega) (.inr ⟨rfl, hmzs, hcz⟩))
              have hmk : m < k := by have := HZL.out; omega
              have hmz : (m : Int) < (k : Int) := by omega
              have hmb : decide ((m : Int) < (k : Int)) = true := decide_eq_true hmz
              have hmb2 : decide (m < k) = true := decide_eq_true hmk
              obtain ⟨b4, off4, rfl, hcc⟩ := HC4.out m hmzs
              have r0 : wr.cell? ⟨b4, off4 + m * 2, none⟩ = some zs[m].1 := hcc 0 _ rfl
              have hzm : Sl lenc wr zs[m].1 zs[m].2.1 := (HR.out.2.1 _ (List.getElem_mem hmzs)).below HB.out (Nat.le_refl _)
              obtain ⟨lz, hlz⟩ : ∃ l, l = zs[m].1 := ⟨_, rfl⟩
              rw [← hlz] at r0 hzm
              obtain ⟨cc, hccE⟩ : ∃ c, c = cmpL zs[m].2.1 ps[k].1 := ⟨_, rfl⟩
              have HCP := Lib.hid (fun q => rcompare_any lz (.slice a2 n2 c2) zs[m].2.1 ps[k].1 (wr.drewN q) (hzm.below (below_drewN (Below.refl _ _) q) (Nat.le_refl _)) (HSR.out.below (below_drewN (Below.refl _ _) q) (Nat.le_refl _)))
              rw [← hccE] at HCP hcz
              clear hcc hlz hzm hccE
              have HCZ := Lib.hid hcz
              clear hcz
              go_wp2_with fail
              have hcb : decide (cc < 0) = false := decide_eq_false (by have := HCZ.out; omega)
              go_quiet ((go_at_call 60; refine qd (HCP.out _)))
              (revert nq; intro nq1)
              have hcb2 : (cc == 0) = true := by have := HCZ.out; simpa using this
              go_wp2_with fail
              go_quiet ((go_at_call 60; refine qd (HCP.out _)))
              go_wp2_with fail
            case' inr.inl =>
              obtain ⟨hmzs, hcz⟩ := hA
              have HD := Lib.hid (HR.out.step hlt HRK.out.symm HSL.out (d' := dup) HV.out (fun _ => by omega) (.inl ⟨rfl, fun _ => by omega⟩))
              have hmk : m < k := by have := HZL.out; omega
              have hmz : (m : Int) < (k : Int) := by omega
              have hmb : decide ((m : Int) < (k : Int)) = true := decide_eq_true hmz
              have hmb2 : decide (m < k) = true := decide_eq_true hmk
              obtain ⟨b4, off4, rfl, hcc⟩ := HC4.out m hmzs
              have r0 : wr.cell? ⟨b4, off4 + m * 2, none⟩ = some zs[m].1 := hcc 0 _ rfl
              have hzm : Sl lenc wr zs[m].1 zs[m].2.1 := (HR.out.2.1 _ (List.getElem_mem hmzs)).below HB.out (Nat.le_refl _)
              obtain ⟨lz, hlz⟩ : ∃ l, l = zs[m].1 := ⟨_, rfl⟩
              rw [← hlz] at r0 hzm
              obtain ⟨cc, hccE⟩ : ∃ c, c = cmpL zs[m].2.1 ps[k].1 := ⟨_, rfl⟩
              have HCP := Lib.hid (fun q => rcompare_any lz (.slice a2 n2 c2) zs[m].2.1 ps[k].1 (wr.drewN q) (hzm.below (below_drewN (Below.refl _ _) q) (Nat.le_refl _)) (HSR.out.below (below_drewN (Below.refl _ _) q) (Nat.le_refl _)))
              rw [← hccE] at HCP hcz
              clear hcc hlz hzm hccE
              have HCZ := Lib.hid hcz
              clear hcz
              go_wp2_with fail
              have hcb : decide (cc < 0) = false := decide_eq_false (by have := HCZ.out; omega)
              go_quiet ((go_at_call 60; refine qd (HCP.out _)))
              (revert nq; intro nq1)
              have hcb2 : (cc == 0) = false := by have := HCZ.out; have h2 : cc ≠ 0 := (by omega); simpa using h2
              go_wp2_with fail
              go_quiet ((go_at_call 60; refine qd (HCP.out _)))
              go_wp2_with fail
            all_goals
              try rw [World.drewN_drewN wr n nq1]
              have q0 : ((wr.drewN (n + nq1)).drewN nq).cell? ⟨b, off + k * 2, none⟩ = some (.slice a2 n2 c2) := p0
              have q1 : ((wr.drewN (n + nq1)).drewN nq).cell? ⟨b, off + k * 2 + 1, none⟩ = some (.float .f64 x) := p1
              have hb03 : Below wr.heap.size wr ((wr.drewN (n + nq1)).drewN nq) := below_drewN (below_drewN (Below.refl _ _) _) _
              generalize (wr.drewN (n + nq1)).drewN nq = w3 at q0 q1 hb03 ⊢
              have hz3 : wr.heap.size ≤ w3.heap.size := hb03.size
              have HB03 := Lib.hid hb03
              clear hb03
              go_region_held3 (fun w' => Below w3.heap.size w3 w' ∧ w'.cell? ⟨b, off + k * 2, none⟩ = some (.slice a2 n2 c2) ∧ w'.cell? ⟨b, off + k * 2 + 1, none⟩ = some (.float .f64 x))
                (exact S_keepP q0 q1 (by go_grown))
                (first
                  | (go_at_call 100
                     refine (rcanon_any _ _).mono ?_
                     rintro e w8 ⟨rfl, rfl⟩)
                  | (refine step_append_rd rfl (.tmp 60) (.tmp 63) _ rfl w3.heap.size 42 i0 _ 2 32 Tryd.underlying26 hi hz0 hz1 hz2 rfl (by decide) (.slice (some ⟨_, 0, none⟩) 0 0) 0 [] rfl
                       ?_ a5 m c5 ((zs.take m).flatMap zenc) rfl N5.out (by rw [flat_length zenc_len, List.length_take, HZL.out, Nat.min_eq_left hm]) ?_ ?_ ?_ ?_ ?_ ?_
                     (refine owns_lit ?_ ?_; (first | exact lit1 _ _ | exact lit2 _ _ _ | exact lit3 _ _ _); (simp <;> omega))
                     (exact fun ad e j u hu => cell_below (B := w3.heap.size) (by go_grown) (Nat.le_refl _) (cell_below HB03.out (Nat.le_refl _) (S5.out ad e j u hu)))
                     (exact zenc_one (w := w) fun z hz => HR.out.2.1 z (List.mem_of_mem_take hz))
                     (unfold maxLen; omega)
                     (omega)
                     (simp <;> omega)
                     intro v1 wA hown1 hg1
                     have hbA : Below w3.heap.size w3 wA := Below.grown (by go_grown) hg1 (by simp <;> omega) (fun j hj => by simp [Value.ownBlock] at hj; omega)
                     have hsA := hbA.size)
                  | (refine step_append_rd rfl (.tmp 64) (.tmp 77) _ rfl w3.heap.size 42 i0 _ 2 32 Tryd.underlying26 hi hz0 hz1 hz2 rfl (by decide) v1 m ((zs.take m).flatMap zenc) rfl
                       ?_ (some _) 1 1 (zenc (.slice a2 n2 c2, ps[k].1, canon x)) rfl (fun e => by cases e) rfl ?_ ?_ ?_ ?_ ?_ ?_
                     (first | exact (by simpa using hown1) | exact World.ownsRow.alloc (by simpa using hown1) _)
                     (first
                       | exact fun ad e j u hu => by injection e with e; subst e; exact World.news_of_block (cs := #[.slice a2 n2 c2, .float .f64 (canon x)]) (lit1 wA _) j u hu
                       | exact fun ad e j u hu => by injection e with e; subst e; exact World.news_of_block (cs := #[.slice a2 n2 c2, .float .f64 (canon x)]) (heap_new wA _) j u hu)
                     (intro u hu; simp [zenc] at hu; rcases hu with rfl | rfl <;> rfl)
                     (unfold maxLen; omega)
                     (omega)
                     (first | exact hsA | (simp; omega))
                     intro v2 wB hown2 hg2
                     have hbB : Below w3.heap.size w3 wB := Below.grown (by go_grown) hg2 (by first | exact hsA | (simp; omega)) (fun j hj => (hown1.lt j hj).1)
                     have hsB := hbB.size))
            all_goals
              have HBB := Lib.hid hbB
              clear hown1 hg1 hg2 hbA hbB hsA
              go_wp2_with (at_builtin; refine wpList_append_rd rfl _ _ 26 rfl w3.heap.size 42 i0 _ 2 32 Tryd.underlying26 hi hz0 hz1 hz2 rfl (by decide) v2 (m + 1) ((zs.take m).flatMap zenc ++ zenc (.slice a2 n2 c2, ps[k].1, canon x)) rfl hown2 a6 (k - m) c6 ((zs.drop m).flatMap zenc) rfl N6.out (by rw [flat_length zenc_len, List.length_drop, HZL.out]) (fun ad e j u hu => cell_below HBB.out (Nat.le_refl _) (cell_below HB03.out (Nat.le_refl _) (S6.out ad e j u hu))) (zenc_one (w := w) fun z hz => HR.out.2.1 z (List.mem_of_mem_drop hz)) (by unfold maxLen; omega) (by omega) hsB ?_)
              intro v3 w9 hown3 hg3
              have hbC : Below w3.heap.size w3 w9 := Below.grown HBB.out hg3 hsB (fun j hj => (hown2.lt j hj).1)
              have HC9 := Lib.hid (HB.out.trans ((HB03.out.trans (hbC.mono hz3)).mono hBz))
              have HO3 := Lib.hid (ownsRow_low hown3 (Nat.le_trans hBz hz3))
              clear hown2 hown3 hg3 hbC hsB
              go_wp2_with fail
              go_roundw
              case rel =>
                refine ⟨k + 1, _, _, by omega, by go_num, rfl, ?_, HD.out, HC9.out⟩
                rw [← HX.out, List.flatMap_append, List.flatMap_cons]
                have := HO3.out
                rw [show m + 1 + (k - m) = k + 1 by omega] at this
                exact this
              case measure => simp [intOf]; omega
    · have hltz : ¬ (k : Int) < (ps.length : Int) := by omega
      obtain rfl : k = ps.length := by omega
      have HR2 := Lib.hid (show (∀ p ∈ ps, rightL p.1 = true) from fun p hp => by
        obtain ⟨j, hj, rfl⟩ := List.mem_iff_getElem.1 hp
        exact HR.out.2.2.2.2.2.2 j hj hj)
      have HP := Lib.hid (show (zs.map (fun z : ZPt => z.2)).Perm (ps.map canonP) by have := HR.out.2.2.1; rwa [List.take_of_length_le (Nat.le_refl _)] at this)
      have hzs : Sl zenc wr u4 zs := Sl.own zenc_len (by decide) hown
      have HVS := Lib.hid (vs_of hzs fun z hz => (HR.out.2.1 z hz).below HB.out (Nat.le_refl _))
      clear hown hzs
      cases dup with
      | true =>
        go_wp2_with fail
        go_ret2
        exact ⟨HB.out, .inr (.inl ⟨HR2.out, no_strict (HR.out.2.2.2.2.1 rfl) HP.out, rfl⟩)⟩
      | false =>
        go_wp2_with fail
        go_ret2
        exact ⟨HB.out, .inr (.inr ⟨HR2.out, _, _, HP.out, HR.out.2.2.2.2.2.1 rfl, rfl, HVS.out⟩)⟩
end Go.Proofs.YtogjcaakfnfapaaDoor
namespace Go.Proofs.YtogjcaakfnfapaaDoor
open Go Go.RowKit
set_option linter.unusedVariables false
set_option linter.unusedSimpArgs false
set_option maxRecDepth 100000
set_option maxHeartbeats 2000000 in
theorem pclone_any (v : Value) (l : List ZPt) (w : World) (h : Sl zenc w v l) (hz : ∀ z ∈ l, Sl lenc w z.1 z.2.1) (hl : l.length ≤ 1000000) :
    Calls Tryd.prog 91 #[v] w fun e w' => ∃ v', e = .returned v' ∧ w'.ownsRow w.heap.size 42 2 v' l.length (l.flatMap zenc) ∧ Below w.heap.size w w' := by
  obtain ⟨a, cap, rfl, hlen, hnone, hc⟩ := h.len (fun x => by rw [zenc_len]; decide)
  obtain ⟨i0, hi, hz0, hz1, hz2⟩ := info_parts Tryd.infoPt
  cases a with
  | none =>
    obtain ⟨rfl, rfl⟩ := hnone rfl
    have he : ∀ w : World, (binOp .eql 26 (.slice none 0 0) (.slice none 0 0)).run Tryd.prog w = .ok (.bool true) w := fun _ => rfl
    go_enter Tryd.func91, Tryd.ntmps91
    go_wp2_with fail
    go_ret
    exact ⟨_, rfl, by simpa using World.ownsRow_nil _ _ _ _, Below.refl _ _⟩
  | some ad =>
    have HCC := Lib.hid hc
    have he : ∀ (n c : Nat) (w : World), (binOp .eql 26 (.slice (some ad) n c) (.slice none 0 0)).run Tryd.prog w = .ok (.bool false) w := fun _ _ _ => rfl
    have hb0 : Below w.heap.size w (w.alloc (.cells #[] 42)) := (Below.refl _ _).alloc (Nat.le_refl _) _
    have hslb := Sl.below h hb0 (Nat.le_refl _)
    obtain ⟨a2, cap2, e2, -, -, hc2⟩ := hslb.len (fun x => by rw [zenc_len]; decide)
    injection e2 with e2 e3 e4
    subst e2
    have HC2 := Lib.hid hc2
    have HF1 := Lib.hid (flat_length zenc_len l)
    have HF2 := Lib.hid (zenc_one hz)
    clear hc hc2 hslb hnone h hz
    generalize l.flatMap zenc = F at HF1 HF2 HC2 ⊢
    go_enter Tryd.func91, Tryd.ntmps91
    go_wp2_with (at_builtin; refine wpList_append_rd rfl (.tmp 5) (.tmp 6) _ rfl w.heap.size 42 i0 (.agg #[.slice none 0 0, .float .f64 0]) 2 32 Tryd.underlying26 hi hz0 hz1 hz2 rfl (by decide) _ 0 [] rfl (owns_lit (heap_new _ _) (Nat.le_refl _)) _ _ _ F rfl ?e1 ?e2 ?e3 ?e4 ?e5 ?e6 ?e7 ?_)
    case e2 => exact HF1.out
    case e3 => exact HC2.out ad rfl
    case e4 => exact HF2.out
    case e5 => unfold maxLen; omega
    case e6 => omega
    intro v' w1 hown hgrow
    have HO := Lib.hid hown
    have HG := Lib.hid hgrow
    clear hown hgrow
    go_wp2_with fail
    go_ret
    exact ⟨_, rfl, by simpa using HO.out, hb0.grown HG.out (by simp) (fun j hj => by simp [Value.ownBlock] at hj; omega)⟩
/-- How many numbers are at most k. -/
def leF (x y : Nat) : Bool := fo x y == some .lt || fo x y == some .eq
def cntP (k n : Nat) : Bool := leF (fenc ((n : Int) + 1)) k
def cntN (k len : Nat) : Nat := ((List.range len).takeWhile (cntP k)).length
theorem takeWhile_len {α : Type} (p : α → Bool) : ∀ (l : List α) (n : Nat), n ≤ l.length → (∀ j (h : j < l.length), j < n → p l[j] = true) → (∀ h : n < l.length, p l[n] = false) → (l.takeWhile p).length = n
  | [], n, h, _, _ => by simp at h; simp [h]
  | x :: r, 0, _, _, h2 => by
    have := h2 (by simp)
    simp at this
    simp [List.takeWhile_cons, this]
  | x :: r, n + 1, h, h1, h2 => by
    have h0 := h1 0 (by simp) (by omega)
    simp at h0
    rw [List.takeWhile_cons, if_pos h0, List.length_cons]
    congr 1
    exact takeWhile_len p r n (by simpa using h) (fun j hj hjn => by have := h1 (j + 1) (by simpa using hj) (by omega); simpa using this) (fun hn => by have := h2 (by simpa using hn); simpa using this)
theorem cntN_of {k n len : Nat} (h1 : ∀ j, j < n → cntP k j = true) (h2 : n ≤ len) (h3 : n < len → cntP k n = false) : cntN k len = n := by
  unfold cntN
  exact takeWhile_len _ _ n (by simpa using h2) (fun j hj hjn => by simpa using h1 j hjn) (fun hn => by simpa using h3 (by simpa using hn))
theorem Sl.upto {α : Type} {enc : α → List Value} {sz : Nat} (hsz : ∀ x, (enc x).length = sz) {w : World} {g o n cap : Nat} {xs : List α} (h : Sl enc w (.slice (some ⟨g, o, none⟩) n cap) xs) {k : Nat} (hk : k ≤ xs.length) : Sl enc w (.slice (some ⟨g, o, none⟩) k cap) (xs.take k) := by
  obtain ⟨a, c, e, hm, hn, hc⟩ := h
  injection e with e1 e2 e3
  subst e1 e2 e3
  refine ⟨_, _, by rw [List.length_take, Nat.min_eq_left hk], by rw [List.length_take, Nat.min_eq_left hk]; omega, (fun e => by cases e), fun hx => ?_⟩
  obtain ⟨b, off, e, hd⟩ := hc (fun e => hx (by rw [e]; simp))
  refine ⟨b, off, e, fun j u hu => hd j u ?_⟩
  rw [flatMap_take hsz, List.getElem?_take] at hu
  split at hu
  · exact hu
  · cases hu
theorem chosen_go (op : Int) (k : Nat) (v : Value) (zs : List ZPt) (w : World) (h : Sl zenc w v zs) (hne : zs ≠ []) (hz : ∀ z ∈ zs, Sl lenc w z.1 z.2.1 ∧ FB z.2.2) (hl : zs.length ≤ 100000) :
    Calls Tryd.prog 51 #[.int .i64 op, .float .f64 k, v] w fun e w' => ∃ g n c, e = .returned (.slice (some ⟨g, 0, none⟩) n c) ∧ Sl zenc w' (.slice (some ⟨g, 0, none⟩) n c) ((stabF (aheadZ op) zs).take (cntN k zs.length)) ∧ Below w.heap.size w w' := by
  have HCL := Lib.hid (fun w' (hb : Below w.heap.size w w') => pclone_any v zs w' (h.below hb (Nat.le_refl _)) (fun z hzz => (hz z hzz).1.below hb (Nat.le_refl _)) (by omega))
  obtain ⟨a, cap, rfl, -, -⟩ := h.len (fun z => zenc_pos z)
  have HZ := Lib.hid hz
  clear hz h
  go_enter Tryd.func51, Tryd.ntmps51
  go_wp2_with fail
  refine (HCL.out _ ((Below.refl _ _).alloc (Nat.le_refl _) _)).mono ?_
  rintro e w1 ⟨v1, rfl, ho, hb⟩
  rcases ho.2 with ⟨rfl, h0⟩ | ⟨g, cap1, cur, rfl, hbg, hg, hle, hcap, -, -⟩
  · exact absurd (List.eq_nil_of_length_eq_zero h0) hne
  have hbz : w.heap.size + 1 ≤ g := by simpa using hbg
  have hop : w1.cell? ⟨w.heap.size, 0, none⟩ = some (.int .i64 op) := cell_below hb (Nat.le_refl _) (by simp)
  have hzk : ∀ z ∈ zs, ZOk w1 (some g) z ∧ FB z.2.2 := fun z hzz => ⟨(ZOk.fresh (w := w.alloc (.cells #[.int .i64 op] 3)) ((HZ.out z hzz).1.below ((Below.refl _ _).alloc (Nat.le_refl _) _) (Nat.le_refl _)) (fun q hq => by injection hq with hq; subst hq; exact hbg)).below hb (Nat.le_refl _), (HZ.out z hzz).2⟩
  have HAS := Lib.hid (asort_any op w.heap.size g cap1 zs _ w1 ho hzk hop (by intro e; injection e with e; omega) (by omega))
  have HB1 := Lib.hid (((Below.refl w.heap.size w).alloc (Nat.le_refl _) (.cells #[.int .i64 op] 3)).trans (hb.mono (by simp)))
  have hgl : g < w1.heap.size := (Array.getElem?_eq_some_iff.1 hg).1
  obtain ⟨B, hB⟩ : ∃ B, B = w.heap.size := ⟨_, rfl⟩
  obtain ⟨N, hN⟩ : ∃ N, N = zs.length := ⟨_, rfl⟩
  rw [← hB, ← hN] at HAS ⊢
  rw [← hN] at hl hle
  have HBB := Lib.hid hB
  have HNN := Lib.hid hN
  unfold maxLen at hcap
  clear ho hb hop hzk hg hbg hB hN hne
  go_wp2_with fail
  refine HAS.out.mono ?_
  rintro e w2 ⟨rfl, hs, hgr⟩
  have HS := Lib.hid hs
  have HB2 := Lib.hid (HB1.out.grown hgr HB1.out.size (fun j hj => by injection hj with hj; subst hj; have := HBB.out; omega))
  clear hs hgr HAS HCL
  go_wp2_with fail
  go_loopw [8] (fun i wr => ∃ n : Nat, n ≤ N ∧ i = .int .i64 n ∧ Hid (∀ j, j < n → cntP k j = true) ∧ wr = w2) (fun i _ => N - (intOf i).toNat)
  case atStart => exact ⟨0, Nat.zero_le _, rfl, (fun j h => absurd h (Nat.not_lt_zero _)), rfl⟩
  case round =>
    obtain ⟨n, hn, rfl, HJ, rfl⟩ := hrel
    by_cases hlt : n < N
    · have hltz : (n : Int) < (N : Int) := by omega
      have HSL := Lib.hid (Sl.upto zenc_len HS.out (k := n) (by have := (stab_perm (aheadZ op) zs).length_eq; have := HNN.out; omega))
      go_wp2_with fail
      · have hc : cntP k n = true := by
          show (_ || _) = true
          rw [Bool.or_eq_true]
          assumption
        have HCC := Lib.hid hc
        clear hc
        go_roundw
        case rel => exact ⟨n + 1, by omega, by go_num, (fun j hj => by
          by_cases e : j = n
          · subst e; exact HCC.out
          · exact HJ.out j (by omega)), by trivial⟩
        case measure => simp [intOf]; omega
      · have hc : cntP k n = false := by
          show (_ || _) = false
          rw [Bool.or_eq_false_iff]
          assumption
        have HF := Lib.hid (cntN_of (len := zs.length) HJ.out (by have := HNN.out; omega) (fun _ => hc))
        clear hc
        go_ret
        exact ⟨_, _, _, rfl, by rw [HF.out]; exact HSL.out, HB2.out⟩
    · obtain rfl : n = N := by omega
      have hltz : ¬ (n : Int) < (n : Int) := by omega
      have HSL := Lib.hid (Sl.upto zenc_len HS.out (k := n) (by have := (stab_perm (aheadZ op) zs).length_eq; have := HNN.out; omega))
      have HF := Lib.hid (cntN_of (len := zs.length) HJ.out (by have := HNN.out; omega) (fun h => absurd h (by have := HNN.out; omega)))
      go_wp2_with fail
      go_ret
      exact ⟨_, _, _, rfl, by rw [HF.out]; exact HSL.out, HB2.out⟩
end Go.Proofs.YtogjcaakfnfapaaDoor
namespace Go.Proofs.YtogjcaakfnfapaaDoor
open Go Go.RowKit
set_option linter.unusedVariables false
set_option linter.unusedSimpArgs false
set_option maxRecDepth 100000
def F1 : Nat := 4607182418800017408
/-- A group's value (what it is made one by Canon). -/
def oneF (op : Int) (vals : List Nat) : Nat := if op = 1 then fsum vals else if op = 2 then fenc vals.length else if op = 3 then least false vals else if op = 4 then least true vals else if op = 5 then cop .quo (fsum vals) (fenc vals.length) else F1
set_option maxHeartbeats 4000000 in
theorem one_any (op : Int) (v : Value) (vals : List Nat) (w : World) (h : Sl fenc1 w v vals) (hne : vals ≠ []) (hl : vals.length ≤ 1000000) :
    Calls Tryd.prog 52 #[.int .i64 op, v] w fun e w' => ∃ x, e = .returned (.float .f64 x) ∧ canon x = canon (oneF op vals) ∧ ∃ n, w' = w.drewN n := by
  have HSUM := Lib.hid (fun w' (h : Sl fenc1 w' v vals) => fsum_any v vals w' h)
  have HSL := Lib.hid h
  obtain ⟨a, cap, rfl, hlen, hc⟩ := h.floats
  have HLE := Lib.hid (show ∀ most, Calls Tryd.prog 96 #[.slice a vals.length cap, .bool most] w fun e w' => e = .returned (.float .f64 (least most vals)) ∧ w = w' by
    intro most
    cases vals with
    | nil => exact absurd rfl hne
    | cons x l => exact least_any a cap x l most w h)
  obtain ⟨N, hN⟩ : ∃ N, N = vals.length := ⟨_, rfl⟩
  have HN := Lib.hid hN
  rw [← hN] at HSL HSUM HLE hlen hl ⊢
  clear h hc hne hN
  by_cases h1 : op = 1
  · have HF := Lib.hid (show oneF op vals = fsum vals by unfold oneF; rw [if_pos h1])
    subst h1
    go_enter Tryd.func52, Tryd.ntmps52
    go_wp2_with fail
    refine (HSUM.out _ HSL.out).mono ?_
    rintro e w1 ⟨rfl, n, rfl⟩
    go_wp2_with fail
    go_ret
    exact ⟨_, rfl, by rw [HF.out], n, rfl⟩
  · have k1 : (op == 1) = false := by simpa using h1
    by_cases h2 : op = 2
    · have HF := Lib.hid (show oneF op vals = fenc N by unfold oneF; rw [if_neg h1, if_pos h2, HN.out])
      subst h2
      clear h1
      go_enter Tryd.func52, Tryd.ntmps52
      go_wp2_with fail
      go_ret
      exact ⟨_, rfl, by rw [HF.out]; rfl, 0, rfl⟩
    · have k2 : (op == 2) = false := by simpa using h2
      by_cases h3 : op = 3
      · have HF := Lib.hid (show oneF op vals = least false vals by unfold oneF; rw [if_neg h1, if_neg h2, if_pos h3])
        subst h3
        clear h1 h2
        go_enter Tryd.func52, Tryd.ntmps52
        go_wp2_with fail
        refine (HLE.out _).mono ?_
        rintro e w1 ⟨rfl, rfl⟩
        go_wp2_with fail
        go_ret
        exact ⟨_, rfl, by rw [HF.out], 0, rfl⟩
      · have k3 : (op == 3) = false := by simpa using h3
        by_cases h4 : op = 4
        · have HF := Lib.hid (show oneF op vals = least true vals by unfold oneF; rw [if_neg h1, if_neg h2, if_neg h3, if_pos h4])
          subst h4
          clear h1 h2 h3
          go_enter Tryd.func52, Tryd.ntmps52
          go_wp2_with fail
          refine (HLE.out _).mono ?_
          rintro e w1 ⟨rfl, rfl⟩
          go_wp2_with fail
          go_ret
          exact ⟨_, rfl, by rw [HF.out], 0, rfl⟩
        · have k4 : (op == 4) = false := by simpa using h4
          by_cases h5 : op = 5
          · have HF := Lib.hid (show oneF op vals = cop .quo (fsum vals) (fenc N) by unfold oneF; rw [if_neg h1, if_neg h2, if_neg h3, if_neg h4, if_pos h5, HN.out])
            subst h5
            clear h1 h2 h3 h4
            go_enter Tryd.func52, Tryd.ntmps52
            go_wp2_with fail
            refine (HSUM.out _ HSL.out).mono ?_
            rintro e w1 ⟨rfl, n, rfl⟩
            go_wp2_with fail
            go_ret
            exact ⟨_, rfl, by rw [HF.out, canon_cop]; exact canon_fop _ _ _ _, _, rfl⟩
          · have k5 : (op == 5) = false := by simpa using h5
            have HF := Lib.hid (show oneF op vals = F1 by unfold oneF; rw [if_neg h1, if_neg h2, if_neg h3, if_neg h4, if_neg h5])
            clear h1 h2 h3 h4 h5
            go_enter Tryd.func52, Tryd.ntmps52
            go_wp2_with fail
            go_ret
            exact ⟨_, rfl, by rw [HF.out]; rfl, 0, rfl⟩
set_option maxHeartbeats 4000000 in
theorem rone_any (op : Int) (v : Value) (vals : List Nat) (w : World) (h : Sl fenc1 w v vals) (hne : vals ≠ []) (hl : vals.length ≤ 1000000) :
    Calls Tryd.prog 54 #[.int .i64 op, v] w fun e w' => ∃ x, e = .returned (.float .f64 x) ∧ canon x = canon (oneF op vals) ∧ ∃ n, w' = w.drewN n := by
  have HSUM := Lib.hid (fun w' (h : Sl fenc1 w' v vals) => rfsum_any v vals w' h)
  have HSL := Lib.hid h
  obtain ⟨a, cap, rfl, hlen, hc⟩ := h.floats
  have HLE := Lib.hid (show ∀ most, Calls Tryd.prog 99 #[.slice a vals.length cap, .bool most] w fun e w' => e = .returned (.float .f64 (least most vals)) ∧ w = w' by
    intro most
    cases vals with
    | nil => exact absurd rfl hne
    | cons x l => exact rleast_any a cap x l most w h)
  obtain ⟨N, hN⟩ : ∃ N, N = vals.length := ⟨_, rfl⟩
  have HN := Lib.hid hN
  rw [← hN] at HSL HSUM HLE hlen hl ⊢
  clear h hc hne hN
  by_cases h1 : op = 1
  · have HF := Lib.hid (show oneF op vals = fsum vals by unfold oneF; rw [if_pos h1])
    subst h1
    go_enter Tryd.func54, Tryd.ntmps54
    go_wp2_with fail
    refine (HSUM.out _ HSL.out).mono ?_
    rintro e w1 ⟨rfl, n, rfl⟩
    go_wp2_with fail
    go_ret
    exact ⟨_, rfl, by rw [HF.out], n, rfl⟩
  · have k1 : (op == 1) = false := by simpa using h1
    by_cases h2 : op = 2
    · have HF := Lib.hid (show oneF op vals = fenc N by unfold oneF; rw [if_neg h1, if_pos h2, HN.out])
      subst h2
      clear h1
      go_enter Tryd.func54, Tryd.ntmps54
      go_wp2_with fail
      go_ret
      exact ⟨_, rfl, by rw [HF.out]; rfl, 0, rfl⟩
    · have k2 : (op == 2) = false := by simpa using h2
      by_cases h3 : op = 3
      · have HF := Lib.hid (show oneF op vals = least false vals by unfold oneF; rw [if_neg h1, if_neg h2, if_pos h3])
        subst h3
        clear h1 h2
        go_enter Tryd.func54, Tryd.ntmps54
        go_wp2_with fail
        refine (HLE.out _).mono ?_
        rintro e w1 ⟨rfl, rfl⟩
        go_wp2_with fail
        go_ret
        exact ⟨_, rfl, by rw [HF.out], 0, rfl⟩
      · have k3 : (op == 3) = false := by simpa using h3
        by_cases h4 : op = 4
        · have HF := Lib.hid (show oneF op vals = least true vals by unfold oneF; rw [if_neg h1, if_neg h2, if_neg h3, if_pos h4])
          subst h4
          clear h1 h2 h3
          go_enter Tryd.func54, Tryd.ntmps54
          go_wp2_with fail
          refine (HLE.out _).mono ?_
          rintro e w1 ⟨rfl, rfl⟩
          go_wp2_with fail
          go_ret
          exact ⟨_, rfl, by rw [HF.out], 0, rfl⟩
        · have k4 : (op == 4) = false := by simpa using h4
          by_cases h5 : op = 5
          · have HF := Lib.hid (show oneF op vals = cop .quo (fsum vals) (fenc N) by unfold oneF; rw [if_neg h1, if_neg h2, if_neg h3, if_neg h4, if_pos h5, HN.out])
            subst h5
            clear h1 h2 h3 h4
            go_enter Tryd.func54, Tryd.ntmps54
            go_wp2_with fail
            refine (HSUM.out _ HSL.out).mono ?_
            rintro e w1 ⟨rfl, n, rfl⟩
            go_wp2_with fail
            go_ret
            exact ⟨_, rfl, by rw [HF.out, canon_cop]; exact canon_fop _ _ _ _, _, rfl⟩
          · have k5 : (op == 5) = false := by simpa using h5
            have HF := Lib.hid (show oneF op vals = F1 by unfold oneF; rw [if_neg h1, if_neg h2, if_neg h3, if_neg h4, if_neg h5])
            clear h1 h2 h3 h4 h5
            go_enter Tryd.func54, Tryd.ntmps54
            go_wp2_with fail
            go_ret
            exact ⟨_, rfl, by rw [HF.out]; rfl, 0, rfl⟩
end Go.Proofs.YtogjcaakfnfapaaDoor
namespace Go.Proofs.YtogjcaakfnfapaaDoor
open Go Go.RowKit Go.Maps
open Go.ChangeMaps (setBlock heap_setBlock_same)
set_option linter.unusedVariables false
set_option linter.unusedSimpArgs false
set_option maxRecDepth 100000
/-- An element, as it lies. -/
def holdV (v : Value) : Option (DataW Value × List MemPlace) := some (.held v, [])
def kl (s : ByteArray) : Lit := .string s.data.toList
theorem kl_inj {s t : ByteArray} (h : kl s = kl t) : s = t := by
  unfold kl at h
  injection h with h
  exact ByteArray.ext (Array.toList_inj.1 h)
theorem kl_key (s : ByteArray) : WideAt.IsKeyLit (kl s) := by unfold kl; trivial
theorem str_keyed : Keyed Tryd.prog 9 := string_keyed Tryd.underlying9
theorem key_of {s : ByteArray} (h : s.size ≤ maxLen) : keyOf Tryd.prog 9 (.string s) = some (kl s) := Go.WideMaps.keyOf_string_mk Tryd.underlying9 h
def upd {β : Type} (f : ByteArray → β) (s : ByteArray) (b : β) : ByteArray → β := fun t => if t.toList = s.toList then b else f t
theorem ba_ext {s t : ByteArray} (h : s.toList = t.toList) : s = t := by
  have e : s.data.toList = t.data.toList := by simpa [ByteArray.toList_eq] using h
  exact ByteArray.ext (Array.toList_inj.1 e)
theorem upd_same {β : Type} (f : ByteArray → β) (s : ByteArray) (b : β) : upd f s b s = b := by simp [upd]
theorem upd_other {β : Type} (f : ByteArray → β) {s t : ByteArray} (b : β) (h : t ≠ s) : upd f s b t = f t := by
  unfold upd
  rw [if_neg (fun e => h (ba_ext e))]
/-- Block b is a map keyed by strings, of at most n entries: h: what is there; V: what lies at a key (z where there is nothing). -/
def MapV (w : World) (b n : Nat) (h : ByteArray → Bool) (V : ByteArray → Value) (z : Value) : Prop :=
  ∃ D : DataW Value, w.ownsMap Tryd.prog 9 holdV b n D ∧ (∀ s, has D (kl s) = h s) ∧ ∀ s, D.atKey (kl s) (.held z) = .held (V s)
section
variable {w w' : World} {b n : Nat} {h : ByteArray → Bool} {V : ByteArray → Value} {z : Value}
theorem MapV.made (w : World) (z : Value) : MapV (w.alloc (.map #[] 0)) w.heap.size 0 (fun _ => false) (fun _ => z) z :=
  ⟨.map [], World.ownsMap_made _ _ _ _, fun _ => rfl, fun _ => rfl⟩
theorem MapV.mono (H : MapV w b n h V z) {n' : Nat} (hn : n ≤ n') : MapV w b n' h V z := by
  obtain ⟨D, h1, h2, h3⟩ := H
  exact ⟨D, h1.mono hn, h2, h3⟩
theorem MapV.lt (H : MapV w b n h V z) : b < w.heap.size := by obtain ⟨D, h1, h2, h3⟩ := H; exact h1.lt
theorem MapV.kept {row : Option Nat} (H : MapV w b n h V z) (hg : w.grownBy w' row) (hne : some b ≠ row) : MapV w' b n h V z := by
  obtain ⟨D, h1, h2, h3⟩ := H
  exact ⟨D, h1.kept hg hne, h2, h3⟩
theorem MapV.below {B : Nat} (H : MapV w b n h V z) (hb : Below B w w') (hB : w.heap.size ≤ B) : MapV w' b n h V z :=
  H.kept (row := none) ⟨hb.os, hb.tape, hb.output, hb.size, fun i hi _ => hb.block i (Nat.lt_of_lt_of_le hi hB)⟩ (by simp)
/-- The map's block is no block of cells. -/
theorem MapV.notCells (H : MapV w b n h V z) {cs : Array Value} {t : TypeId} {c : Nat × Nat} {g : Nat} (hg : w.heap[g]? = some (.cells cs t c)) : g ≠ b := by
  rintro rfl
  obtain ⟨D, ⟨es, clock, hb, _⟩, _⟩ := H
  rw [hb] at hg
  cases hg
theorem MapV.look (H : MapV w b n h V z) {t e : TypeId} (ht : Tryd.prog.underlying t = some (.map 9 e)) (hz : (zeroValue e).run Tryd.prog w = .ok z w) {s : ByteArray} (hs : s.size ≤ maxLen) :
    (Instr.lookup t (.map (some b)) (.string s) false).run Tryd.prog w = .ok (V s) w := by
  obtain ⟨D, h1, h2, h3⟩ := H
  obtain ⟨v, ps, hr, hv⟩ := h1.lookup str_keyed ht hz (zd := .held z) (zp := []) rfl (key_of hs)
  rw [h3 s] at hv
  simp only [holdV] at hv
  injection hv with hv
  injection hv with hv _
  injection hv with hv
  rw [hr, hv]
theorem MapV.lookOk (H : MapV w b n h V z) {t e : TypeId} (ht : Tryd.prog.underlying t = some (.map 9 e)) (hz : (zeroValue e).run Tryd.prog w = .ok z w) {s : ByteArray} (hs : s.size ≤ maxLen) :
    (Instr.lookup t (.map (some b)) (.string s) true).run Tryd.prog w = .ok (.tuple #[V s, .bool (h s)]) w := by
  obtain ⟨D, h1, h2, h3⟩ := H
  obtain ⟨v, ps, hr, hv⟩ := h1.look_ok str_keyed ht hz (zd := .held z) (zp := []) rfl (key_of hs)
  rw [h3 s] at hv
  simp only [holdV] at hv
  injection hv with hv
  injection hv with hv _
  injection hv with hv
  rw [hr, hv, h2]
theorem MapV.put (H : MapV w b n h V z) {t e : TypeId} (ht : Tryd.prog.underlying t = some (.map 9 e)) (hn : n < maxLen) {s : ByteArray} (hs : s.size ≤ maxLen) (v : Value) :
    ∃ w', (Instr.mapUpdate t (.map (some b)) (.string s) v).run Tryd.prog w = .ok () w' ∧ MapV w' b (n + 1) (upd h s true) (upd V s v) z ∧ w.grownBy w' (some b) := by
  obtain ⟨D, h1, h2, h3⟩ := H
  obtain ⟨w', hr, h4, h5⟩ := h1.update str_keyed ht hn (val := v) (d := .held v) (ps := []) (key_of hs) rfl
  refine ⟨w', hr, ⟨_, h4, fun t => ?_, fun t => ?_⟩, h5⟩
  · by_cases e : t = s
    · subst e
      rw [upd_same, has_put_same h1.isMap (kl_key _)]
    · rw [upd_other _ _ e, has_put_other (fun q => e (kl_inj q)), h2]
  · by_cases e : t = s
    · subst e
      rw [upd_same, atKey_put_same h1.isMap (kl_key _)]
    · rw [upd_other _ _ e, atKey_put_other (fun q => e (kl_inj q)), h3]
end
/-- The operations, by their runs. -/
theorem wpList_lookup_of {P : Program} (w : World) {ops : Array Oper} {rest : List Oper} {o : Oper} {a : Act} {Q : Exit → Act → World → Prop}
    (hg : o.guard = none) (m x : Operand) (t : TypeId) (c : Bool) (hop : o.op = Op.lookup t m x c) (mv key v : Value) (hm : a.eval m = mv) (hx : a.eval x = key) (hrun : (Instr.lookup t mv key c).run P w = .ok v w)
    (hK : wpList P ops Q rest (a.put o.dst v) w) : wpList P ops Q (o :: rest) a w := by
  refine wpList_plain hg fun K' hK' => ?_
  unfold Oper.wp
  simp [execOp, hop, hm, hx, hrun, Result.andThen]
  exact hK' _ _ hK
theorem wpList_mapUpdate_of {P : Program} (w : World) {ops : Array Oper} {rest : List Oper} {o : Oper} {a : Act} {Q : Exit → Act → World → Prop}
    (hg : o.guard = none) (m x u : Operand) (t : TypeId) (hop : o.op = Op.mapUpdate t m x u) (mv key v : Value) (hm : a.eval m = mv) (hx : a.eval x = key) (hu : a.eval u = v) {R : World → Prop} (hrun : ∃ w', (Instr.mapUpdate t mv key v).run P w = .ok () w' ∧ R w')
    (hK : ∀ w', R w' → wpList P ops Q rest (a.put o.dst undef) w') : wpList P ops Q (o :: rest) a w := by
  refine wpList_plain hg fun K' hK' => ?_
  obtain ⟨w', hr, h1⟩ := hrun
  unfold Oper.wp
  simp [execOp, hop, hm, hx, hu, hr, Result.andThen]
  exact hK' _ _ (hK _ h1)
/-- A map of rows of points: f s: the points at s. -/
structure GMap (w : World) (base b n : Nat) (f : ByteArray → List ZPt) (V : ByteArray → Value) : Prop where
  m : MapV w b n (fun s => !(f s).isEmpty) V (.slice none 0 0)
  hb : b < base
  r : ∀ s, w.ownsRow base 42 2 (V s) (f s).length ((f s).flatMap zenc)
  ap : ∀ s t, s ≠ t → (V s).ownBlock = none ∨ (V s).ownBlock ≠ (V t).ownBlock
section
variable {w w' : World} {base b n : Nat} {f : ByteArray → List ZPt} {V : ByteArray → Value}
theorem GMap.made (w : World) : GMap (w.alloc (.map #[] 0)) (w.heap.size + 1) w.heap.size 0 (fun _ => []) (fun _ => .slice none 0 0) :=
  ⟨MapV.made w _, Nat.lt_succ_self _, fun s => World.ownsRow_nil _ _ _ _, fun s t _ => .inl rfl⟩
theorem GMap.kept {row : Option Nat} (G : GMap w base b n f V) (hg : w.grownBy w' row) (hne : some b ≠ row) (hr : ∀ s, (V s).ownBlock = none ∨ (V s).ownBlock ≠ row) : GMap w' base b n f V :=
  ⟨G.m.kept hg hne, G.hb, fun s => (G.r s).kept hg (hr s), G.ap⟩
theorem GMap.below {B : Nat} (G : GMap w base b n f V) (hb : Below B w w') (hB : w.heap.size ≤ B) : GMap w' base b n f V :=
  G.kept (row := none) ⟨hb.os, hb.tape, hb.output, hb.size, fun i hi _ => hb.block i (Nat.lt_of_lt_of_le hi hB)⟩ (by simp) (fun s => by cases (V s).ownBlock <;> simp)
/-- A row of another type that grows. -/
theorem GMap.beside (G : GMap w base b n f V) {e : TypeId} {b2 m sz : Nat} {u : Value} {xs : List Value} (hu : w.ownsRow b2 e sz u m xs) (he : e ≠ 42) (hg : w.grownBy w' u.ownBlock) : GMap w' base b n f V := by
  refine G.kept hg (fun q => ?_) (fun s => ?_)
  · rcases hu.2 with ⟨rfl, -⟩ | ⟨k, cap, cur, rfl, -, hk, -⟩
    · cases q
    · injection q with q
      exact G.m.notCells hk q.symm
  · rcases (G.r s).2 with ⟨hv, -⟩ | ⟨k, cap, cur, hv, -, hk, -⟩
    · rw [hv]; exact .inl rfl
    · refine .inr (fun q => ?_)
      rcases hu.2 with ⟨rfl, -⟩ | ⟨k2, cap2, cur2, rfl, -, hk2, -⟩
      · rw [hv] at q; cases q
      · rw [hv] at q
        injection q with q
        simp only at q
        subst q
        rw [hk] at hk2
        injection hk2 with hk2
        injection hk2 with _ h2 _
        exact he h2.symm
/-- The store of a longer row at a key. -/
theorem GMap.put (G : GMap w base b n f V) {w1 : World} {s : ByteArray} (hs : s.size ≤ maxLen) (hn : n < maxLen) {v' : Value} {zs : List ZPt} (hne : zs ≠ []) (hg : w.grownBy w1 (V s).ownBlock)
    (ho : w1.ownsRow base 42 2 v' zs.length (zs.flatMap zenc)) (hat : v'.ownBlock = (V s).ownBlock ∨ ∃ g, v'.ownBlock = some g ∧ w.heap.size ≤ g) :
    ∃ w2, (Instr.mapUpdate 70 (.map (some b)) (.string s) v').run Tryd.prog w1 = .ok () w2 ∧ (GMap w2 base b (n + 1) (upd f s zs) (upd V s v') ∧ w1.grownBy w2 (some b)) := by
  have hbr : some b ≠ (V s).ownBlock := fun q => by
    have := ((G.r s).lt b q.symm).1
    have := G.hb
    omega
  have hm1 := G.m.kept hg hbr
  obtain ⟨w2, hr, h1, h2⟩ := hm1.put Tryd.underlying70 hn hs v'
  have keep2 : ∀ {u : Value} {m : Nat} {xs : List Value}, w1.ownsRow base 42 2 u m xs → w2.ownsRow base 42 2 u m xs := fun {u m xs} hu => by
    refine hu.kept h2 ?_
    cases hq : u.ownBlock with
    | none => exact .inl rfl
    | some g =>
      refine .inr (fun q => ?_)
      injection q with q
      have := (hu.lt g hq).1
      have := G.hb
      omega
  refine ⟨w2, hr, ⟨⟨?_, G.hb, fun t => ?_, fun t u htu => ?_⟩, h2⟩⟩
  · obtain ⟨D, k1, k2, k3⟩ := h1
    refine ⟨D, k1, fun t => ?_, k3⟩
    rw [k2 t]
    by_cases e : t = s
    · subst e; simp [upd_same, hne]
    · simp only [upd_other _ _ e]
  · by_cases e : t = s
    · subst e; rw [upd_same, upd_same]; exact keep2 ho
    · rw [upd_other _ _ e, upd_other _ _ e]
      exact keep2 ((G.r t).kept hg (G.ap t s e))
  · have old : ∀ t, t ≠ s → (V t).ownBlock = none ∨ (V t).ownBlock ≠ v'.ownBlock := fun t ht => by
      rcases hat with q | ⟨g, q, hge⟩
      · rw [q]; exact G.ap t s ht
      · cases hq : (V t).ownBlock with
        | none => exact .inl rfl
        | some k =>
          refine .inr (fun e => ?_)
          rw [q] at e
          injection e with e
          have := ((G.r t).lt k hq).2
          omega
    by_cases e : t = s
    · subst e
      rw [upd_same, upd_other _ _ (Ne.symm htu)]
      rcases old u (Ne.symm htu) with q | q
      · cases hq : v'.ownBlock with
        | none => exact .inl rfl
        | some k => exact .inr (by rw [q]; simp)
      · exact .inr (Ne.symm q)
    · rw [upd_other _ _ e]
      by_cases e2 : u = s
      · subst e2; rw [upd_same]; exact old t e
      · rw [upd_other _ _ e2]; exact G.ap t u htu
end
end Go.Proofs.YtogjcaakfnfapaaDoor
namespace Go.Proofs.YtogjcaakfnfapaaDoor
open Go Go.RowKit
set_option linter.unusedVariables false
set_option linter.unusedSimpArgs false
set_option maxRecDepth 100000
def gnameS : ByteArray := ⟨#[95, 95, 110, 97, 109, 101, 95, 95]⟩
def groupL (how : Int) (names : List ByteArray) (l : List Lb) : List Lb := if how = 1 then pickL names true l else if how = 2 then pickL [gnameS] false (pickL names false l) else []
theorem pick_two (a : ByteArray) (names : List ByteArray) (l : List Lb) : pickL (a :: names) false l = pickL [a] false (pickL names false l) := by
  unfold pickL
  rw [List.filter_filter]
  congr 1
  funext x
  unfold hasL
  simp only [List.any_cons, List.any_nil, Bool.or_false]
  cases (a.toList == x.1.toList) <;> cases (names.any fun n => n.toList == x.1.toList) <;> rfl
theorem one_strs (l : List ByteArray) : ∀ u ∈ l.flatMap senc1, u.oneCell' = true := by
  intro u hu
  obtain ⟨m, _, hu⟩ := List.mem_flatMap.1 hu
  simp [senc1] at hu
  subst hu; rfl
theorem senc1_pos (x : ByteArray) : 0 < (senc1 x).length := Nat.zero_lt_succ _
theorem gsl_one (w : World) (s : ByteArray) : Sl senc1 (w.alloc (.cells #[.string s] 9)) (.slice (some ⟨w.heap.size, 0, none⟩) 1 1) [s] := Sl.lit (heap_new _ _) rfl rfl (by omega)
theorem Tryd.infoStr' : (Tryd.prog.info? 9).map (fun i => (i.zero, i.size, i.bytes)) = some (some (.string ⟨#[]⟩), 1, 16) := by kernel_rfl
set_option maxHeartbeats 4000000 in
theorem group_any (v vn : Value) (how : Int) (l : List Lb) (names : List ByteArray) (w : World) (h : Sl lenc w v l) (hn : Sl senc1 w vn names) (hl : l.length ≤ 100000) :
    Calls Tryd.prog 50 #[v, .agg #[.int .i64 how, vn]] w fun e w' => ∃ v', e = .returned v' ∧ Sl lenc w' v' (groupL how names l) ∧ Below w.heap.size w w' := by
  obtain ⟨a, cap, rfl, hlen, -⟩ := hn.strings
  have hb0 : Below w.heap.size w (w.alloc (.cells #[.int .i64 how, .slice a names.length cap] 24)) := (Below.refl _ _).alloc (Nat.le_refl _) _
  have HSL := Lib.hid (h.below hb0 (Nat.le_refl _))
  have HN := Lib.hid (hn.below hb0 (Nat.le_refl _))
  have HB0 := Lib.hid hb0
  clear h hn hb0
  by_cases h1 : how = 1
  · have h1b : (how == 1) = true := by simpa using h1
    have HF := Lib.hid (show groupL how names l = pickL names true l by rw [groupL, if_pos h1])
    have HK := Lib.hid (keep_any v (.slice a names.length cap) l names _ HSL.out HN.out (by omega))
    clear h1
    go_enter Tryd.func50, Tryd.ntmps50
    go_wp2_with fail
    refine HK.out.mono ?_
    rintro e w1 ⟨v1, rfl, hs1, hb1⟩
    have HS1 := Lib.hid hs1
    have HB1 := Lib.hid (HB0.out.trans (hb1.mono (by simp)))
    clear hs1 hb1
    go_wp2_with fail
    go_ret
    exact ⟨_, rfl, by rw [HF.out]; exact HS1.out, HB1.out⟩
  · have h1b : (how == 1) = false := by simpa using h1
    by_cases h2 : how = 2
    · have h2b : (how == 2) = true := by simpa using h2
      have HF := Lib.hid (show groupL how names l = pickL [gnameS] false (pickL names false l) by rw [groupL, if_neg h1, if_pos h2])
      have HK := Lib.hid (drop_any v (.slice a names.length cap) l names _ HSL.out HN.out (by omega))
      clear h1 h2
      go_enter Tryd.func50, Tryd.ntmps50
      go_wp2_with fail
      refine HK.out.mono ?_
      rintro e w1 ⟨v1, rfl, hs1, hb1⟩
      have HB1 := Lib.hid (HB0.out.trans (hb1.mono (by simp)))
      have hb2 : Below w1.heap.size w1 (w1.alloc (.cells #[.string gnameS] 9)) := (Below.refl _ _).alloc (Nat.le_refl _) _
      have HK2 := Lib.hid (drop_any v1 (.slice (some ⟨w1.heap.size, 0, none⟩) 1 1) (pickL names false l) [gnameS] _ (hs1.below hb2 (Nat.le_refl _)) (gsl_one w1 gnameS) (by have := pick_len names false l; omega))
      have HB2 := Lib.hid (HB1.out.trans (hb2.mono HB1.out.size))
      clear hs1 hb1 hb2
      go_wp2_with fail
      refine HK2.out.mono ?_
      rintro e w2 ⟨v2, rfl, hs2, hb2⟩
      have HS2 := Lib.hid hs2
      have HB3 := Lib.hid (HB2.out.trans (hb2.mono HB2.out.size))
      clear hs2 hb2
      go_wp2_with fail
      go_ret
      exact ⟨_, rfl, by rw [HF.out]; exact HS2.out, HB3.out⟩
    · have h2b : (how == 2) = false := by simpa using h2
      have HF := Lib.hid (show groupL how names l = [] by rw [groupL, if_neg h1, if_neg h2])
      clear h1 h2
      go_enter Tryd.func50, Tryd.ntmps50
      go_wp2_with fail
      go_ret
      exact ⟨_, rfl, by rw [HF.out]; exact Sl.nil _, HB0.out⟩
set_option maxHeartbeats 4000000 in
theorem rgroup_any (v vn : Value) (how : Int) (l : List Lb) (names : List ByteArray) (w : World) (h : Sl lenc w v l) (hn : Sl senc1 w vn names) (hl : l.length ≤ 100000) (hnl : names.length ≤ 100000) :
    Calls Tryd.prog 19 #[v, .agg #[.int .i64 how, vn]] w fun e w' => ∃ v', e = .returned v' ∧ Sl lenc w' v' (groupL how names l) ∧ Below w.heap.size w w' := by
  obtain ⟨i0, hi, hz0, hz1, hz2⟩ := info_parts Tryd.infoStr'
  obtain ⟨a, cap, rfl, hlen, -⟩ := hn.strings
  obtain ⟨-, n1, s1⟩ := hn.src senc1_pos
  have N1 := Lib.hid n1
  have S1 := Lib.hid s1
  have hb0 : Below w.heap.size w (w.alloc (.cells #[.int .i64 how, .slice a names.length cap] 24)) := (Below.refl _ _).alloc (Nat.le_refl _) _
  have HSL := Lib.hid (h.below hb0 (Nat.le_refl _))
  have HSW := Lib.hid h
  have HN := Lib.hid (hn.below hb0 (Nat.le_refl _))
  have HB0 := Lib.hid hb0
  clear h hn hb0 n1 s1
  by_cases h1 : how = 1
  · have h1b : (how == 1) = true := by simpa using h1
    have HF := Lib.hid (show groupL how names l = pickL names true l by rw [groupL, if_pos h1])
    have HK := Lib.hid (rkeep_any v (.slice a names.length cap) l names _ HSL.out HN.out (by omega))
    clear h1
    go_enter Tryd.func19, Tryd.ntmps19
    go_wp2_with fail
    refine HK.out.mono ?_
    rintro e w1 ⟨v1, rfl, hs1, hb1⟩
    have HS1 := Lib.hid hs1
    have HB1 := Lib.hid (HB0.out.trans (hb1.mono (by simp)))
    clear hs1 hb1
    go_wp2_with fail
    go_ret
    exact ⟨_, rfl, by rw [HF.out]; exact HS1.out, HB1.out⟩
  · have h1b : (how == 1) = false := by simpa using h1
    by_cases h2 : how = 2
    · have h2b : (how == 2) = true := by simpa using h2
      have HF := Lib.hid (show groupL how names l = pickL (gnameS :: names) false l by rw [groupL, if_neg h1, if_pos h2]; exact (pick_two gnameS names l).symm)
      clear h1 h2
      have hown0 : ((w.alloc (.cells #[.int .i64 how, .slice a names.length cap] 24)).alloc (.cells #[.string gnameS] 9)).ownsRow (w.heap.size + 1) 9 1 (.slice (some ⟨w.heap.size + 1, 0, none⟩) 1 1) 1 [.string gnameS] := by
        have := World.ownsRow_lit (base := w.heap.size + 1) (e := 9) (size := 1) (w.alloc (.cells #[.int .i64 how, .slice a names.length cap] 24)) #[.string gnameS] 1 (by simp) (by unfold maxLen; omega) rfl
        simpa using this
      have hbA : Below w.heap.size w ((w.alloc (.cells #[.int .i64 how, .slice a names.length cap] 24)).alloc (.cells #[.string gnameS] 9)) := HB0.out.alloc (by simp) _
      have HBA := Lib.hid hbA
      have HOA := Lib.hid hown0
      clear hbA
      unfold gnameS at hown0
      go_enter Tryd.func19, Tryd.ntmps19
      go_wp2_with (at_builtin; refine wpList_append_rd rfl _ _ 22 rfl (w.heap.size + 1) 9 i0 (.string ⟨#[]⟩) 1 16 Tryd.underlying22 hi hz0 hz1 hz2 rfl (by decide) _ 1 _ rfl hown0 a names.length cap (names.flatMap senc1) rfl N1.out (flat_length senc1_len names) (fun ad e j u hu => cell_below HBA.out (Nat.le_refl _) (S1.out ad e j u hu)) (one_strs names) (by unfold maxLen; omega) (by omega) (by simp) ?_)
      intro v1 w1 hown1 hg1
      have hb1 := HBA.out.grown hg1 (by simp; omega) (fun j hj => by have := (HOA.out.lt j hj).1; omega)
      have hs1 : Sl senc1 w1 v1 (gnameS :: names) := Sl.own senc1_len (by decide) (e := 9) (n := 1 + names.length) (base := w.heap.size + 1) hown1
      have HK := Lib.hid (rdrop_any v v1 l (gnameS :: names) w1 (HSW.out.below hb1 (Nat.le_refl _)) hs1 (by omega))
      have HB1 := Lib.hid hb1
      clear hown0 hown1 hg1 hb1 hs1
      go_wp2_with fail
      refine HK.out.mono ?_
      rintro e w2 ⟨v2, rfl, hs2, hb2⟩
      have HS2 := Lib.hid hs2
      have HB3 := Lib.hid (HB1.out.trans (hb2.mono HB1.out.size))
      clear hs2 hb2
      go_wp2_with fail
      go_ret
      exact ⟨_, rfl, by rw [HF.out]; exact HS2.out, HB3.out⟩
    · have h2b : (how == 2) = false := by simpa using h2
      have HF := Lib.hid (show groupL how names l = [] by rw [groupL, if_neg h1, if_neg h2])
      clear h1 h2
      go_enter Tryd.func19, Tryd.ntmps19
      go_wp2_with fail
      go_ret
      exact ⟨_, rfl, by rw [HF.out]; exact Sl.nil _, HB0.out⟩
end Go.Proofs.YtogjcaakfnfapaaDoor
