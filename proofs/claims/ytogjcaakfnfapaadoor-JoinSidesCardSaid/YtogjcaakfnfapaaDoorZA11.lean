/- A group's chosen points, the document's walk. (Several texts in one file, by merge.py.) -/
import Derived.Test.YtogjcaakfnfapaaDoorZA7
namespace Go.Proofs.YtogjcaakfnfapaaDoor
open Go Go.RowKit
set_option linter.unusedVariables false
set_option linter.unusedSimpArgs false
set_option maxRecDepth 100000
theorem insF_at {α : Type} (lt : α → α → Bool) (x : α) : ∀ (l : List α) (m : Nat), m ≤ l.length → (∀ i (h : i < l.length), i < m → lt x l[i] = false) → (∀ h : m < l.length, lt x l[m] = true) → insF lt x l = l.take m ++ x :: l.drop m
  | [], m, h, _, _ => by simp [insF]
  | y :: r, 0, _, _, h2 => by
    have := h2 (by simp)
    simp only [List.getElem_cons_zero] at this
    unfold insF
    rw [if_pos this]; rfl
  | y :: r, m + 1, h, h1, h2 => by
    have h0 := h1 0 (by simp) (by omega)
    simp only [List.getElem_cons_zero] at h0
    unfold insF
    rw [if_neg (by rw [h0]; decide), insF_at lt x r m (by simpa using h) (fun i hi him => h1 (i + 1) (by simpa using hi) (by omega)) (fun hm => h2 (by simpa using hm))]
    rfl
theorem stab_take {α : Type} (lt : α → α → Bool) (l : List α) (k : Nat) (h : k < l.length) : stabF lt (l.take (k + 1)) = insF lt l[k] (stabF lt (l.take k)) := by
  rw [List.take_succ_eq_append_getElem h, stab_snoc]
theorem S_keepQ {w3 w' : World} {p q : Addr} {x0 x1 : Value} (p0 : w3.cell? p = some x0) (p1 : w3.cell? q = some x1) (h : Below w3.heap.size w3 w') :
    Below w3.heap.size w3 w' ∧ w'.cell? p = some x0 ∧ w'.cell? q = some x1 := ⟨h, cell_below h (Nat.le_refl _) p0, cell_below h (Nat.le_refl _) p1⟩
theorem keep_lit {w' wA : World} {X q n c : Nat} {cs : Array Value} {t : TypeId} {fr : Nat × Nat} (hg : w'.grownBy wA (Value.ownBlock (.slice (some ⟨X, 0, none⟩) n c))) (hne : q ≠ X) (hc : w'.heap[q]? = some (.cells cs t fr)) :
    ∀ j u, cs.toList[j]? = some u → wA.cell? ((⟨q, 0, none⟩ : Addr).add j) = some u := fun j u hu => hg.cell (World.news_of_block hc j u hu) (by
      rw [Addr.add_lit]
      simp only [Value.ownBlock]
      intro e; injection e with e; exact hne e)
set_option maxHeartbeats 8000000 in
theorem rchosen_go (op : Int) (k : Nat) (v : Value) (zs : List ZPt) (w : World) (h : Sl zenc w v zs) (hne : zs ≠ []) (hz : ∀ z ∈ zs, Sl lenc w z.1 z.2.1 ∧ FB z.2.2) (hl : zs.length ≤ 100000) :
    Calls Tryd.prog 53 #[.int .i64 op, .float .f64 k, v] w fun e w' => ∃ g n c, e = .returned (.slice (some ⟨g, 0, none⟩) n c) ∧ Sl zenc w' (.slice (some ⟨g, 0, none⟩) n c) ((stabF (aheadZ op) zs).take (cntN k zs.length)) ∧ Below w.heap.size w w' := by
  obtain ⟨i0, hi, hz0, hz1, hz2⟩ := info_parts Tryd.infoPt
  obtain ⟨a, cap, rfl, hlen, -, hc⟩ := h.split zenc_len
  have HC := Lib.hid hc
  have HZ := Lib.hid hz
  have HNE := Lib.hid hne
  clear hc h hz hne
  obtain ⟨N, hN⟩ : ∃ N, N = zs.length := ⟨_, rfl⟩
  rw [← hN] at hlen hl ⊢
  have HN := Lib.hid hN
  clear hN
  go_enter Tryd.func53, Tryd.ntmps53
  go_wp2_with fail
  go_loopw [7, 8] (fun v i wr => ∃ (j : Nat), j ≤ N ∧ i = .int .i64 j ∧ wr.ownsRow w.heap.size 42 2 v j ((stabF (aheadZ op) (zs.take j)).flatMap zenc) ∧ Hid (Below w.heap.size w wr)) (fun _ i _ => N - (intOf i).toNat)
  case atStart => exact ⟨0, Nat.zero_le _, rfl, World.ownsRow_nil _ _ _ _, Below.refl _ _⟩
  case round =>
    obtain ⟨j, hj, rfl, hown, HB⟩ := hrel
    have hBz := HB.out.size
    have h00 : (0 : Int) ≤ (j : Int) := by omega
    obtain ⟨L, hL⟩ : ∃ L, L = stabF (aheadZ op) (zs.take j) := ⟨_, rfl⟩
    rw [← hL] at hown
    have hLl : L.length = j := by rw [hL, (stab_perm _ _).length_eq, List.length_take]; have := HN.out; omega
    have hLz : ∀ z ∈ L, z ∈ zs := fun z hzz => by rw [hL] at hzz; exact List.mem_of_mem_take ((stab_perm _ _).subset hzz)
    have hsL : Sl zenc wr u7 L := Sl.own zenc_len (by decide) hown
    obtain ⟨a4, c4, rfl, hlen4, -, hc4⟩ := hsL.split zenc_len
    rw [hLl] at hlen4 hown hsL ⊢
    have HO := Lib.hid hown
    have HC4 := Lib.hid hc4
    have HS4 := Lib.hid hsL
    have HLL := Lib.hid hLl
    have HLZ := Lib.hid hLz
    have HL := Lib.hid hL
    clear hown hc4 hsL hLl hLz hL
    by_cases hlt : j < N
    · have hltz : (j : Int) < (N : Int) := by omega
      obtain ⟨b, off, rfl, hd⟩ := HC.out j (by have := HN.out; omega)
      obtain ⟨z, hzj⟩ : ∃ z, z = zs[j]'(by have := HN.out; omega) := ⟨_, rfl⟩
      have hzm : z ∈ zs := by rw [hzj]; exact List.getElem_mem _
      rw [← hzj] at hd
      obtain ⟨hsz, hfb⟩ := HZ.out z hzm
      obtain ⟨lv, zl, zb⟩ := z
      obtain ⟨az, cz, hlv, -, -⟩ := id hsz
      simp only at hlv
      subst hlv
      obtain ⟨nz, hnz⟩ : ∃ n, n = zl.length := ⟨_, rfl⟩
      have p0 : wr.cell? ⟨b, off + j * 2, none⟩ = some (.slice az nz cz) := by have := cell_below HB.out (Nat.le_refl _) (hd 0 _ rfl); simpa [hnz] using this
      have p1 : wr.cell? ⟨b, off + j * 2 + 1, none⟩ = some (.float .f64 zb) := cell_below HB.out (Nat.le_refl _) (hd 1 _ rfl)
      rw [← hnz] at hzj
      have HZJ := Lib.hid hzj
      have HFB := Lib.hid hfb
      have HNZ := Lib.hid hnz
      clear hd hzj hzm hsz hfb hnz
      go_wp2_with fail
      go_loopw [9] (fun q wq => ∃ (m n : Nat), m ≤ j ∧ q = .int .i64 m ∧ Hid (∀ i (hi : i < L.length), i < m → aheadF op zb L[i].2.2 = false) ∧ wq = wr.drewN n) (fun q _ => j - (intOf q).toNat)
      case atStart => exact ⟨0, 0, Nat.zero_le _, rfl, (fun i _ hi => absurd hi (Nat.not_lt_zero _)), rfl⟩
      case round =>
        obtain ⟨m, n, hm, rfl, HV, rfl⟩ := hrel
        have hm0 : (0 : Int) ≤ (m : Int) := by omega
        -- IN
        by_cases hgo : ∃ hm : m < L.length, aheadF op zb L[m].2.2 = false
        · obtain ⟨hmL, hah⟩ := hgo
          have hmj : m < j := by have := HLL.out; omega
          have hmz : (m : Int) < (j : Int) := by omega
          have hmb : decide ((m : Int) < (j : Int)) = true := decide_eq_true hmz
          have hmb2 : decide (m < j) = true := decide_eq_true hmj
          obtain ⟨b4, off4, rfl, hcc⟩ := HC4.out m hmL
          have r0 : wr.cell? ⟨b4, off4 + m * 2 + 1, none⟩ = some (.float .f64 L[m].2.2) := hcc 1 _ rfl
          obtain ⟨yb, hyb⟩ : ∃ y, y = L[m].2.2 := ⟨_, rfl⟩
          have HAH := Lib.hid (fun w => rahead_any op zb yb w HFB.out (by rw [hyb]; exact (HZ.out _ (HLZ.out _ (List.getElem_mem hmL))).2))
          obtain ⟨r, hr⟩ : ∃ r, r = aheadF op zb yb := ⟨_, rfl⟩
          rw [← hr] at HAH
          rw [← hyb] at r0
          rw [hyb] at hr
          rw [hah] at hr
          subst hr
          have HAA := Lib.hid hah
          clear hcc hyb hah
          go_wp2_with fail
          go_quiet ((go_at_call 97; first | refine qs (HAH.out _) | refine quiet_same (HAH.out _)))
          go_wp2_with fail
          go_roundw
          case rel => exact ⟨m + 1, _, by omega, by go_num, (fun i hi him => by
            by_cases he : i = m
            · subst he; exact HAA.out
            · exact HV.out i hi (by omega)), by first | rfl | (simp only [World.drewN_drewN]; done) | exact World.drewN_drewN _ _ _⟩
          case measure => simp [intOf]; omega
        · have hins : insF (aheadZ op) (.slice az nz cz, zl, zb) L = L.take m ++ (.slice az nz cz, zl, zb) :: L.drop m :=
            insF_at _ _ L m (by have := HLL.out; omega) (fun i hi him => HV.out i hi him) (fun hm => by
              cases hq : aheadF op zb L[m].2.2 with
              | true => exact hq
              | false => exact absurd ⟨hm, hq⟩ hgo)
          have HIN := Lib.hid (show stabF (aheadZ op) (zs.take (j + 1)) = L.take m ++ (.slice az nz cz, zl, zb) :: L.drop m by
            rw [stab_take _ zs j (by have := HN.out; omega), ← HZJ.out, ← HL.out, hins])
          obtain ⟨a5, c5, E1, hs1⟩ := Sl.head Tryd.elemPts Tryd.sizePt zenc_len HS4.out (k := m) (by have := HLL.out; omega)
          obtain ⟨a6, c6, E2, hs2⟩ := Sl.tail Tryd.elemPts Tryd.sizePt zenc_len HS4.out (k := m) (by have := HLL.out; omega)
          obtain ⟨-, n5, s5⟩ := hs1.src zenc_pos
          obtain ⟨-, n6, s6⟩ := hs2.src zenc_pos
          rw [HLL.out] at E2 n6
          have N5 := Lib.hid n5
          have N6 := Lib.hid n6
          have S5 := Lib.hid s5
          have S6 := Lib.hid s6
          have ONE1 := Lib.hid (zenc_one (w := w) (zs := L.take m) fun z hzz => (HZ.out z (HLZ.out z (List.mem_of_mem_take hzz))).1)
          have ONE2 := Lib.hid (zenc_one (w := w) (zs := L.drop m) fun z hzz => (HZ.out z (HLZ.out z (List.mem_of_mem_drop hzz))).1)
          have FL1 := Lib.hid (show ((L.take m).flatMap zenc).length = m * 2 by rw [flat_length zenc_len, List.length_take, HLL.out, Nat.min_eq_left hm])
          have FL2 := Lib.hid (show ((L.drop m).flatMap zenc).length = (j - m) * 2 by rw [flat_length zenc_len, List.length_drop, HLL.out])
          clear hs1 hs2 n5 n6 s5 s6 hins
          have h01 : (m : Int) ≤ (j : Int) := by omega
          have h02 : (m : Int) ≤ (c4 : Int) := by omega
          by_cases hmL : m < L.length
          case' pos =>
            have hah : aheadF op zb L[m].2.2 = true := by
              cases hq : aheadF op zb L[m].2.2 with
              | true => rfl
              | false => exact absurd ⟨hmL, hq⟩ hgo
            have hmj : m < j := by have := HLL.out; omega
            have hmz : (m : Int) < (j : Int) := by omega
            have hmb : decide ((m : Int) < (j : Int)) = true := decide_eq_true hmz
            have hmb2 : decide (m < j) = true := decide_eq_true hmj
            obtain ⟨b4, off4, rfl, hcc⟩ := HC4.out m hmL
            have r0 : wr.cell? ⟨b4, off4 + m * 2 + 1, none⟩ = some (.float .f64 L[m].2.2) := hcc 1 _ rfl
            obtain ⟨yb, hyb⟩ : ∃ y, y = L[m].2.2 := ⟨_, rfl⟩
            have HAH := Lib.hid (fun w => rahead_any op zb yb w HFB.out (by rw [hyb]; exact (HZ.out _ (HLZ.out _ (List.getElem_mem hmL))).2))
            obtain ⟨r, hr⟩ : ∃ r, r = aheadF op zb yb := ⟨_, rfl⟩
            rw [← hr] at HAH
            rw [← hyb] at r0
            rw [hyb] at hr
            rw [hah] at hr
            subst hr
            clear hcc hyb hah hgo
            go_wp2_with fail
            go_quiet ((go_at_call 97; first | refine qs (HAH.out _) | refine quiet_same (HAH.out _)))
            go_wp2_with fail
          case' neg =>
            have hmz : ¬ (m : Int) < (j : Int) := by have := HLL.out; omega
            have hmb : decide ((m : Int) < (j : Int)) = false := decide_eq_false hmz
            have hmb2 : decide (m < j) = false := decide_eq_false (by omega)
            have HMJ := Lib.hid (show m = j by have := HLL.out; omega)
            clear hgo hmL
            go_wp2_with fail
            go_quiet (fail)
            go_wp2_with fail
          all_goals
            try rw [World.drewN_drewN]
            obtain ⟨w3, hw3⟩ : ∃ w3, w3 = wr.drewN (n + nq) := ⟨_, rfl⟩
            have q0 : w3.cell? ⟨b, off + j * 2, none⟩ = some (.slice az nz cz) := by rw [hw3]; exact p0
            have q1 : w3.cell? ⟨b, off + j * 2 + 1, none⟩ = some (.float .f64 zb) := by rw [hw3]; exact p1
            have hb03 : Below wr.heap.size wr w3 := by rw [hw3]; exact below_drewN (Below.refl _ _) _
            rw [← hw3]
            have hz3 : wr.heap.size ≤ w3.heap.size := hb03.size
            have HB03 := Lib.hid hb03
            clear hb03 hw3
            go_region_held3 (fun w' => Below w3.heap.size w3 w' ∧ w'.cell? ⟨b, off + j * 2, none⟩ = some (.slice az nz cz) ∧ w'.cell? ⟨b, off + j * 2 + 1, none⟩ = some (.float .f64 zb))
              (exact S_keepQ q0 q1 (by go_grown))
              (first
                | (refine step_append_rd rfl (.tmp 39) (.tmp 42) _ rfl w3.heap.size 42 i0 _ 2 32 Tryd.underlying26 hi hz0 hz1 hz2 rfl (by decide) (.slice (some ⟨_, 0, none⟩) 0 0) 0 [] rfl
                     ?_ a5 m c5 ((L.take m).flatMap zenc) rfl N5.out FL1.out ?_ ONE1.out ?_ ?_ ?_ ?_
                   (refine owns_lit ?_ ?_; (first | exact lit1 _ _ | exact lit2 _ _ _ | exact lit3 _ _ _); (simp <;> omega))
                   (exact fun ad e j u hu => cell_below (B := w3.heap.size) (by go_grown) (Nat.le_refl _) (cell_below HB03.out (Nat.le_refl _) (S5.out ad e j u hu)))
                   (unfold maxLen; omega)
                   (omega)
                   (simp <;> omega)
                   intro v1 wA hown1 hg1
                   have hbA : Below w3.heap.size w3 wA := Below.grown (by go_grown) hg1 (by simp <;> omega) (fun j hj => by simp [Value.ownBlock] at hj; omega)
                   have hsA := hbA.size)
                | (refine step_append_rd rfl (.tmp 43) (.tmp 48) _ rfl w3.heap.size 42 i0 _ 2 32 Tryd.underlying26 hi hz0 hz1 hz2 rfl (by decide) v1 m ((L.take m).flatMap zenc) rfl
                     ?_ (some _) 1 1 (zenc (.slice az nz cz, zl, zb)) rfl (fun e => by cases e) rfl ?_ ?_ ?_ ?_ ?_ ?_
                   (first | exact (by simpa using hown1) | exact World.ownsRow.alloc (by simpa using hown1) _)
                   (first
                     | exact fun ad e j u hu => by injection e with e; subst e; exact World.news_of_block (cs := #[.slice az nz cz, .float .f64 zb]) (lit1 wA _) j u hu
                     | exact fun ad e j u hu => by injection e with e; subst e; exact World.news_of_block (cs := #[.slice az nz cz, .float .f64 zb]) (heap_new wA _) j u hu
                     | exact fun ad e j u hu => by injection e with e; subst e; exact keep_lit (cs := #[.slice az nz cz, .float .f64 zb]) hg1 (by omega) (lit3 _ _ _) j u hu
                     | exact fun ad e j u hu => by injection e with e; subst e; exact keep_lit (cs := #[.slice az nz cz, .float .f64 zb]) hg1 (by omega) (lit2 _ _ _) j u hu)
                   (intro u hu; simp [zenc] at hu; rcases hu with rfl | rfl <;> rfl)
                   (unfold maxLen; omega)
                   (omega)
                   (first | exact hsA | (simp; omega))
                   intro v2 wB hown2 hg2
                   have hbB : Below w3.heap.size w3 wB := Below.grown (by go_grown) hg2 (by first | exact hsA | (simp; omega)) (fun j hj => (hown1.lt j hj).1)
                   have hsB := hbB.size))
          all_goals
            have HBB := Lib.hid hbB
            clear hown1 hg1 hg2 hbA hbB hsA
            go_wp2_with (at_builtin; refine wpList_append_rd rfl _ _ 26 rfl w3.heap.size 42 i0 _ 2 32 Tryd.underlying26 hi hz0 hz1 hz2 rfl (by decide) v2 (m + 1) ((L.take m).flatMap zenc ++ zenc (.slice az nz cz, zl, zb)) rfl hown2 a6 (j - m) c6 ((L.drop m).flatMap zenc) rfl N6.out FL2.out (fun ad e j u hu => cell_below HBB.out (Nat.le_refl _) (cell_below HB03.out (Nat.le_refl _) (S6.out ad e j u hu))) ONE2.out (by unfold maxLen; omega) (by omega) hsB ?_)
            intro v3 w9 hown3 hg3
            have hbC : Below w3.heap.size w3 w9 := Below.grown HBB.out hg3 hsB (fun j hj => (hown2.lt j hj).1)
            have HC9 := Lib.hid (HB.out.trans ((HB03.out.trans (hbC.mono hz3)).mono hBz))
            have HO3 := Lib.hid (ownsRow_low hown3 (Nat.le_trans hBz hz3))
            clear hown2 hown3 hg3 hbC hsB
            go_wp2_with fail
            go_roundw
            case rel =>
              refine ⟨j + 1, by omega, by go_num, ?_, HC9.out⟩
              rw [HIN.out, List.flatMap_append, List.flatMap_cons]
              have := HO3.out
              rw [show m + 1 + (j - m) = j + 1 by omega] at this
              exact this
            case measure => simp [intOf]; omega
    · have hltz : ¬ (j : Int) < (N : Int) := by omega
      obtain rfl : j = N := by omega
      rw [List.take_of_length_le (by have := HN.out; omega)] at HL
      have HBW := Lib.hid HB.out
      rcases HO.out.2 with ⟨-, h0⟩ | ⟨g, cap1, cur, e, -, -, hle, hcap, -, -⟩
      · exact absurd (List.eq_nil_of_length_eq_zero (by have := HN.out; omega)) HNE.out
      injection e with e1 e2 e3
      subst e1 e3
      unfold maxLen at hcap
      clear HC4 HO
      clear HB
      go_wp2_with fail
      obtain ⟨W, hW⟩ : ∃ W, W = wr := ⟨_, rfl⟩
      rw [← hW] at HS4 HBW ⊢
      clear hW
      go_loopw [11] (fun i wq => ∃ n : Nat, n ≤ j ∧ i = .int .i64 n ∧ Hid (∀ q, q < n → cntP k q = true) ∧ wq = W) (fun i _ => j - (intOf i).toNat)
      case atStart => exact ⟨0, Nat.zero_le _, rfl, (fun j h => absurd h (Nat.not_lt_zero _)), rfl⟩
      case round =>
        obtain ⟨n, hn, rfl, HJ, rfl⟩ := hrel
        have HS5 := Lib.hid (Sl.upto zenc_len HS4.out (k := n) (by have := HLL.out; omega))
        by_cases hlt : n < j
        · have hltz : (n : Int) < (j : Int) := by omega
          go_wp2_with fail
          · have hc : cntP k n = true := by
              show (_ || _) = true
              rw [Bool.or_eq_true]
              assumption
            have HCC := Lib.hid hc
            clear hc
            go_roundw
            case rel => exact ⟨n + 1, by omega, by go_num, (fun q hq => by
              by_cases e : q = n
              · subst e; exact HCC.out
              · exact HJ.out q (by omega)), by trivial⟩
            case measure => simp [intOf]; omega
          · have hc : cntP k n = false := by
              show (_ || _) = false
              rw [Bool.or_eq_false_iff]
              assumption
            have HF := Lib.hid (cntN_of (len := j) HJ.out hn (fun _ => hc))
            clear hc
            go_ret
            exact ⟨_, _, _, rfl, by rw [HF.out, ← HL.out]; exact HS5.out, HBW.out⟩
        · obtain rfl : n = j := by omega
          have hltz : ¬ (n : Int) < (n : Int) := by omega
          have HF := Lib.hid (cntN_of (len := n) HJ.out hn (fun h => absurd h (by omega)))
          go_wp2_with fail
          go_ret
          exact ⟨_, _, _, rfl, by rw [HF.out, ← HL.out]; exact HS5.out, HBW.out⟩
end Go.Proofs.YtogjcaakfnfapaaDoor
