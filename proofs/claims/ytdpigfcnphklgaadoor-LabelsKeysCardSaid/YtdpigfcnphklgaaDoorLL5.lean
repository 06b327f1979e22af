/- LabelsKeys: the walk. -/
import Derived.Test.YtdpigfcnphklgaaDoorLL4
import Derived.Test.YtdpigfcnphklgaaDoorLk6
namespace Go.Proofs.YtdpigfcnphklgaaDoor
open Go Go.RowKit
set_option linter.unusedVariables false
set_option linter.unusedSimpArgs false
set_option maxRecDepth 100000
def BackP (key : ByteArray) (m : List Lb) (c : Int) : Prop := (rightL m = true ∧ keyL m = key ∧ c = 0) ∨ ((∀ l, rightL l = true → keyL l ≠ key) ∧ m = [] ∧ c = 2)
theorem keyL_inj {a b : List Lb} (ha : SizesOk a) (hb : SizesOk b) (h : keyL a = keyL b) : a = b := by
  refine key_inj ha hb ?_
  have := congrArg (fun x : ByteArray => x.data.toList) h
  exact this
theorem backP_uniq {key : ByteArray} {m m' : List Lb} {c c' : Int} (h : BackP key m c) (h' : BackP key m' c') : m = m' ∧ c = c' := by
  rcases h with ⟨a, b, rfl⟩ | ⟨a, rfl, rfl⟩
  · rcases h' with ⟨a', b', rfl⟩ | ⟨a', -, -⟩
    · exact ⟨keyL_inj (sizes_right a) (sizes_right a') (b.trans b'.symm), rfl⟩
    · exact absurd b (a' m a)
  · rcases h' with ⟨a', b', -⟩ | ⟨-, rfl, rfl⟩
    · exact absurd b' (a _ a')
    · exact ⟨rfl, rfl⟩
theorem backP_right {l m : List Lb} {c : Int} (hr : rightL l = true) (h : BackP (keyL l) m c) : m = l ∧ c = 0 := by
  rcases h with ⟨a, b, rfl⟩ | ⟨a, -, -⟩
  · exact ⟨keyL_inj (sizes_right a) (sizes_right hr) b, rfl⟩
  · exact absurd rfl (a l hr)
theorem backC {key : ByteArray} {w w' : World} {e : Ending} (h : BackR key w e w') : Below w.heap.size w w' ∧ ∃ m c v', e = .returned (.tuple #[v', .int .i64 c]) ∧ Sl lenc w' v' m ∧ BackP key m c := by
  obtain ⟨hb, h⟩ := h
  refine ⟨hb, ?_⟩
  rcases h with ⟨l, h1, h2, v', h3, h4⟩ | ⟨h1, h2⟩
  · exact ⟨l, 0, v', h3, h4, .inl ⟨h1, h2, rfl⟩⟩
  · exact ⟨[], 2, _, h2, Sl.nil _, .inr ⟨h1, rfl, rfl⟩⟩
theorem piece_len {s : ByteArray} (h : s.size ≤ 256) : (pieceB s).length ≤ 276 := by
  have := pieceS_size (s := s) (by omega)
  unfold pieceB
  have e : (pieceS s).data.toList.length = (pieceS s).size := by simp
  omega
theorem key_len : ∀ {l : List Lb}, (∀ x ∈ l, x.1.size ≤ 64 ∧ x.2.size ≤ 256) → (keyBytes l).length ≤ l.length * 552 := by
  intro l
  induction l with
  | nil => intro _; exact Nat.zero_le _
  | cons x r ih =>
    intro h
    have h1 := h x (by simp)
    have h2 := ih (fun y hy => h y (by simp [hy]))
    have h3 := piece_len (s := x.1) (by omega)
    have h4 := piece_len h1.2
    unfold keyBytes at h2 ⊢
    rw [List.flatMap_cons, List.length_append, List.length_append, List.length_cons]
    omega
theorem key_size {l : List Lb} (h : rightL l = true) : (keyL l).size ≤ 32768 := by
  have h0 := (right_iff l).1 h
  have h1 := key_len (l := l) fun x hx => by
    obtain ⟨a, -⟩ := (labOk_iff x).1 (h0.1 x hx)
    exact ⟨nameB_size a.1, a.2⟩
  have h2 := h0.2.2
  have e : (keyL l).size = (keyBytes l).length := by unfold keyL; show (keyBytes l).toArray.size = _; simp
  omega
theorem cmpP_range (x y : Lb) : -1 ≤ cmpP x y ∧ cmpP x y ≤ 1 := by
  unfold cmpP
  split
  · rcases cmpS_cases x.2 y.2 with h | h | h <;> omega
  · rcases cmpS_cases x.1 y.1 with h | h | h <;> omega
theorem cmpL_range : ∀ x y : List Lb, -1 ≤ cmpL x y ∧ cmpL x y ≤ 1 := by
  intro x
  induction x with
  | nil => intro y; cases y <;> simp [cmpL]
  | cons a r ih =>
    intro y
    cases y with
    | nil => simp [cmpL]
    | cons b t =>
      unfold cmpL
      split
      · exact ih t
      · exact cmpP_range a b
set_option maxHeartbeats 8000000 in
theorem labelsKeys_walk (v1 : Value) (l1 : List Lb) (v2 : Value) (l2 : List Lb) (key : ByteArray) (w : World) (ht : KW w) (h1 : Sl lenc w v1 l1) (h2 : Sl lenc w v2 l2) (hs : key.size ≤ 9223372036854775807) :
    Calls Tryd.prog 9 #[v1, v2, .string key] w fun e w' => e = .returned (.bool true) ∧ Below w.heap.size w w' := by
  have HT := Lib.hid ht
  have HL := Lib.hid h1
  have HM := Lib.hid h2
  clear ht h1 h2
  go_enter Tryd.func9, Tryd.ntmps9
  go_wp2_with fail
  refine (known_any _ HT.out.1).mono ?_
  rintro e w1 ⟨rfl, hb1⟩
  have HB1 := Lib.hid hb1
  have HL1 := Lib.hid (HL.out.below hb1 (Nat.le_refl _))
  have HM1 := Lib.hid (HM.out.below hb1 (Nat.le_refl _))
  clear hb1 HL HM
  have HF1 := Lib.hid (few_any v1 l1 w1 HL1.out)
  have HF2 := Lib.hid (few_any v2 l2 w1 HM1.out)
  go_wp2_with fail
  refine HF1.out.mono ?_
  rintro e w1' ⟨rfl, rfl⟩
  by_cases hf : fewL l1 = true
  · rw [hf]
    have hl80 := few_len hf
    clear hf
    go_wp2_with fail
    refine HF2.out.mono ?_
    rintro e w1'' ⟨rfl, rfl⟩
    by_cases hf2 : fewL l2 = true
    · rw [hf2]
      have hm80 := few_len hf2
      clear hf2
      by_cases hz : 32768 < key.size
      · have hzz : (32768 : Int) < (key.size : Int) := by omega
        have hzb : decide ((32768 : Int) < (key.size : Int)) = true := decide_eq_true hzz
        go_wp2_with fail
        go_ret
        exact ⟨rfl, HB1.out⟩
      · have hzz : ¬ (32768 : Int) < (key.size : Int) := by omega
        have hzb : decide ((32768 : Int) < (key.size : Int)) = false := decide_eq_false hzz
        have HK1 := Lib.hid (back_any key w1'' (HT.out.below HB1.out) (by omega))
        go_wp2_with fail
        refine HK1.out.mono ?_
        intro e w2 he
        obtain ⟨hb2, m, c, va, rfl, hsa, hpa⟩ := backC he
        have HB2 := Lib.hid (HB1.out.trans (hb2.mono HB1.out.size))
        have HL2 := Lib.hid (HL1.out.below hb2 (Nat.le_refl _))
        have HM2 := Lib.hid (HM1.out.below hb2 (Nat.le_refl _))
        have HA2 := Lib.hid hsa
        have HP := Lib.hid hpa
        clear hb2 he hsa hpa HK1
        have HK2 := Lib.hid (rback_any key w2 (by omega))
        go_wp2_with fail
        refine HK2.out.mono ?_
        intro e w3 he
        obtain ⟨hb3, m', c', vb, rfl, hsb, hpb⟩ := backC he
        obtain ⟨rfl, rfl⟩ := backP_uniq HP.out hpb
        have HB3 := Lib.hid (HB2.out.trans (hb3.mono HB2.out.size))
        have HL3 := Lib.hid (HL2.out.below hb3 (Nat.le_refl _))
        have HM3 := Lib.hid (HM2.out.below hb3 (Nat.le_refl _))
        have HA3 := Lib.hid (HA2.out.below hb3 (Nat.le_refl _))
        have HSM := Lib.hid (same_self va vb m w3 HA3.out hsb)
        clear hb3 he hsb hpb HK2
        go_wp2_with fail
        refine HSM.out.mono ?_
        rintro e w4 ⟨rfl, n4, rfl⟩
        have HB4 := Lib.hid (below_drewN HB3.out n4)
        have HL4 := Lib.hid (HL3.out.below (below_drewN (Below.refl _ _) n4) (Nat.le_refl _))
        have HM4 := Lib.hid (HM3.out.below (below_drewN (Below.refl _ _) n4) (Nat.le_refl _))
        clear HSM
        generalize w3.drewN n4 = w4 at HB4 HL4 HM4 ⊢
        have HR1 := Lib.hid (rright_any v1 l1 w4 HL4.out)
        go_wp2_with fail
        refine HR1.out.mono ?_
        by_cases hr1 : rightL l1 = true
        · rw [hr1]
          rintro e w5 ⟨rfl, n5, rfl⟩
          have HB5 := Lib.hid (below_drewN HB4.out n5)
          have HL5 := Lib.hid (HL4.out.below (below_drewN (Below.refl _ _) n5) (Nat.le_refl _))
          have HM5 := Lib.hid (HM4.out.below (below_drewN (Below.refl _ _) n5) (Nat.le_refl _))
          clear HR1
          generalize w4.drewN n5 = w5 at HB5 HL5 HM5 ⊢
          have HR2 := Lib.hid (rright_any v2 l2 w5 HM5.out)
          have HX1 := Lib.hid hr1
          clear hr1
          go_wp2_with fail
          refine HR2.out.mono ?_
          by_cases hr2 : rightL l2 = true
          · rw [hr2]
            rintro e w6 ⟨rfl, n6, rfl⟩
            have HB6 := Lib.hid (below_drewN HB5.out n6)
            have HL6 := Lib.hid (HL5.out.below (below_drewN (Below.refl _ _) n6) (Nat.le_refl _))
            have HM6 := Lib.hid (HM5.out.below (below_drewN (Below.refl _ _) n6) (Nat.le_refl _))
            clear HR2
            generalize w5.drewN n6 = w6 at HB6 HL6 HM6 ⊢
            have HX2 := Lib.hid hr2
            clear hr2
            have HKY := Lib.hid (key_any v1 l1 w6 HL6.out (by omega) (sizes_right HX1.out) (HT.out.below HB6.out).1)
            go_wp2_with fail
            refine HKY.out.mono ?_
            rintro e w7 ⟨rfl, hb7⟩
            have HB7 := Lib.hid (HB6.out.trans (hb7.mono HB6.out.size))
            have HL7 := Lib.hid (HL6.out.below hb7 (Nat.le_refl _))
            have HM7 := Lib.hid (HM6.out.below hb7 (Nat.le_refl _))
            clear hb7 HKY
            obtain ⟨K1, hK1⟩ : ∃ K, K = keyL l1 := ⟨_, rfl⟩
            have HBK := Lib.hid (back_any K1 w7 (HT.out.below HB7.out) (by rw [hK1]; exact key_size HX1.out))
            have HKE := Lib.hid hK1
            rw [← hK1]
            clear hK1
            go_wp2_with fail
            refine HBK.out.mono ?_
            intro e w8 he
            obtain ⟨hb8, m8, c8, v8, rfl, hs8, hp8⟩ := backC he
            rw [HKE.out] at hp8
            obtain ⟨rfl, rfl⟩ := backP_right HX1.out hp8
            have HB8 := Lib.hid (HB7.out.trans (hb8.mono HB7.out.size))
            have HL8 := Lib.hid (HL7.out.below hb8 (Nat.le_refl _))
            have HM8 := Lib.hid (HM7.out.below hb8 (Nat.le_refl _))
            have HV8 := Lib.hid hs8
            clear hb8 he hs8 hp8 HBK
            have HC := Lib.hid (compare_any v1 v2 m8 l2 w8 HL8.out HM8.out)
            go_wp2_with fail
            refine HC.out.mono ?_
            rintro e w9 ⟨rfl, hg9⟩
            have HB9 := Lib.hid (HB8.out.trans (hg9.below.mono HB8.out.size))
            have HL9 := Lib.hid (HL8.out.below hg9.below (Nat.le_refl _))
            have HM9 := Lib.hid (HM8.out.below hg9.below (Nat.le_refl _))
            have HV9 := Lib.hid (HV8.out.below hg9.below (Nat.le_refl _))
            clear hg9 HC
            have HRK := Lib.hid (rkey_any v1 m8 w9 HL9.out (by omega) (sizes_right HX1.out))
            rw [← HKE.out] at HRK
            go_wp2_with fail
            refine HRK.out.mono ?_
            rintro e w10 ⟨rfl, hb10⟩
            have HB10 := Lib.hid (HB9.out.trans (hb10.mono HB9.out.size))
            have HL10 := Lib.hid (HL9.out.below hb10 (Nat.le_refl _))
            have HM10 := Lib.hid (HM9.out.below hb10 (Nat.le_refl _))
            have HV10 := Lib.hid (HV9.out.below hb10 (Nat.le_refl _))
            clear hb10 HRK
            have HSS := Lib.hid (same_self v8 v1 m8 w10 HV10.out HL10.out)
            go_wp2_with fail
            refine HSS.out.mono ?_
            rintro e w11 ⟨rfl, n11, rfl⟩
            have HB11 := Lib.hid (below_drewN HB10.out n11)
            have HL11 := Lib.hid (HL10.out.below (below_drewN (Below.refl _ _) n11) (Nat.le_refl _))
            have HM11 := Lib.hid (HM10.out.below (below_drewN (Below.refl _ _) n11) (Nat.le_refl _))
            clear HSS
            generalize w10.drewN n11 = w11 at HB11 HL11 HM11 ⊢
            have HRC := Lib.hid (rcompare_any v1 v2 m8 l2 w11 HL11.out HM11.out)
            go_wp2_with fail
            refine HRC.out.mono ?_
            rintro e w12 ⟨rfl, n12, rfl⟩
            have HB12 := Lib.hid (below_drewN HB11.out n12)
            have HL12 := Lib.hid (HL11.out.below (below_drewN (Below.refl _ _) n12) (Nat.le_refl _))
            have HM12 := Lib.hid (HM11.out.below (below_drewN (Below.refl _ _) n12) (Nat.le_refl _))
            clear HRC
            generalize w11.drewN n12 = w12 at HB12 HL12 HM12 ⊢
            have HC2 := Lib.hid (compare_any v2 v1 l2 m8 w12 HM12.out HL12.out)
            rw [cmpL_neg m8 l2] at HC2
            have hcr := cmpL_range m8 l2
            have HCE := Lib.hid (cmpL_eq m8 l2)
            generalize cmpL m8 l2 = cc at HC2 hcr HCE ⊢
            have hw1 : IntKind.i64.wrap (0 - cc) = -cc := by rw [IntKind.wrap_i64] <;> omega
            go_wp2_with fail
            refine HC2.out.mono ?_
            rintro e w13 ⟨rfl, hg13⟩
            have HB13 := Lib.hid (HB12.out.trans (hg13.below.mono HB12.out.size))
            have HM13 := Lib.hid (HM12.out.below hg13.below (Nat.le_refl _))
            clear hg13 HC2
            have HKY2 := Lib.hid (key_any v2 l2 w13 HM13.out (by omega) (sizes_right HX2.out) (HT.out.below HB13.out).1)
            go_wp2_with fail
            refine HKY2.out.mono ?_
            rintro e w14 ⟨rfl, hb14⟩
            have HB14 := Lib.hid (HB13.out.trans (hb14.mono HB13.out.size))
            clear hb14 HKY2
            by_cases heq : m8 = l2
            · have hc0 : cc = 0 := HCE.out.2 heq
              have hk : K1 = keyL l2 := by rw [HKE.out, heq]
              have hc0b : (cc == 0) = true := by rw [hc0]; rfl
              rw [← hk]
              subst hc0
              clear hk heq
              go_wp2_with fail
              go_ret
              exact ⟨rfl, HB14.out⟩
            · have hc0 : ¬ cc = 0 := fun h => heq (HCE.out.1 h)
              have hc0b : (cc == 0) = false := by simpa using hc0
              have hkn : ¬ K1.toList = (keyL l2).toList := fun h => heq (keyL_inj (sizes_right HX1.out) (sizes_right HX2.out) (by rw [← HKE.out]; exact ba_eq (by rw [← ByteArray.toList_eq, ← ByteArray.toList_eq]; exact h)))
              have hkb : (K1.toList == (keyL l2).toList) = false := by simpa using hkn
              generalize keyL l2 = K2 at hkn hkb ⊢
              clear heq
              go_wp2_with fail
              go_ret
              exact ⟨rfl, HB14.out⟩
          · have hr : rightL l2 = false := by simpa using hr2
            rw [hr]
            rintro e w6 ⟨rfl, n6, rfl⟩
            clear hr hr2 HR2
            go_wp2_with fail
            go_ret
            exact ⟨rfl, below_drewN HB5.out n6⟩
        · have hr : rightL l1 = false := by simpa using hr1
          rw [hr]
          rintro e w5 ⟨rfl, n5, rfl⟩
          clear hr hr1 HR1
          go_wp2_with fail
          go_ret
          exact ⟨rfl, below_drewN HB4.out n5⟩
    · have hf3 : fewL l2 = false := by simpa using hf2
      rw [hf3]
      clear hf2 hf3
      go_wp2_with fail
      go_ret
      exact ⟨rfl, HB1.out⟩
  · have hf3 : fewL l1 = false := by simpa using hf
    rw [hf3]
    clear hf hf3
    go_wp2_with fail
    go_ret
    exact ⟨rfl, HB1.out⟩
end Go.Proofs.YtdpigfcnphklgaaDoor
