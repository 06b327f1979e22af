/- Back: the document's walk. -/
import Derived.Test.YtdpigfcnphklgaaDoorLk3
import Derived.Test.YtdpigfcnphklgaaDoorLk5
namespace Go.Proofs.YtdpigfcnphklgaaDoor
open Go Go.RowKit
set_option linter.unusedVariables false
set_option linter.unusedSimpArgs false
set_option maxRecDepth 100000
theorem ext_end {s : ByteArray} {t r : List UInt8} {p : Nat} (h : s.data.toList = PB t ++ r) (hp : p = (PB t).length) : (s.extract p s.size).data.toList = r := by
  rw [Lib.extract_to_end, h, hp, List.drop_left]
theorem ext_end2 {s : ByteArray} {t u r r2 : List UInt8} {p q : Nat} (h : s.data.toList = PB t ++ r) (h2 : r = PB u ++ r2) (hp : p = (PB t).length) (hq : q = (PB u).length) : (s.extract (p + q) s.size).data.toList = r2 := by
  rw [Lib.extract_to_end, ← List.drop_drop, h, hp, List.drop_left, h2, hq, List.drop_left]
/-- What is read is what is written. -/
def WroteSo (key : ByteArray) (out : List Lb) (s : List UInt8) : Prop := key.data.toList = keyBytes out ++ s
theorem wrote_more {key : ByteArray} {out : List Lb} {s t r u r2 : List UInt8} (h : WroteSo key out s) (h1 : s = PB t ++ r) (h2 : r = PB u ++ r2) : WroteSo key (out ++ [(⟨t.toArray⟩, ⟨u.toArray⟩)]) r2 := by
  unfold WroteSo at h ⊢
  have e : keyBytes (out ++ [((⟨t.toArray⟩ : ByteArray), (⟨u.toArray⟩ : ByteArray))]) = keyBytes out ++ (PB t ++ PB u) := by
    unfold keyBytes
    rw [List.flatMap_append]
    congr 1
    rw [List.flatMap_cons, List.flatMap_nil, List.append_nil, pieceB_PB, pieceB_PB]
  rw [h, h1, h2, e]
  simp only [List.append_assoc]
set_option maxHeartbeats 8000000 in
theorem rback_any (key : ByteArray) (w : World) (hs : key.size ≤ 32768) :
    Calls Tryd.prog 46 #[.string key] w fun e w' => BackR key w e w' := by
  obtain ⟨i0, hi, hz0, hz1, hz2⟩ := info_parts Tryd.infoLb
  go_enter Tryd.func46, Tryd.ntmps46
  go_wp2_with fail
  go_loopw [0, 4] (fun sv v wr => ∃ (out : List Lb) (s : ByteArray), sv = .string s ∧ out.length ≤ 32 ∧ s.size ≤ 32768 ∧ wr.ownsRow w.heap.size 33 2 v out.length (out.flatMap lenc) ∧ Hid (ReadSo key out s.data.toList) ∧ Hid (WroteSo key out s.data.toList) ∧ Hid (Below w.heap.size w wr)) (fun sv _ _ => match sv with | .string s => s.size | _ => 0)
  case atStart => exact ⟨[], key, rfl, Nat.zero_le _, hs, World.ownsRow_nil _ _ _ _, readSo_start key, by unfold WroteSo; rfl, Below.refl _ _⟩
  case round =>
    obtain ⟨out, s, rfl, ho, hsz, hown, HR, HW, HB⟩ := hrel
    have hBz := HB.out.size
    have HO := Lib.hid hown
    by_cases hs0 : s.size = 0
    · have h1 : s.toList = [] := empty_of hs0
      have h2 : s.toList.isEmpty = true := by rw [h1]; rfl
      have hd0 : s.data.toList = [] := by rw [← ByteArray.toList_eq]; exact h1
      have HE := Lib.hid (show ∀ l, rightL l = true → keyL l = key → l = out from fun l a b => by
        obtain ⟨r, rfl, h3⟩ := HR.out l a b
        rw [hd0] at h3
        cases r with
        | nil => simp
        | cons x r => exact absurd h3.symm (keyBytes_ne x r))
      have HKO := Lib.hid (show keyL out = key from ba_eq (by
        have := HW.out
        unfold WroteSo at this
        rw [hd0, List.append_nil] at this
        rw [this]; rfl))
      have hsl : Sl lenc wr u4 out := Sl.own lenc_len (by decide) hown
      have HS := Lib.hid hsl
      have HRT := Lib.hid (rright_any u4 out wr hsl)
      clear hown hsl hd0
      go_wp2_with fail
      refine HRT.out.mono ?_
      by_cases hr : rightL out = true
      · rw [hr]
        rintro e w2 ⟨rfl, n2, rfl⟩
        have HRR := Lib.hid hr
        clear hr
        go_wp2_with fail
        go_ret2
        exact ⟨below_drewN HB.out _, .inl ⟨out, HRR.out, HKO.out, _, rfl, HS.out.below (below_drewN (Below.refl _ _) _) (Nat.le_refl _)⟩⟩
      · have hr2 : rightL out = false := by simpa using hr
        rw [hr2]
        rintro e w2 ⟨rfl, n2, rfl⟩
        have HRN := Lib.hid hr
        clear hr hr2
        go_wp2_with fail
        go_ret2
        exact ⟨below_drewN HB.out _, .inr ⟨fun l a b => by rw [HE.out l a b] at a; exact absurd a HRN.out, rfl⟩⟩
    · have hsp : 0 < s.size := by omega
      have h1 : ¬ s.toList = [] := not_empty_of hsp
      have h2 : s.toList.isEmpty = false := by simpa using h1
      have HSN := Lib.hid (show s.data.toList ≠ [] by rw [← ByteArray.toList_eq]; exact h1)
      have HP1 := Lib.hid (rpiece_any s wr (by omega))
      go_wp2_with fail
      refine HP1.out.mono ?_
      rintro e w2 ⟨he, hb2⟩
      have HB2 := Lib.hid (HB.out.trans (hb2.mono hBz))
      have hown2 := hown.kept (below_grownBy hb2) (by cases u4.ownBlock with | none => exact .inl rfl | some g => exact .inr (by simp))
      clear hb2 hown HP1
      rcases he with ⟨t, r1, hp, rfl⟩ | ⟨hno, rfl⟩
      · have hsl : s.data.toList.length = s.size := by simp
        have hlen := congrArg List.length hp
        rw [hsl, List.length_append] at hlen
        have htl := PB_len t
        have HPP := Lib.hid (show pieceP s.data.toList = some (t, r1) by rw [hp]; exact pieceP_of _ _ (by omega))
        have HPQ := Lib.hid hp
        obtain ⟨p, hpp⟩ : ∃ p, p = (PB t).length := ⟨_, rfl⟩
        have HPL := Lib.hid hpp
        rw [← hpp] at hlen htl ⊢
        have hp0 : 0 < p := by omega
        have hps : p ≤ s.size := by omega
        have hpz : ¬ (p : Int) < 0 := by omega
        have hpb : decide ((p : Int) < 0) = false := decide_eq_false hpz
        have hx1 : (s.extract p s.size).data.toList = r1 := ext_end hp hpp
        have hxz : (s.extract p s.size).size = s.size - p := by rw [ByteArray.size_extract]; omega
        have HP2 := Lib.hid (rpiece_any (s.extract p s.size) w2 (by omega))
        rw [hx1] at HP2
        have HLN := Lib.hid hlen
        have HTL := Lib.hid htl
        clear hp hsl hpp hx1 hxz hlen htl
        obtain ⟨tb, htb⟩ : ∃ tb : ByteArray, tb = ⟨t.toArray⟩ := ⟨_, rfl⟩
        rw [← htb]
        have HTB := Lib.hid htb
        clear htb
        go_wp2_with fail
        refine HP2.out.mono ?_
        rintro e w3 ⟨he, hb3⟩
        have HB3 := Lib.hid (HB2.out.trans (hb3.mono HB2.out.size))
        have hown3 := hown2.kept (below_grownBy hb3) (by cases u4.ownBlock with | none => exact .inl rfl | some g => exact .inr (by simp))
        clear hb3 hown2 HP2
        rcases he with ⟨u, r2, hp2, rfl⟩ | ⟨hno, rfl⟩
        · have hlen := HLN.out
          have htl := HTL.out
          have hlen2 := congrArg List.length hp2
          rw [List.length_append] at hlen2
          have hul := PB_len u
          have HQQ := Lib.hid (show pieceP r1 = some (u, r2) by rw [hp2]; exact pieceP_of _ _ (by omega))
          have HQP := Lib.hid hp2
          obtain ⟨q, hqq⟩ : ∃ q, q = (PB u).length := ⟨_, rfl⟩
          have HQL := Lib.hid hqq
          rw [← hqq] at hlen2 hul ⊢
          have hq0 : 0 < q := by omega
          have hqs : p + q ≤ s.size := by omega
          have hqsz : (p : Int) + (q : Int) ≤ (s.size : Int) := by omega
          have hqz : ¬ (q : Int) < 0 := by omega
          have hqb : decide ((q : Int) < 0) = false := decide_eq_false hqz
          have hqw : IntKind.i64.wrap ((p : Int) + (q : Int)) = (p : Int) + (q : Int) := by rw [IntKind.wrap_i64]; omega
          have HRM := Lib.hid (read_more HR.out HSN.out HPP.out HQQ.out)
          have HWM := Lib.hid (wrote_more HW.out HPQ.out hp2)
          obtain ⟨ub, hub⟩ : ∃ ub : ByteArray, ub = ⟨u.toArray⟩ := ⟨_, rfl⟩
          rw [← hub]
          rw [← hub, ← HTB.out] at HRM HWM
          have hx2 : (s.extract (p + q) s.size).data.toList = r2 := ext_end2 HPQ.out hp2 HPL.out hqq
          have hx2z : (s.extract (p + q) s.size).size = s.size - (p + q) := by rw [ByteArray.size_extract]; omega
          have HX2 := Lib.hid hx2
          have HM1 := Lib.hid (show (s.extract (p + q) s.size).size < s.size by omega)
          have HM2 := Lib.hid (show (s.extract (p + q) s.size).size ≤ 32768 by omega)
          have hBz3 := HB3.out.size
          have HO3 := Lib.hid hown3
          clear hp2 hqq hub hx2 hx2z hlen2 hul hlen htl
          go_wp2_with (at_builtin; refine wpList_append_own _ rfl _ _ 22 rfl w.heap.size 33 i0 (.agg #[.string ⟨#[]⟩, .string ⟨#[]⟩]) 2 32 Tryd.underlying22 hi hz0 hz1 hz2 rfl (by decide) _ _ _ rfl (hown3.alloc _) ⟨w3.heap.size, 0, none⟩ 1 1 [.string tb, .string ub] rfl rfl (World.news_of_block (heap_new _ _)) (two_str tb ub) (by unfold maxLen; omega) (by omega) (by simp; omega) ?_)
          intro v' w4 hown' hgrow _
          have HG := Lib.hid ((HB3.out.alloc hBz3 (.cells #[.string tb, .string ub] 33)).grown hgrow (by simp; omega) (fun j hj => (HO3.out.lt j hj).1))
          have HO' := Lib.hid hown'
          obtain ⟨ao, cap, hv4⟩ : ∃ ao cap, v' = .slice ao (out.length + 1) cap := by
            rcases hown'.2 with ⟨hv, h0⟩ | ⟨g, cap, cur, hv, _⟩
            · exact absurd h0 (by omega)
            · exact ⟨_, _, hv⟩
          subst hv4
          clear hown3 hgrow hown'
          by_cases h32 : out.length = 32
          · have h32i : (32 : Int) < (out.length : Int) + 1 := by omega
            have h32b : decide ((32 : Int) < (out.length : Int) + 1) = true := decide_eq_true h32i
            have HNO := Lib.hid (show ∀ l, rightL l = true → keyL l ≠ key from fun l a b => by
              obtain ⟨r, rfl, -⟩ := HRM.out l a b
              have := ((right_iff _).1 a).2.2
              rw [List.length_append, List.length_append, List.length_cons] at this
              omega)
            clear h32
            go_wp2_with fail
            go_ret2
            exact ⟨HG.out, .inr ⟨HNO.out, rfl⟩⟩
          · have h32i : ¬ (32 : Int) < (out.length : Int) + 1 := by omega
            have h32b : decide ((32 : Int) < (out.length : Int) + 1) = false := decide_eq_false h32i
            have ho2 : out.length + 1 ≤ 32 := by omega
            clear h32
            go_wp2_with fail
            go_roundw
            case rel =>
              refine ⟨out ++ [(tb, ub)], s.extract (p + q) s.size, rfl, by simp; omega, HM2.out, ?_, by rw [HX2.out]; exact HRM.out, by rw [HX2.out]; exact HWM.out, HG.out⟩
              rw [List.length_append, List.flatMap_append]
              exact HO'.out
            case measure => exact HM1.out
        · have HNO := Lib.hid (show ∀ l, rightL l = true → keyL l ≠ key from fun l a b => by
            obtain ⟨x, r, rfl, e1, -, -⟩ := read_first HR.out HSN.out l a b
            rw [HPP.out] at e1
            injection e1 with e1
            injection e1 with e1 e3
            have hz := sizes_app (sizes_right' a) x (by simp)
            exact hno _ _ (by simp; omega) e3)
          clear hno hown3
          go_wp2_with fail
          go_ret2
          exact ⟨HB3.out, .inr ⟨HNO.out, rfl⟩⟩
      · have HNO := Lib.hid (show ∀ l, rightL l = true → keyL l ≠ key from fun l a b => by
          obtain ⟨x, r, rfl, -, -, e1⟩ := read_first HR.out HSN.out l a b
          have hz := sizes_app (sizes_right' a) x (by simp)
          exact hno _ _ (by simp; omega) e1)
        clear hno hown2
        go_wp2_with fail
        go_ret2
        exact ⟨HB2.out, .inr ⟨HNO.out, rfl⟩⟩
end Go.Proofs.YtdpigfcnphklgaaDoor
