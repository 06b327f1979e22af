/- Back: the code's walk. -/
import Derived.Test.YtdpigfcnphklgaaDoorLk2
namespace Go.Proofs.YtdpigfcnphklgaaDoor
open Go Go.RowKit
set_option linter.unusedVariables false
set_option linter.unusedSimpArgs false
set_option maxRecDepth 100000
theorem nameB_size' {s : ByteArray} (h : nameB s = true) : s.size ≤ 64 := by
  unfold nameB at h
  simp only [Bool.and_eq_true, decide_eq_true_eq] at h
  exact h.1.1.2
theorem sizes_right' {l : List Lb} (h : rightL l = true) : SizesOk l := by
  intro x hx
  obtain ⟨h1, h2⟩ := (labOk_iff x).1 (((right_iff l).1 h).1 x hx)
  have := nameB_size' h1.1
  have := h1.2
  omega
theorem two_str (a b : ByteArray) : ∀ u ∈ [Value.string a, .string b], u.oneCell' = true := by
  intro u hu
  simp at hu
  rcases hu with rfl | rfl <;> rfl
def BackR (key : ByteArray) (w : World) (e : Ending) (w' : World) : Prop :=
  Below w.heap.size w w' ∧ ((∃ l, rightL l = true ∧ keyL l = key ∧ ∃ v', e = .returned (.tuple #[v', .int .i64 0]) ∧ Sl lenc w' v' l) ∨ ((∀ l, rightL l = true → keyL l ≠ key) ∧ e = .returned (.tuple #[.slice none 0 0, .int .i64 2])))
/-- What is read so far. -/
def ReadSo (key : ByteArray) (out : List Lb) (s : List UInt8) : Prop := ∀ l, rightL l = true → keyL l = key → ∃ r, l = out ++ r ∧ s = keyBytes r
theorem readSo_start (key : ByteArray) : ReadSo key [] key.data.toList := by
  intro l _ h
  exact ⟨l, rfl, by rw [← h]; rfl⟩
theorem sizes_app {a r : List Lb} (h : SizesOk (a ++ r)) : SizesOk r := fun x hx => h x (by simp [hx])
theorem read_first {key : ByteArray} {out : List Lb} {s : List UInt8} (h : ReadSo key out s) (hs : s ≠ []) : ∀ l, rightL l = true → keyL l = key → ∃ x r, l = out ++ x :: r ∧ pieceP s = some (x.1.data.toList, PB x.2.data.toList ++ keyBytes r) ∧ pieceP (PB x.2.data.toList ++ keyBytes r) = some (x.2.data.toList, keyBytes r) ∧ s = PB x.1.data.toList ++ (PB x.2.data.toList ++ keyBytes r) := by
  intro l h1 h2
  obtain ⟨r, rfl, h3⟩ := h l h1 h2
  cases r with
  | nil => exact absurd h3 hs
  | cons x r =>
    have hz := sizes_bd (sizes_app (sizes_right' h1) x (by simp))
    rw [keyBytes_cons] at h3
    exact ⟨x, r, rfl, by rw [h3]; exact pieceP_of _ _ hz.1, pieceP_of _ _ hz.2, h3⟩
theorem read_more {key : ByteArray} {out : List Lb} {s t r1 u r2 : List UInt8} (h : ReadSo key out s) (hs : s ≠ []) (h1 : pieceP s = some (t, r1)) (h2 : pieceP r1 = some (u, r2)) : ReadSo key (out ++ [(⟨t.toArray⟩, ⟨u.toArray⟩)]) r2 := by
  intro l h3 h4
  obtain ⟨x, r, rfl, e1, e2, -⟩ := read_first h hs l h3 h4
  rw [h1] at e1
  injection e1 with e1
  injection e1 with e1 e3
  subst e3
  rw [h2] at e2
  injection e2 with e2
  injection e2 with e2 e4
  subst e1 e2 e4
  exact ⟨r, by simp, rfl⟩
theorem pieceP_lt {s t r : List UInt8} (h : pieceP s = some (t, r)) : r.length < s.length ∧ t.length ≤ s.length := by
  have hc := cut_parts s
  unfold pieceP at h
  split at h
  · cases h
  · rename_i hok
    split at h
    · split at h
      · cases h
      · injection h with h
        injection h with h1 h2
        have := hc.2.2 (by simpa using hok)
        rw [← h1, ← h2]
        simp only [List.length_take, List.length_drop]
        omega
    · cases h
theorem pieceP_nil : pieceP [] = none := by decide +kernel
set_option maxHeartbeats 8000000 in
theorem back_any (key : ByteArray) (w : World) (hk : KW w) (hs : key.size ≤ 32768) :
    Calls Tryd.prog 45 #[.string key] w fun e w' => BackR key w e w' := by
  obtain ⟨i0, hi, hz0, hz1, hz2⟩ := info_parts Tryd.infoLb
  have HK := Lib.hid hk
  clear hk
  go_enter Tryd.func45, Tryd.ntmps45
  go_wp2_with fail
  go_loopw [4, 5] (fun v sv wr => ∃ (out : List Lb) (s : ByteArray), sv = .string s ∧ out.length ≤ 32 ∧ s.size ≤ 32768 ∧ wr.ownsRow w.heap.size 33 2 v out.length (out.flatMap lenc) ∧ Hid (ReadSo key out s.data.toList) ∧ Hid (Below w.heap.size w wr)) (fun _ sv _ => match sv with | .string s => s.size | _ => 0)
  case atStart => exact ⟨[], key, rfl, Nat.zero_le _, hs, World.ownsRow_nil _ _ _ _, readSo_start key, Below.refl _ _⟩
  case round =>
    obtain ⟨out, s, rfl, ho, hsz, hown, HR, HB⟩ := hrel
    have hBz := HB.out.size
    have HO := Lib.hid hown
    by_cases hs0 : s.size = 0
    · have h1 : s.toList = [] := empty_of hs0
      have h2 : s.toList.isEmpty = true := by rw [h1]; rfl
      have HE := Lib.hid (show ∀ l, rightL l = true → keyL l = key → l = out from fun l a b => by
        obtain ⟨r, rfl, h3⟩ := HR.out l a b
        have : s.data.toList = [] := by rw [← ByteArray.toList_eq]; exact h1
        rw [this] at h3
        cases r with
        | nil => simp
        | cons x r => exact absurd h3.symm (keyBytes_ne x r))
      have hsl : Sl lenc wr u4 out := Sl.own lenc_len (by decide) hown
      have HS := Lib.hid hsl
      have HRT := Lib.hid (right_any u4 out wr hsl)
      clear hown hsl
      go_wp2_with fail
      refine HRT.out.mono ?_
      by_cases hr : rightL out = true
      · rw [hr]
        rintro e w2 ⟨rfl, hg⟩
        have HB2 := Lib.hid (HB.out.trans (hg.below.mono hBz))
        have HS2 := Lib.hid (HS.out.below hg.below (Nat.le_refl _))
        clear hg
        have HKY := Lib.hid (key_any u4 out w2 HS2.out (by omega) (sizes_right' hr) (HK.out.below HB2.out).1)
        have HRR := Lib.hid hr
        clear hr
        go_wp2_with fail
        refine HKY.out.mono ?_
        rintro e w3 ⟨rfl, hb3⟩
        have HB3 := Lib.hid (HB2.out.trans (hb3.mono HB2.out.size))
        have HS3 := Lib.hid (HS2.out.below hb3 (Nat.le_refl _))
        clear hb3
        by_cases hkk : keyL out = key
        · have hb : ((keyL out).toList == key.toList) = true := by rw [hkk]; simp
          have hbn : (!((keyL out).toList == key.toList)) = false := by rw [hb]; rfl
          have HKK := Lib.hid hkk
          clear hkk
          go_wp2_with fail
          go_ret2
          exact ⟨HB3.out, .inl ⟨out, HRR.out, HKK.out, _, rfl, HS3.out⟩⟩
        · have hb : ((keyL out).toList == key.toList) = false := by rw [beq_cmp]; exact decide_eq_false fun h => hkk ((cmpS_eq _ _).1 h)
          have HKK := Lib.hid hkk
          clear hkk
          go_wp2_with fail
          go_ret2
          exact ⟨HB3.out, .inr ⟨fun l a b => by rw [HE.out l a b] at b; exact absurd b HKK.out, rfl⟩⟩
      · have hr2 : rightL out = false := by simpa using hr
        rw [hr2]
        rintro e w2 ⟨rfl, hg⟩
        have HB2 := Lib.hid (HB.out.trans (hg.below.mono hBz))
        have HRN := Lib.hid hr
        clear hg hr hr2
        go_wp2_with fail
        go_ret2
        exact ⟨HB2.out, .inr ⟨fun l a b => by rw [HE.out l a b] at a; exact absurd a HRN.out, rfl⟩⟩
    · have hsp : 0 < s.size := by omega
      have h1 : ¬ s.toList = [] := not_empty_of hsp
      have h2 : s.toList.isEmpty = false := by simpa using h1
      have HSN := Lib.hid (show s.data.toList ≠ [] by rw [← ByteArray.toList_eq]; exact h1)
      have HP1 := Lib.hid (piece_any s wr (HK.out.below HB.out) (by omega))
      go_wp2_with fail
      refine HP1.out.mono ?_
      rintro e w2 ⟨he, hb2⟩
      have HB2 := Lib.hid (HB.out.trans (hb2.mono hBz))
      have hown2 := hown.kept (below_grownBy hb2) (by cases u4.ownBlock with | none => exact .inl rfl | some g => exact .inr (by simp))
      clear hb2 hown HP1
      unfold PieceR at he
      cases hp : pieceP s.data.toList with
      | none =>
        rw [hp] at he
        simp only at he
        subst he
        have HNO := Lib.hid (show ∀ l, rightL l = true → keyL l ≠ key from fun l a b => by
          obtain ⟨x, r, -, e1, -⟩ := read_first HR.out HSN.out l a b
          rw [hp] at e1; cases e1)
        have HP2 := Lib.hid (piece_any ⟨#[]⟩ w2 (HK.out.below HB2.out) (by decide))
        clear hp hown2
        go_wp2_with fail
        refine HP2.out.mono ?_
        rintro e w3 ⟨he, hb3⟩
        have HB3 := Lib.hid (HB2.out.trans (hb3.mono HB2.out.size))
        unfold PieceR at he
        rw [pieceP_nil] at he
        simp only at he
        subst he
        clear hb3
        go_wp2_with fail
        go_ret2
        exact ⟨HB3.out, .inr ⟨HNO.out, rfl⟩⟩
      | some p =>
        obtain ⟨t, r1⟩ := p
        rw [hp] at he
        simp only at he
        subst he
        have hlt1 := pieceP_lt hp
        have hsl : s.data.toList.length = s.size := by simp
        rw [hsl] at hlt1
        have hr1z : (⟨r1.toArray⟩ : ByteArray).size = r1.length := by show r1.toArray.size = _; simp
        have HP2 := Lib.hid (piece_any ⟨r1.toArray⟩ w2 (HK.out.below HB2.out) (by omega))
        have HPP := Lib.hid hp
        have hr1d : (⟨r1.toArray⟩ : ByteArray).data.toList = r1 := rfl
        rw [hr1d] at HP2
        clear hp hsl hr1d
        go_wp2_with fail
        refine HP2.out.mono ?_
        rintro e w3 ⟨he, hb3⟩
        have HB3 := Lib.hid (HB2.out.trans (hb3.mono HB2.out.size))
        have hown3 := hown2.kept (below_grownBy hb3) (by cases u4.ownBlock with | none => exact .inl rfl | some g => exact .inr (by simp))
        clear hb3 hown2 HP2
        unfold PieceR at he
        cases hp2 : pieceP r1 with
        | none =>
          rw [hp2] at he
          simp only at he
          subst he
          have HNO := Lib.hid (show ∀ l, rightL l = true → keyL l ≠ key from fun l a b => by
            obtain ⟨x, r, -, e1, e2, -⟩ := read_first HR.out HSN.out l a b
            rw [HPP.out] at e1
            injection e1 with e1
            injection e1 with e1 e3
            rw [← e3, hp2] at e2; cases e2)
          clear hp2 hown3
          go_wp2_with fail
          go_ret2
          exact ⟨HB3.out, .inr ⟨HNO.out, rfl⟩⟩
        | some p2 =>
          obtain ⟨u, r2⟩ := p2
          rw [hp2] at he
          simp only at he
          subst he
          have hlt2 := pieceP_lt hp2
          have HRM := Lib.hid (read_more HR.out HSN.out HPP.out hp2)
          obtain ⟨ao, cap, hu4⟩ : ∃ ao cap, u4 = .slice ao out.length cap := by
            rcases hown3.2 with ⟨hv, h0⟩ | ⟨g, cap, cur, hv, _⟩
            · exact ⟨none, 0, by rw [hv, h0]⟩
            · exact ⟨_, _, hv⟩
          by_cases h32 : out.length = 32
          · have h32b : ((out.length : Int) == 32) = true := by rw [h32]; rfl
            have HNO := Lib.hid (show ∀ l, rightL l = true → keyL l ≠ key from fun l a b => by
              obtain ⟨x, r, rfl, -⟩ := read_first HR.out HSN.out l a b
              have := ((right_iff _).1 a).2.2
              rw [List.length_append, List.length_cons] at this
              omega)
            subst hu4
            clear hp2 hown3 h32
            go_wp2_with fail
            go_ret2
            exact ⟨HB3.out, .inr ⟨HNO.out, rfl⟩⟩
          · have h32i : ¬ (out.length : Int) = 32 := by omega
            have h32b : ((out.length : Int) == 32) = false := by simpa using h32i
            have hBz3 := HB3.out.size
            have HO3 := Lib.hid hown3
            subst hu4
            clear hp2 h32 hr1z
            generalize hT : (⟨t.toArray⟩ : ByteArray) = tb at HRM ⊢
            generalize hU : (⟨u.toArray⟩ : ByteArray) = ub at HRM ⊢
            clear hT hU
            have hr2z : (⟨r2.toArray⟩ : ByteArray).size = r2.length := by show r2.toArray.size = _; simp
            have HR2 := Lib.hid hr2z
            have hmeas : (⟨r2.toArray⟩ : ByteArray).size < s.size := by omega
            have hmeas2 : (⟨r2.toArray⟩ : ByteArray).size ≤ 32768 := by omega
            have HM1 := Lib.hid hmeas
            have HM2 := Lib.hid hmeas2
            clear hr2z hmeas hmeas2 hlt1 hlt2
            go_wp2_with (at_builtin; refine wpList_append_own _ rfl _ _ 22 rfl w.heap.size 33 i0 (.agg #[.string ⟨#[]⟩, .string ⟨#[]⟩]) 2 32 Tryd.underlying22 hi hz0 hz1 hz2 rfl (by decide) _ _ _ rfl (hown3.alloc _) ⟨w3.heap.size, 0, none⟩ 1 1 [.string tb, .string ub] rfl rfl (World.news_of_block (heap_new _ _)) (two_str tb ub) (by unfold maxLen; omega) (by omega) (by simp; omega) ?_)
            intro v' w4 hown' hgrow _
            have HG := Lib.hid ((HB3.out.alloc hBz3 (.cells #[.string tb, .string ub] 33)).grown hgrow (by simp; omega) (fun j hj => (HO3.out.lt j hj).1))
            have HO' := Lib.hid hown'
            clear hown3 hgrow hown'
            go_wp2_with fail
            go_roundw
            case rel =>
              refine ⟨out ++ [(tb, ub)], ⟨r2.toArray⟩, rfl, by simp; omega, HM2.out, ?_, HRM.out, HG.out⟩
              rw [List.length_append, List.flatMap_append]
              exact HO'.out
            case measure => exact HM1.out
end Go.Proofs.YtdpigfcnphklgaaDoor
