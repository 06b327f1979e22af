/- A path's nodes: the reference's walk. (Printed by gen_gs3.py.) The labels of a path: plain law. The name of the label that a node is: both sides. A path's labels: both sides. (Printed by gen_gs5.py.) Labels' path: plain words. Labels' path: the walks of both sides. (Several texts in one file, by merge.py.) -/
import Derived.Test.YtnnfhcbopchodaaDoorZN9
import Derived.Test.YtnnfhcbopchodaaDoorZN1
import Derived.Test.YtnnfhcbopchodaaDoorZN8
import Derived.Laws.BytesString
import Derived.Laws.BytesArg
import Derived.Test.YtnnfhcbopchodaaDoorZN6
import Derived.Lib.Join
import Derived.Test.YtnnfhcbopchodaaDoorShelf
namespace Go.Proofs.YtnnfhcbopchodaaDoor
open Go Go.RowKit
set_option linter.unusedVariables false
set_option linter.unusedSimpArgs false
set_option maxRecDepth 100000
theorem own_slice' {w : World} {base : Nat} {e : TypeId} {sz n : Nat} {v : Value} {xs : List Value} (h : w.ownsRow base e sz v n xs) : ∃ a cap, v = .slice a n cap := by
  rcases h.2 with ⟨rfl, rfl⟩ | ⟨g, cap, cur, rfl, hg, hh, hr⟩
  · exact ⟨none, 0, rfl⟩
  · exact ⟨_, cap, rfl⟩
def rgB (c : Int) : Bool := (decide (65 ≤ c) && decide (c ≤ 90)) || (decide (97 ≤ c) && decide (c ≤ 122)) || decide (c = 95) || decide (c = 45) || digitB c
theorem rgB_isG (c : UInt8) : rgB (c.toNat : Int) = isG c := by
  have h : ∀ n : Fin 256, rgB ((n : Nat) : Int) = isG (UInt8.ofNat n) := by decide +kernel
  have := h ⟨c.toNat, c.toNat_lt⟩
  rw [this]
  simp
set_option maxHeartbeats 1000000 in
theorem rgis_any (c : Int) (w : World) : Calls Tryd.prog 7 #[.int .u8 c] w fun e w' => e = .returned (.bool (rgB c)) ∧ w' = w := by
  have HD := Lib.hid (fun w => rdigit_any c w)
  by_cases h1 : 65 ≤ c <;> by_cases h2 : c ≤ 90 <;> by_cases h3 : 97 ≤ c <;> by_cases h4 : c ≤ 122 <;> by_cases h5 : c = 95 <;> by_cases h6 : c = 45
  all_goals first | (exfalso; omega) | skip
  all_goals first | have h7 : (c == 95) = false := by simp; omega | have h7 : (c == 95) = true := by simp; omega
  all_goals first | have h8 : (c == 45) = false := by simp; omega | have h8 : (c == 45) = true := by simp; omega
  all_goals
    obtain ⟨db, hdb⟩ : ∃ b, b = digitB c := ⟨_, rfl⟩
    obtain ⟨r, hr⟩ : ∃ r, r = rgB c := ⟨_, rfl⟩
    rw [← hr]
    have hr2 : r = ((decide (65 ≤ c) && decide (c ≤ 90)) || (decide (97 ≤ c) && decide (c ≤ 122)) || decide (c = 95) || decide (c = 45) || db) := by rw [hr, hdb]; rfl
    rw [← hdb] at HD
    first
      | (have HR := Lib.hid (show r = true by rw [hr2]; simp [*])
         clear hdb hr hr2 h5 h6
         go_enter Tryd.func7, Tryd.ntmps7
         go_wp2_with fail
         go_ret
         exact ⟨ret_b HR.out.symm, rfl⟩)
      | (have HR := Lib.hid (show r = db by rw [hr2]; simp [*]; omega)
         clear hdb hr hr2 h5 h6
         go_enter Tryd.func7, Tryd.ntmps7
         go_wp2_with fail
         refine (HD.out _).mono ?_
         rintro e w1 ⟨rfl, rfl⟩
         go_wp2_with fail
         go_ret
         exact ⟨ret_b HR.out.symm, rfl⟩)
      | (have HR := Lib.hid (show r = db by rw [hr2]; simp [*])
         clear hdb hr hr2 h5 h6
         go_enter Tryd.func7, Tryd.ntmps7
         go_wp2_with fail
         refine (HD.out _).mono ?_
         rintro e w1 ⟨rfl, rfl⟩
         go_wp2_with fail
         go_ret
         exact ⟨ret_b HR.out.symm, rfl⟩)
theorem rgis_c (c : UInt8) (b : Bool) (hb : isG c = b) (w : World) : Calls Tryd.prog 7 #[.int .u8 c.toNat] w fun e w' => e = .returned (.bool b) ∧ w' = w := by
  rw [← hb, ← rgB_isG]; exact rgis_any _ w
def rsJ (s : ByteArray) (w : World) (k : Nat) (ov av : Value) (wr : World) : Prop :=
  ∃ (out : List (List UInt8)) (a : Nat), av = .int .i64 a ∧ wr.ownsRow w.heap.size 9 1 ov out.length (out.flatMap wenc) ∧ out.length ≤ k ∧ Below w.heap.size w wr ∧ a ≤ k ∧
    ((k ≤ s.size ∧ SpJ s.data.toList out a k) ∨ (k = s.size + 1 ∧ splitD s.data.toList = out ∧ out.all nodeOk = true))
set_option maxHeartbeats 4000000 in
theorem rsplit_any (s : ByteArray) (w : World) (hs : s.size ≤ 1000000) : Calls Tryd.prog 36 #[.string s] w fun e w' => SplitR s w e w' := by
  obtain ⟨i0, hi, hz0, hz1, hz2⟩ := info_parts Tryd.ginfoStr
  have HI := Lib.hid hi
  have HI0 := Lib.hid hz0
  have HI1 := Lib.hid hz1
  have HI2 := Lib.hid hz2
  clear hi hz0 hz1 hz2
  unfold SplitR
  go_enter Tryd.func36, Tryd.ntmps36
  go_wp2_with fail
  go_loopw [4, 5, 6] (fun ov av iv wr => ∃ k : Nat, iv = .int .i64 k ∧ Hid (rsJ s w k ov av wr)) (fun _ _ i _ => s.size + 2 - (intOf i).toNat)
  case atStart => exact ⟨0, rfl, [], 0, rfl, World.ownsRow_nil _ _ _ _, Nat.le_refl _, Below.refl _ _, Nat.le_refl _, .inl ⟨Nat.zero_le _, SpJ.start _⟩⟩
  case round =>
    obtain ⟨k, rfl, HJ⟩ := hrel
    obtain ⟨out, a, rfl, hown, hol, hW, hak, hcase⟩ := HJ.out
    have HOW := Lib.hid hown
    have HWW := Lib.hid hW
    have hWs := hW.size
    clear hown hW HJ
    rcases hcase with ⟨hks, hsp⟩ | ⟨rfl, hspl, hall⟩
    · have HSP := Lib.hid hsp
      have hle : (k : Int) ≤ (s.size : Int) := by omega
      clear hsp
      have HEND : (k = s.size ∨ s.data.toList[k]? = some 46) → True := fun _ => trivial
      clear HEND
      by_cases hlt : k < s.size
      · have hget : s.data.toList[k]? = some s[k] := by rw [bAt_some hlt, bAt_get hlt]
        by_cases h46 : s[k] = 46
        · have n46 : ((s[k].toNat : Int) != 46) = false := by rw [h46]; rfl
          have n46n : (s[k].toNat != 46) = false := by rw [h46]; rfl
          have HF := Lib.hid (HSP.out.fin (.inl (by rw [hget, h46])))
          have HNC := Lib.hid (node_cur HSP.out)
          clear hget h46
          by_cases hok : nodeOk (cur s.data.toList a k) = true
          · have HOK := Lib.hid (HF.out.2 hok)
            have hnc := HNC.out
            rw [hok] at hnc
            have hnc2 := hnc.symm
            simp only [Bool.and_eq_true, decide_eq_true_eq] at hnc2
            obtain ⟨ha1, ha2⟩ := hnc2
            have e1 : ((k : Int) == (a : Int)) = false := by rw [beq_eq_false_iff_ne]; omega
            have e1n : (k == a) = false := by rw [beq_eq_false_iff_ne]; omega
            have e2 : decide ((256 : Int) < (k : Int) - (a : Int)) = false := by rw [decide_eq_false_iff_not]; omega
            have e3 : IntKind.i64.wrap ((k : Int) - (a : Int)) = (k : Int) - (a : Int) := IntWalk.i64_in _ (by omega)
            have hak2 : (0 : Int) ≤ (a : Int) ∧ (a : Int) ≤ (k : Int) := by omega
            have HEX := Lib.hid (show [Value.string (s.extract a k)] = wenc (cur s.data.toList a k) by unfold wenc cur; rw [ext_word])
            clear hnc hok
            go_wp2_with (refine wpList_append_rd rfl (.tmp 37) (.tmp 42) _ rfl w.heap.size 9 i0 (.string ⟨#[]⟩) 1 16 Tryd.underlying28 HI.out HI0.out HI1.out HI2.out rfl (by decide) u4 out.length (out.flatMap wenc) rfl (World.ownsRow.alloc HOW.out _) (some ⟨wr.heap.size, 0, none⟩) 1 1 [.string (s.extract a k)] rfl (fun e => by cases e) rfl (fun ad e j u hu => by injection e with e; subst e; exact World.news_of_block (heap_new wr _) j u hu) (by intro u hu; simp at hu; rcases hu with rfl; rfl) (by unfold maxLen; omega) (by omega) (by simp; omega) ?_; intro v' w2 hown' hgrow)
            go_roundw
            case rel =>
              refine ⟨k + 1, by go_num, out ++ [cur s.data.toList a k], k + 1, by go_num, ?_, by rw [List.length_append]; simp; omega, ((HWW.out.alloc hWs _).grown hgrow (by simp; omega) (fun j hj => (HOW.out.lt j hj).1)), Nat.le_refl _, ?_⟩
              · rw [List.length_append, List.flatMap_append, show ([cur s.data.toList a k] : List (List UInt8)).flatMap wenc = wenc (cur s.data.toList a k) by simp, ← HEX.out]
                exact hown'
              · exact .inl ⟨hlt, HOK.out.1 hlt⟩
            case measure => simp [intOf]; omega
          · have hok : nodeOk (cur s.data.toList a k) = false := by simpa using hok
            have HALL := Lib.hid (HF.out.1 hok)
            have hnc := HNC.out
            rw [hok] at hnc
            have hnc2 := hnc.symm
            rw [Bool.and_eq_false_iff] at hnc2
            simp only [decide_eq_false_iff_not] at hnc2
            by_cases hka : k = a
            · have e1 : ((k : Int) == (a : Int)) = true := by rw [beq_iff_eq]; omega
              have e1n : (k == a) = true := by rw [beq_iff_eq]; exact hka
              clear hnc hok hnc2 hka
              go_wp2_with fail
              go_ret2
              exact ⟨HWW.out, .inr ⟨HALL.out, rfl⟩⟩
            · have e1 : ((k : Int) == (a : Int)) = false := by rw [beq_eq_false_iff_ne]; omega
              have e1n : (k == a) = false := by rw [beq_eq_false_iff_ne]; omega
              have e2 : decide ((256 : Int) < (k : Int) - (a : Int)) = true := by rw [decide_eq_true_iff]; omega
              have e3 : IntKind.i64.wrap ((k : Int) - (a : Int)) = (k : Int) - (a : Int) := IntWalk.i64_in _ (by omega)
              clear hnc hok hnc2 hka
              go_wp2_with fail
              go_ret2
              exact ⟨HWW.out, .inr ⟨HALL.out, rfl⟩⟩
        · have n46 : ((s[k].toNat : Int) != 46) = true := by
            have := gu8_ne s[k] 46 (by decide)
            rw [show ((46 : Nat) : Int) = 46 from rfl] at this
            rw [this]; simpa using h46
          have n46n : (s[k].toNat != 46) = true := by
            have : s[k].toNat ≠ 46 := fun e => h46 (UInt8.toNat_inj.1 (by rw [e]; rfl))
            simpa using this
          obtain ⟨gv, hgv⟩ : ∃ gv, isG s[k] = gv := ⟨_, rfl⟩
          have HIS := Lib.hid (rgis_c s[k] gv hgv)
          cases gv with
          | true =>
            have HSP2 := Lib.hid (HSP.out.char hget h46 hgv)
            clear hget h46 hgv
            go_wp2_with fail
            refine (HIS.out _).mono ?_
            rintro e w5 ⟨rfl, rfl⟩
            go_wp2_with fail
            go_roundw
            case rel => exact ⟨k + 1, by go_num, out, a, rfl, HOW.out, by omega, HWW.out, by omega, .inl ⟨hlt, HSP2.out⟩⟩
            case measure => simp [intOf]; omega
          | false =>
            have HALL := Lib.hid (HSP.out.bad hget h46 hgv)
            clear hget h46 hgv
            go_wp2_with fail
            refine (HIS.out _).mono ?_
            rintro e w5 ⟨rfl, rfl⟩
            go_wp2_with fail
            go_ret2
            exact ⟨HWW.out, .inr ⟨HALL.out, rfl⟩⟩
      · have HF := Lib.hid (HSP.out.fin (.inr (show k = s.data.toList.length from by have : s.data.toList.length = s.size := rfl; omega)))
        have HNC := Lib.hid (node_cur HSP.out)
        by_cases hok : nodeOk (cur s.data.toList a k) = true
        · have HOK := Lib.hid (HF.out.2 hok)
          have hnc := HNC.out
          rw [hok] at hnc
          have hnc2 := hnc.symm
          simp only [Bool.and_eq_true, decide_eq_true_eq] at hnc2
          obtain ⟨ha1, ha2⟩ := hnc2
          have e1 : ((k : Int) == (a : Int)) = false := by rw [beq_eq_false_iff_ne]; omega
          have e1n : (k == a) = false := by rw [beq_eq_false_iff_ne]; omega
          have e2 : decide ((256 : Int) < (k : Int) - (a : Int)) = false := by rw [decide_eq_false_iff_not]; omega
          have e3 : IntKind.i64.wrap ((k : Int) - (a : Int)) = (k : Int) - (a : Int) := IntWalk.i64_in _ (by omega)
          have hak2 : (0 : Int) ≤ (a : Int) ∧ (a : Int) ≤ (k : Int) := by omega
          have HEX := Lib.hid (show [Value.string (s.extract a k)] = wenc (cur s.data.toList a k) by unfold wenc cur; rw [ext_word])
          clear hnc hok
          go_wp2_with (refine wpList_append_rd rfl (.tmp 37) (.tmp 42) _ rfl w.heap.size 9 i0 (.string ⟨#[]⟩) 1 16 Tryd.underlying28 HI.out HI0.out HI1.out HI2.out rfl (by decide) u4 out.length (out.flatMap wenc) rfl (World.ownsRow.alloc HOW.out _) (some ⟨wr.heap.size, 0, none⟩) 1 1 [.string (s.extract a k)] rfl (fun e => by cases e) rfl (fun ad e j u hu => by injection e with e; subst e; exact World.news_of_block (heap_new wr _) j u hu) (by intro u hu; simp at hu; rcases hu with rfl; rfl) (by unfold maxLen; omega) (by omega) (by simp; omega) ?_; intro v' w2 hown' hgrow)
          go_roundw
          case rel =>
            refine ⟨k + 1, by go_num, out ++ [cur s.data.toList a k], k + 1, by go_num, ?_, by rw [List.length_append]; simp; omega, ((HWW.out.alloc hWs _).grown hgrow (by simp; omega) (fun j hj => (HOW.out.lt j hj).1)), Nat.le_refl _, ?_⟩
            · rw [List.length_append, List.flatMap_append, show ([cur s.data.toList a k] : List (List UInt8)).flatMap wenc = wenc (cur s.data.toList a k) by simp, ← HEX.out]
              exact hown'
            · obtain rfl : k = s.size := by omega
              exact .inr ⟨rfl, (HOK.out.2 rfl).1, by rw [← (HOK.out.2 rfl).1]; exact (HOK.out.2 rfl).2⟩
          case measure => simp [intOf]; omega
        · have hok : nodeOk (cur s.data.toList a k) = false := by simpa using hok
          have HALL := Lib.hid (HF.out.1 hok)
          have hnc := HNC.out
          rw [hok] at hnc
          have hnc2 := hnc.symm
          rw [Bool.and_eq_false_iff] at hnc2
          simp only [decide_eq_false_iff_not] at hnc2
          by_cases hka : k = a
          · have e1 : ((k : Int) == (a : Int)) = true := by rw [beq_iff_eq]; omega
            have e1n : (k == a) = true := by rw [beq_iff_eq]; exact hka
            clear hnc hok hnc2 hka
            go_wp2_with fail
            go_ret2
            exact ⟨HWW.out, .inr ⟨HALL.out, rfl⟩⟩
          · have e1 : ((k : Int) == (a : Int)) = false := by rw [beq_eq_false_iff_ne]; omega
            have e1n : (k == a) = false := by rw [beq_eq_false_iff_ne]; omega
            have e2 : decide ((256 : Int) < (k : Int) - (a : Int)) = true := by rw [decide_eq_true_iff]; omega
            have e3 : IntKind.i64.wrap ((k : Int) - (a : Int)) = (k : Int) - (a : Int) := IntWalk.i64_in _ (by omega)
            clear hnc hok hnc2 hka
            go_wp2_with fail
            go_ret2
            exact ⟨HWW.out, .inr ⟨HALL.out, rfl⟩⟩
    · have HSPL := Lib.hid hspl
      have HALL := Lib.hid hall
      obtain ⟨ao, co, rfl⟩ := own_slice' HOW.out
      clear hspl hall
      go_wp2_with fail
      go_ret2
      exact ⟨HWW.out, .inl ⟨by rw [HSPL.out]; exact HALL.out, _, by rw [HSPL.out]; rfl, by rw [HSPL.out]; exact Sl.own wenc_len (by decide) HOW.out⟩⟩
end Go.Proofs.YtnnfhcbopchodaaDoor
namespace Go.Proofs.YtnnfhcbopchodaaDoor
open Go Go.RowKit
set_option linter.unusedVariables false
set_option linter.unusedSimpArgs false
set_option maxRecDepth 100000
/-- The name of the label that a node is. -/
def nodeNm (i : Nat) : ByteArray := ⟨#[95, 95, 103]⟩ ++ itoaB i ++ ⟨#[95, 95]⟩
theorem nodeNm_ok : ∀ i : Fin 31, nameB (nodeNm i) = true := by decide +kernel
theorem nodeNm_inj : ∀ i j : Fin 31, (nodeNm i).toList = (nodeNm j).toList → i = j := by decide +kernel
def labG (s : List UInt8) : List Lb := (List.range (splitD s).length).map fun i => (nodeNm i, ⟨((splitD s).getD i []).toArray⟩)
theorem okFrom_nodup : ∀ (l : List Lb) (p : Option ByteArray), (∀ x ∈ l, nameB x.1 = true ∧ x.2.size ≤ 256) → (l.map (·.1)).Nodup → (∀ x ∈ l, p ≠ some x.1) → okFrom p l = true
  | [], _, _, _, _ => rfl
  | x :: r, p, h, hn, hp => by
    rw [List.map_cons, List.nodup_cons] at hn
    unfold okFrom
    have h1 := h x (by simp)
    rw [h1.1, decide_eq_true h1.2, decide_eq_false (hp x (by simp)), okFrom_nodup r (some x.1) (fun y hy => h y (by simp [hy])) hn.2 (fun y hy e => hn.1 (by
      injection e with e
      rw [e]; exact List.mem_map_of_mem hy))]
    rfl
/-- labels.Set of a path's labels answers them. -/
theorem set_path {s : List UInt8} (h : okG s = true) {l : List Lb} (hp : l.Perm (labG s)) : setOk l = true ∧ keepL l = l := by
  unfold okG at h
  simp only [Bool.and_eq_true, List.all_eq_true, decide_eq_true_eq] at h
  obtain ⟨hn, hl⟩ := h
  have hall : ∀ x ∈ labG s, nameB x.1 = true ∧ x.2.size ≤ 256 ∧ 0 < x.2.size := by
    intro x hx
    unfold labG at hx
    obtain ⟨i, hi, rfl⟩ := List.mem_map.1 hx
    have hi := List.mem_range.1 hi
    have hm : (splitD s).getD i [] ∈ splitD s := by rw [List.getD_eq_getElem?_getD, List.getElem?_eq_getElem hi]; exact List.getElem_mem hi
    have := hn _ hm
    unfold nodeOk at this
    simp only [Bool.and_eq_true, Bool.not_eq_true', List.isEmpty_eq_false_iff, decide_eq_true_eq] at this
    refine ⟨nodeNm_ok ⟨i, by omega⟩, ?_, ?_⟩
    · show ((splitD s).getD i []).toArray.size ≤ 256
      rw [List.size_toArray]; exact this.1.2
    · show 0 < ((splitD s).getD i []).toArray.size
      rw [List.size_toArray]; exact List.length_pos_iff.2 this.1.1
  have hnd : ((labG s).map (·.1)).Nodup := by
    unfold labG
    rw [List.map_map, List.Nodup, List.pairwise_map]
    refine List.nodup_range.imp_of_mem ?_
    intro i j hi hj hne e
    have hi := List.mem_range.1 hi
    have hj := List.mem_range.1 hj
    apply hne
    have := nodeNm_inj ⟨i, by omega⟩ ⟨j, by omega⟩ (congrArg ByteArray.toList e)
    exact congrArg Fin.val this
  have hk : keepL l = l := by
    unfold keepL
    rw [List.filter_eq_self]
    intro x hx
    exact decide_eq_true (hall x (hp.subset hx)).2.2
  refine ⟨?_, hk⟩
  unfold setOk
  rw [hk, okFrom_nodup l none (fun x hx => ⟨(hall x (hp.subset hx)).1, (hall x (hp.subset hx)).2.1⟩) ((hp.map (·.1)).nodup_iff.2 hnd) (fun x _ => by simp)]
  rw [Bool.true_and]
  refine decide_eq_true ?_
  rw [hp.length_eq]
  unfold labG
  simp
  omega
end Go.Proofs.YtnnfhcbopchodaaDoor
namespace Go.Proofs.YtnnfhcbopchodaaDoor
open Go Go.RowKit
set_option linter.unusedVariables false
set_option linter.unusedSimpArgs false
set_option maxRecDepth 100000
def ndS (i : Int) : ByteArray := if 0 ≤ i ∧ i < 31 then nodeNm i.toNat else ⟨#[]⟩
theorem ndS_no {i : Int} (h : i < 0 ∨ 31 ≤ i) : ndS i = ⟨#[]⟩ := if_neg (by omega)
theorem ndS_yes (i : Nat) (h : i < 31) : ndS i = nodeNm i := by unfold ndS; rw [if_pos (by omega)]; simp
theorem gnode_any (i : Int) (w : World) (ht : Tab w) (hl : -9223372036854775808 ≤ i) (hu : i ≤ 9223372036854775807) :
    Calls Tryd.prog 20 #[.int .i64 i] w fun e w' => e = .returned (.string (ndS i)) ∧ Below w.heap.size w w' := by
  by_cases h1 : i < 0
  · have HE := Lib.hid (ndS_no (.inl h1))
    have g1 : decide (i < 0) = true := decide_eq_true h1
    go_enter Tryd.func20, Tryd.ntmps20
    go_wp2_with fail
    go_ret
    exact ⟨by rw [HE.out]; rfl, Below.refl _ _⟩
  · have g1 : decide (i < 0) = false := decide_eq_false h1
    by_cases h2 : 31 ≤ i
    · have HE := Lib.hid (ndS_no (.inr h2))
      have g2 : decide (31 ≤ i) = true := decide_eq_true h2
      go_enter Tryd.func20, Tryd.ntmps20
      go_wp2_with fail
      go_ret
      exact ⟨by rw [HE.out]; rfl, Below.refl _ _⟩
    · have g2 : decide (31 ≤ i) = false := decide_eq_false h2
      have HT := Lib.hid (itoa_any i w hl hu ht)
      have HE := Lib.hid (show ndS i = ⟨#[95, 95, 103]⟩ ++ itoaB i ++ ⟨#[95, 95]⟩ by
        have := ndS_yes i.toNat (by omega)
        rw [Int.toNat_of_nonneg (by omega)] at this
        rw [this]
        unfold nodeNm
        rw [Int.toNat_of_nonneg (by omega)])
      have hsz := itoaB_size (n := i) (by omega) hu
      clear ht
      go_enter Tryd.func20, Tryd.ntmps20
      go_wp2_with fail
      refine HT.out.mono ?_
      rintro e w1 ⟨rfl, hb⟩
      have HB := Lib.hid hb
      clear hb
      go_wp2_with fail
      go_ret
      exact ⟨by rw [HE.out]; rfl, HB.out⟩
theorem gconv1 (w : World) (x : Int) : (convert 63 9 (.slice (some ⟨w.heap.size, 0, none⟩) 1 1)).run Tryd.prog (w.alloc (.cells #[.int .u8 x] 5)) = .ok (.string (strOfNums [x])) (w.alloc (.cells #[.int .u8 x] 5)) := by
  refine run_convert_bytes_arg _ _ _ Tryd.underlying63 Tryd.underlying5 _ _ _ _ [x] rfl (fun i hi => ?_) _ Tryd.underlying9
  obtain rfl : i = 0 := by simp at hi; omega
  exact World.cell?_alloc_at _ _ _ _ rfl
theorem gconv2 (w : World) (x y : Int) : (convert 63 9 (.slice (some ⟨w.heap.size, 0, none⟩) 2 2)).run Tryd.prog (w.alloc (.cells #[.int .u8 x, .int .u8 y] 5)) = .ok (.string (strOfNums [x, y])) (w.alloc (.cells #[.int .u8 x, .int .u8 y] 5)) := by
  refine run_convert_bytes_arg _ _ _ Tryd.underlying63 Tryd.underlying5 _ _ _ _ [x, y] rfl (fun i hi => ?_) _ Tryd.underlying9
  have : i = 0 ∨ i = 1 := by simp at hi; omega
  rcases this with rfl | rfl
  · exact World.cell?_alloc_at _ _ _ _ rfl
  · exact World.cell?_alloc_at _ _ _ _ rfl
theorem dec1 (n : Nat) (h : n < 10) : strOfNums [(48 : Int) + (n : Int)] = itoaB n := by
  have h2 : ∀ n : Fin 10, strOfNums [(48 : Int) + ((n : Nat) : Int)] = itoaB ((n : Nat) : Int) := by decide +kernel
  exact h2 ⟨n, h⟩
theorem dec2 (n : Nat) (h1 : 10 ≤ n) (h : n < 31) : strOfNums [(48 : Int) + (n : Int) / 10, (48 : Int) + (n : Int) % 10] = itoaB n := by
  have h2 : ∀ n : Fin 31, 10 ≤ (n : Nat) → strOfNums [(48 : Int) + ((n : Nat) : Int) / 10, (48 : Int) + ((n : Nat) : Int) % 10] = itoaB ((n : Nat) : Int) := by decide +kernel
  exact h2 ⟨n, h⟩ h1
theorem rdec23_any (n : Nat) (w : World) (h : n < 31) : Calls Tryd.prog 44 #[.int .i64 n] w fun e w' => e = .returned (.string (itoaB n)) ∧ Below w.heap.size w w' := by
  have hk := gconv1
  have hk2 := gconv2
  have m1 := Int.emod_nonneg (n : Int) (b := 10) (by omega)
  have m2 := Int.emod_lt_of_pos (n : Int) (b := 10) (by omega)
  have q1 : 0 ≤ (n : Int) / 10 := by omega
  have q2 : (n : Int) / 10 ≤ 3 := by omega
  by_cases hlt : n < 10
  · have HD := Lib.hid (dec1 n hlt)
    have g1 : decide ((n : Int) < 10) = true := by rw [decide_eq_true_iff]; omega
    have u1 : IntKind.u8.wrap (48 + (n : Int)) = 48 + (n : Int) := IntWalk.u8_in _ (by omega)
    go_enter Tryd.func44, Tryd.ntmps44
    go_wp2_with fail
    go_ret
    exact ⟨by rw [← HD.out]; rfl, (Below.refl _ _).alloc (Nat.le_refl _) _⟩
  · have HD := Lib.hid (dec2 n (by omega) h)
    have g1 : decide ((n : Int) < 10) = false := by rw [decide_eq_false_iff_not]; omega
    have u1 : IntKind.u8.wrap (48 + (n : Int) / 10) = 48 + (n : Int) / 10 := IntWalk.u8_in _ (by omega)
    have u2 : IntKind.u8.wrap (48 + (n : Int) % 10) = 48 + (n : Int) % 10 := IntWalk.u8_in _ (by omega)
    have hn0 : (0 : Int) ≤ (n : Int) := by omega
    go_enter Tryd.func44, Tryd.ntmps44
    go_wp2_with fail
    go_ret
    exact ⟨by rw [← HD.out]; rfl, (Below.refl _ _).alloc (Nat.le_refl _) _⟩
theorem rnode_any (i : Int) (w : World) (hl : -9223372036854775808 ≤ i) (hu : i ≤ 9223372036854775807) :
    Calls Tryd.prog 21 #[.int .i64 i] w fun e w' => e = .returned (.string (ndS i)) ∧ Below w.heap.size w w' := by
  by_cases h1 : i < 0
  · have HE := Lib.hid (ndS_no (.inl h1))
    have g1 : decide (i < 0) = true := decide_eq_true h1
    go_enter Tryd.func21, Tryd.ntmps21
    go_wp2_with fail
    go_ret
    exact ⟨by rw [HE.out]; rfl, Below.refl _ _⟩
  · have g1 : decide (i < 0) = false := decide_eq_false h1
    by_cases h2 : 31 ≤ i
    · have HE := Lib.hid (ndS_no (.inr h2))
      have g2 : decide (30 < i) = true := decide_eq_true (by omega)
      go_enter Tryd.func21, Tryd.ntmps21
      go_wp2_with fail
      go_ret
      exact ⟨by rw [HE.out]; rfl, Below.refl _ _⟩
    · have g2 : decide (30 < i) = false := decide_eq_false (by omega)
      obtain ⟨n, rfl⟩ : ∃ n : Nat, i = n := ⟨i.toNat, by omega⟩
      have hn31 : n < 31 := by omega
      have HT := Lib.hid (rdec23_any n w hn31)
      have HE := Lib.hid (show ndS n = ⟨#[95, 95, 103]⟩ ++ itoaB n ++ ⟨#[95, 95]⟩ from ndS_yes n hn31)
      have hsz := itoaB_size (n := (n : Int)) (by omega) hu
      go_enter Tryd.func21, Tryd.ntmps21
      go_wp2_with fail
      refine HT.out.mono ?_
      rintro e w1 ⟨rfl, hb⟩
      have HB := Lib.hid hb
      clear hb
      go_wp2_with fail
      go_ret
      exact ⟨by rw [HE.out]; rfl, HB.out⟩
end Go.Proofs.YtnnfhcbopchodaaDoor
namespace Go.Proofs.YtnnfhcbopchodaaDoor
open Go Go.RowKit
set_option linter.unusedVariables false
set_option linter.unusedSimpArgs false
set_option maxRecDepth 100000
theorem Tryd.ginfoLb : (Tryd.prog.info? 88).map (fun i => (i.zero, i.size, i.bytes)) = some (some (.agg #[.string ⟨#[]⟩, .string ⟨#[]⟩]), 2, 32) := by kernel_rfl
theorem labG_snoc (l : List UInt8) (k : Nat) (h : k < (splitD l).length) : (labG l).take (k + 1) = (labG l).take k ++ [(nodeNm k, bsl (splitD l)[k])] := by
  have hl : (labG l)[k]? = some (nodeNm k, bsl (splitD l)[k]) := by
    unfold labG
    rw [List.getElem?_map, List.getElem?_range h, Option.map_some, List.getD_eq_getElem?_getD, List.getElem?_eq_getElem h]
    rfl
  rw [List.take_add_one, hl]
  rfl
/-- The labels of a path, in order. -/
def labS (l : List UInt8) : List Lb := insL (keepL (labG l))
def LabQ (l : List UInt8) (w : World) (e : Ending) (w' : World) : Prop := Below w.heap.size w w' ∧
  ((okG l = true ∧ ∃ v, e = .returned (.tuple #[v, .int .i64 0]) ∧ Sl lenc w' v (labS l)) ∨ (okG l = false ∧ e = .returned (.tuple #[.slice none 0 0, .int .i64 2])))
theorem gcset_any (v : Value) (l : List Lb) (w : World) (h : Sl lenc w v l) (hl : l.length ≤ 100000) :
    Calls Tryd.prog 34 #[v] w fun e w' => RSet l w e w' := by
  refine (set_any v l w h hl).mono ?_
  rintro e w' ⟨l', hp, hs, hb, hh⟩
  obtain ⟨h1, h2⟩ := set_same hp hs
  refine ⟨hb, ?_⟩
  rcases hh with ⟨ho, v', rfl, hsl⟩ | ⟨ho, rfl⟩
  · exact .inl ⟨(h1.1 ho).1, (h1.1 ho).2, v', rfl, by rw [← h2 ho]; exact hsl⟩
  · exact .inr ⟨(fun hc => by rw [h1.2 hc] at ho; cases ho), rfl⟩
theorem okP_path {l : List UInt8} (h : okG l = true) : OkP (labG l) ∧ (keepL (labG l)).length ≤ 32 := by
  have h2 := (set_path h (List.Perm.refl (labG l))).2
  have h' := h
  unfold okG at h
  simp only [Bool.and_eq_true, List.all_eq_true, decide_eq_true_eq] at h
  obtain ⟨hn, hl⟩ := h
  refine ⟨⟨fun x hx => ?_, ?_⟩, by rw [h2]; unfold labG; simp; omega⟩
  · unfold labG at hx
    obtain ⟨i, hi, rfl⟩ := List.mem_map.1 hx
    have hi := List.mem_range.1 hi
    have hm : (splitD l).getD i [] ∈ splitD l := by rw [List.getD_eq_getElem?_getD, List.getElem?_eq_getElem hi]; exact List.getElem_mem hi
    have := hn _ hm
    unfold nodeOk at this
    simp only [Bool.and_eq_true, decide_eq_true_eq] at this
    refine ⟨nodeNm_ok ⟨i, by omega⟩, ?_⟩
    show ((splitD l).getD i []).toArray.size ≤ 256
    rw [List.size_toArray]; exact this.1.2
  · unfold labG
    rw [List.pairwise_map]
    refine List.nodup_range.imp_of_mem ?_
    intro i j hi hj hne e
    have hi := List.mem_range.1 hi
    have hj := List.mem_range.1 hj
    apply hne
    have := nodeNm_inj ⟨i, by omega⟩ ⟨j, by omega⟩ (congrArg ByteArray.toList e)
    exact congrArg Fin.val this
set_option maxHeartbeats 4000000 in
theorem glabels_any (s : ByteArray) (w : World) (hk : KW w) (hs : s.size ≤ 1000000) : Calls Tryd.prog 13 #[.string s] w fun e w' => LabQ s.data.toList w e w' := by
  have HSP := Lib.hid (split_any s w hk hs)
  have HKW := Lib.hid hk
  obtain ⟨l, hl⟩ : ∃ l, l = s.data.toList := ⟨_, rfl⟩
  unfold SplitR at HSP
  rw [← hl] at HSP ⊢
  obtain ⟨i0, hi, hz0, hz1, hz2⟩ := info_parts Tryd.ginfoLb
  have HI := Lib.hid hi
  have HI0 := Lib.hid hz0
  have HI1 := Lib.hid hz1
  have HI2 := Lib.hid hz2
  clear hi hz0 hz1 hz2 hl hk
  go_enter Tryd.func13, Tryd.ntmps13
  go_wp2_with fail
  refine HSP.out.mono ?_
  rintro e w1 ⟨hb1, hres⟩
  have HB1 := Lib.hid hb1
  rcases hres with ⟨hall, v, rfl, hsl⟩ | ⟨hall, rfl⟩
  · by_cases h31 : (splitD l).length ≤ 31
    · have HOK := Lib.hid (show okG l = true by unfold okG; rw [hall, decide_eq_true h31]; rfl)
      have hd31 : decide (((splitD l).length : Int) ≤ 31) = true := by rw [decide_eq_true_iff]; omega
      rw [hd31]
      obtain ⟨L, hL⟩ : ∃ L, L = splitD l := ⟨_, rfl⟩
      rw [← hL] at h31 hsl
      have HLAB := Lib.hid (show ∀ k, (h : k < L.length) → (labG l).take (k + 1) = (labG l).take k ++ [(nodeNm k, bsl L[k])] by
        intro k h
        subst hL
        exact labG_snoc l k h)
      have HLEN := Lib.hid (show (labG l).length = L.length by rw [hL]; unfold labG; simp)
      obtain ⟨al, cl, rfl, hcl, -, hlc⟩ := hsl.split wenc_len
      have HLC := Lib.hid hlc
      clear hall hd31 hL hsl hlc hb1
      go_wp2_with fail
      go_loopw [6, 18] (fun ov iv wr => ∃ k : Nat, iv = .int .i64 k ∧ k ≤ L.length ∧ Hid (wr.ownsRow w1.heap.size 88 2 ov k (((labG l).take k).flatMap lenc)) ∧ Hid (Below w1.heap.size w1 wr)) (fun _ i _ => L.length - (intOf i).toNat)
      case atStart => exact ⟨0, rfl, Nat.zero_le _, World.ownsRow_nil _ _ _ _, Below.refl _ _⟩
      case round =>
        obtain ⟨k, rfl, hkl, HO, HW⟩ := hrel
        have hws := HW.out.size
        by_cases hlt : k < L.length
        · obtain ⟨bl, ol, hal, hlc⟩ := HLC.out k hlt
          subst hal
          have c0 := cell_below HW.out (Nat.le_refl _) (hlc 0 _ rfl)
          simp only [Nat.mul_one, Nat.add_zero] at c0
          have HT := Lib.hid (HLAB.out k hlt)
          obtain ⟨x, hx⟩ : ∃ x, x = L[k] := ⟨_, rfl⟩
          rw [← hx] at HT
          replace c0 : wr.cell? ⟨bl, ol + k, none⟩ = some (.string (bsl x)) := by rw [hx]; exact c0
          have HND := Lib.hid (gnode_any (k : Int) wr (((HKW.out.below HB1.out).below HW.out).1) (by omega) (by omega))
          rw [ndS_yes k (by omega)] at HND
          have h0k : (0 : Int) ≤ (k : Int) := by omega
          clear hx hlc
          go_wp2_with fail
          refine HND.out.mono ?_
          rintro e w3 ⟨rfl, hb3⟩
          have HW3 := Lib.hid (HW.out.trans (hb3.mono hws))
          have hws3 := HW3.out.size
          have HO3 := Lib.hid (HO.out.kept (below_grownBy hb3) (by
            cases hq : u6.ownBlock with
            | none => exact .inl rfl
            | some q => exact .inr (by simp)))
          clear hb3
          go_wp2_with (refine wpList_append_rd rfl (.tmp 23) (.tmp 28) _ rfl w1.heap.size 88 i0 _ 2 32 Tryd.underlying39 HI.out HI0.out HI1.out HI2.out rfl (by decide) u6 k (((labG l).take k).flatMap lenc) rfl (World.ownsRow.alloc HO3.out _) (some ⟨w3.heap.size, 0, none⟩) 1 1 [.string (nodeNm k), .string (bsl x)] rfl (fun e => by cases e) rfl (fun ad e j u hu => by injection e with e; subst e; exact World.news_of_block (heap_new w3 _) j u hu) (by intro u hu; simp at hu; rcases hu with rfl | rfl <;> rfl) (by unfold maxLen; omega) (by omega) (by simp; omega) ?_; intro v' w4 hown' hgrow)
          go_roundw
          case rel =>
            refine ⟨k + 1, by go_num, by omega, ?_, ((HW3.out.alloc hws3 _).grown hgrow (by simp; omega) (fun j hj => (HO3.out.lt j hj).1))⟩
            unfold Hid
            rw [HT.out, List.flatMap_append]
            exact hown'
          case measure => simp [intOf]; omega
        · obtain rfl : k = L.length := by omega
          have hst := HO.out
          rw [List.take_of_length_le (by rw [HLEN.out]; exact Nat.le_refl _)] at hst
          have hst2 : Sl lenc wr u6 (labG l) := by
            have h1 := HLEN.out
            rw [← h1] at hst
            exact Sl.own lenc_len (by decide) hst
          have HSET := Lib.hid (gcset_any u6 (labG l) wr hst2 (by rw [HLEN.out]; omega))
          clear hst hst2
          go_wp2_with fail
          refine HSET.out.mono ?_
          rintro e w5 ⟨hb5, hr5⟩
          obtain ⟨hp1, hp2⟩ := okP_path HOK.out
          rcases hr5 with ⟨-, -, v5, rfl, hs5⟩ | ⟨hno, -⟩
          · go_wp2_with fail
            go_ret2
            exact ⟨HB1.out.trans ((HW.out.trans (hb5.mono hws)).mono HB1.out.size), .inl ⟨HOK.out, v5, rfl, hs5⟩⟩
          · exact absurd ⟨hp1, hp2⟩ hno
    · have HNO := Lib.hid (show okG l = false by unfold okG; rw [decide_eq_false h31, Bool.and_false])
      have hd31 : decide (((splitD l).length : Int) ≤ 31) = false := by rw [decide_eq_false_iff_not]; omega
      rw [hd31]
      clear hall hsl hb1
      go_wp2_with fail
      go_ret2
      exact ⟨HB1.out, .inr ⟨HNO.out, rfl⟩⟩
  · have HNO := Lib.hid (show okG l = false by unfold okG; rw [hall, Bool.false_and])
    clear hall hb1
    go_wp2_with fail
    go_ret2
    exact ⟨HB1.out, .inr ⟨HNO.out, rfl⟩⟩
set_option maxHeartbeats 4000000 in
theorem rlabels_any (s : ByteArray) (w : World) (hs : s.size ≤ 1000000) : Calls Tryd.prog 16 #[.string s] w fun e w' => LabQ s.data.toList w e w' := by
  have HSP := Lib.hid (rsplit_any s w hs)

  obtain ⟨l, hl⟩ : ∃ l, l = s.data.toList := ⟨_, rfl⟩
  unfold SplitR at HSP
  rw [← hl] at HSP ⊢
  obtain ⟨i0, hi, hz0, hz1, hz2⟩ := info_parts Tryd.ginfoLb
  have HI := Lib.hid hi
  have HI0 := Lib.hid hz0
  have HI1 := Lib.hid hz1
  have HI2 := Lib.hid hz2
  clear hi hz0 hz1 hz2 hl
  go_enter Tryd.func16, Tryd.ntmps16
  go_wp2_with fail
  refine HSP.out.mono ?_
  rintro e w1 ⟨hb1, hres⟩
  have HB1 := Lib.hid hb1
  rcases hres with ⟨hall, v, rfl, hsl⟩ | ⟨hall, rfl⟩
  · by_cases h31 : (splitD l).length ≤ 31
    · have HOK := Lib.hid (show okG l = true by unfold okG; rw [hall, decide_eq_true h31]; rfl)
      have hd31 : decide (((splitD l).length : Int) ≤ 31) = true := by rw [decide_eq_true_iff]; omega
      rw [hd31]
      obtain ⟨L, hL⟩ : ∃ L, L = splitD l := ⟨_, rfl⟩
      rw [← hL] at h31 hsl
      have HLAB := Lib.hid (show ∀ k, (h : k < L.length) → (labG l).take (k + 1) = (labG l).take k ++ [(nodeNm k, bsl L[k])] by
        intro k h
        subst hL
        exact labG_snoc l k h)
      have HLEN := Lib.hid (show (labG l).length = L.length by rw [hL]; unfold labG; simp)
      obtain ⟨al, cl, rfl, hcl, -, hlc⟩ := hsl.split wenc_len
      have HLC := Lib.hid hlc
      clear hall hd31 hL hsl hlc hb1
      go_wp2_with fail
      go_loopw [6, 7] (fun ov iv wr => ∃ k : Nat, iv = .int .i64 k ∧ k ≤ L.length ∧ Hid (wr.ownsRow w1.heap.size 88 2 ov k (((labG l).take k).flatMap lenc)) ∧ Hid (Below w1.heap.size w1 wr)) (fun _ i _ => L.length - (intOf i).toNat)
      case atStart => exact ⟨0, rfl, Nat.zero_le _, World.ownsRow_nil _ _ _ _, Below.refl _ _⟩
      case round =>
        obtain ⟨k, rfl, hkl, HO, HW⟩ := hrel
        have hws := HW.out.size
        by_cases hlt : k < L.length
        · obtain ⟨bl, ol, hal, hlc⟩ := HLC.out k hlt
          subst hal
          have hblt : bl < w1.heap.size := World.block_lt_of_cell? w1 _ (hlc 0 _ rfl)
          have c0 := cell_below HW.out (Nat.le_refl _) (hlc 0 _ rfl)
          simp only [Nat.mul_one, Nat.add_zero] at c0
          have HT := Lib.hid (HLAB.out k hlt)
          obtain ⟨x, hx⟩ : ∃ x, x = L[k] := ⟨_, rfl⟩
          rw [← hx] at HT
          replace c0 : wr.cell? ⟨bl, ol + k, none⟩ = some (.string (bsl x)) := by rw [hx]; exact c0
          have HND := Lib.hid (fun w => rnode_any (k : Int) w (by omega) (by omega))
          rw [ndS_yes k (by omega)] at HND
          have h0k : (0 : Int) ≤ (k : Int) := by omega
          have hown := HO.out
          have hnb : some bl ≠ u6.ownBlock := fun e => by have := (hown.lt bl e.symm).1; omega
          have hi := HI.out
          have hz0 := HI0.out
          have hz1 := HI1.out
          have hz2 := HI2.out
          have HHI := Lib.hid (And.intro hi (And.intro hz0 (And.intro hz1 hz2)))
          clear hx hlc hi hz0 hz1 hz2
          go_wp2_with fail
          go_region_held3 (fun w' => w'.cell? ⟨bl, ol + k, none⟩ = some (.string (bsl x)))
            (first
              | exact hgrow.cell (cell_below (B := wr.heap.size) (by go_grown) (Nat.le_refl _) c0) hnb
              | exact cell_below (B := wr.heap.size) (by go_grown) (Nat.le_refl _) c0)
            (first
              | (go_at_call 21
                 refine (HND.out _).mono ?_
                 rintro e w9 ⟨rfl, hb9⟩
                 have hbA : Below wr.heap.size wr w9 := Below.trans (by go_grown) (hb9.mono (by first | exact Nat.le_refl _ | (simp; done)))
                 have hsA := hbA.size)
              | (refine step_append_rd rfl (.tmp 23) (.tmp 31) _ rfl w1.heap.size 88 i0 _ 2 32 Tryd.underlying39 HI.out HI0.out HI1.out HI2.out rfl (by decide) u6 k (((labG l).take k).flatMap lenc) rfl ?_ (some ⟨w9.heap.size, 0, none⟩) 1 1 [.string (nodeNm k), .string (bsl x)] rfl (fun e => by cases e) rfl ?_ ?_ ?_ ?_ ?_ ?_
                 (exact World.ownsRow.alloc (hown.kept (below_grownBy hbA) (by cases u6.ownBlock with | none => exact .inl rfl | some g => exact .inr (by simp))) _)
                 (exact fun ad e j u hu => by injection e with e; subst e; exact World.news_of_block (heap_new w9 _) j u hu)
                 (intro u hu; simp at hu; rcases hu with rfl | rfl <;> rfl)
                 (unfold maxLen; omega)
                 (omega)
                 (simp <;> omega)
                 intro v' w2 hown' hgrow
                 have hbB : Below w1.heap.size w1 w2 := ((HW.out.trans (hbA.mono hws)).alloc (by omega) _).grown hgrow (by simp; omega) (fun j hj => (HO.out.lt j hj).1)))
          all_goals
            have HBB := Lib.hid hbB
            have HO' := Lib.hid hown'
            clear hown hgrow hown' hbA hbB hb9 hsA
            go_wp2_with fail
            go_roundw
            case rel =>
              refine ⟨k + 1, by go_num, by omega, ?_, HBB.out⟩
              unfold Hid
              rw [HT.out, List.flatMap_append]
              exact HO'.out
            case measure => simp [intOf]; omega
        · obtain rfl : k = L.length := by omega
          have hst := HO.out
          rw [List.take_of_length_le (by rw [HLEN.out]; exact Nat.le_refl _)] at hst
          have hst2 : Sl lenc wr u6 (labG l) := by
            have h1 := HLEN.out
            rw [← h1] at hst
            exact Sl.own lenc_len (by decide) hst
          have HSET := Lib.hid (rset_any u6 (labG l) wr hst2 (by rw [HLEN.out]; omega))
          clear hst hst2
          go_wp2_with fail
          refine HSET.out.mono ?_
          rintro e w5 ⟨hb5, hr5⟩
          obtain ⟨hp1, hp2⟩ := okP_path HOK.out
          rcases hr5 with ⟨-, -, v5, rfl, hs5⟩ | ⟨hno, -⟩
          · go_wp2_with fail
            go_ret2
            exact ⟨HB1.out.trans ((HW.out.trans (hb5.mono hws)).mono HB1.out.size), .inl ⟨HOK.out, v5, rfl, hs5⟩⟩
          · exact absurd ⟨hp1, hp2⟩ hno
    · have HNO := Lib.hid (show okG l = false by unfold okG; rw [decide_eq_false h31, Bool.and_false])
      have hd31 : decide (((splitD l).length : Int) ≤ 31) = false := by rw [decide_eq_false_iff_not]; omega
      rw [hd31]
      clear hall hsl hb1
      go_wp2_with fail
      go_ret2
      exact ⟨HB1.out, .inr ⟨HNO.out, rfl⟩⟩
  · have HNO := Lib.hid (show okG l = false by unfold okG; rw [hall, Bool.false_and])
    clear hall hb1
    go_wp2_with fail
    go_ret2
    exact ⟨HB1.out, .inr ⟨HNO.out, rfl⟩⟩
end Go.Proofs.YtnnfhcbopchodaaDoor
namespace Go.Proofs.YtnnfhcbopchodaaDoor
open Go Go.RowKit
set_option linter.unusedVariables false
set_option linter.unusedSimpArgs false
set_option maxRecDepth 100000
def ndL (l : List Lb) : List ByteArray := (List.range l.length).map fun (i : Nat) => getL (ndS (i : Int)) l
theorem ndL_len (l : List Lb) : (ndL l).length = l.length := by simp [ndL]
theorem ndL_snoc (l : List Lb) (k : Nat) (h : k < l.length) : (ndL l).take (k + 1) = (ndL l).take k ++ [getL (ndS (k : Int)) l] := by
  have hl : (ndL l)[k]? = some (getL (ndS (k : Int)) l) := by
    unfold ndL
    rw [List.getElem?_map, List.getElem?_range h, Option.map_some]
  rw [List.take_add_one, hl]
  rfl
def pathB (l : List Lb) : List UInt8 := Lib.join ((ndL l).map (·.data.toList)) [46]
def pathOk (l : List Lb) : Bool := okG (pathB l) && decide (labS (pathB l) = l)
def PathQ (l : List Lb) (w : World) (e : Ending) (w' : World) : Prop := Below w.heap.size w w' ∧ e = .returned (.tuple #[.string (if pathOk l = true then bsl (pathB l) else ⟨#[]⟩), .int .i64 (if pathOk l = true then 0 else 2)])
/-- Short labels. -/
def ShortL (l : List Lb) : Prop := l.length ≤ 80 ∧ ∀ x ∈ l, x.2.size ≤ 2000
theorem ggetL_size {l : List Lb} (h : ∀ x ∈ l, x.2.size ≤ 2000) (n : ByteArray) : (getL n l).size ≤ 2000 := by
  induction l with
  | nil => exact Nat.zero_le _
  | cons c cs ih =>
    unfold getL
    split
    · exact h c (by simp)
    · exact ih (fun x hx => h x (by simp [hx]))
theorem ndL_size {l : List Lb} (h : ShortL l) : ∀ x ∈ ndL l, x.size ≤ 2000 := by
  intro x hx
  unfold ndL at hx
  obtain ⟨i, -, rfl⟩ := List.mem_map.1 hx
  exact ggetL_size h.2 _
theorem join_joinD : ∀ L : List (List UInt8), Lib.join L [46] = joinD L
  | [] => rfl
  | [n] => by simp [Lib.join, joinD, List.intercalate]
  | n :: m :: ns => by
    have ih := join_joinD (m :: ns)
    unfold joinD
    rw [← ih]
    simp [Lib.join, List.intercalate]
theorem joinD_len : ∀ L : List (List UInt8), (∀ x ∈ L, x.length ≤ 2000) → (joinD L).length ≤ L.length * 2001
  | [], _ => Nat.zero_le _
  | [n], h => by have := h n (by simp); simp [joinD]; omega
  | n :: m :: ns, h => by
    have ih := joinD_len (m :: ns) (fun x hx => h x (by simp at hx ⊢; exact .inr hx))
    have := h n (by simp)
    unfold joinD
    rw [List.length_append, List.length_cons, show (n :: m :: ns).length = (m :: ns).length + 1 from rfl]
    omega
theorem pathB_len {l : List Lb} (h : ShortL l) : (pathB l).length ≤ 160080 := by
  unfold pathB
  rw [join_joinD]
  refine Nat.le_trans (joinD_len _ ?_) ?_
  · intro x hx
    obtain ⟨y, hy, rfl⟩ := List.mem_map.1 hx
    exact ndL_size h y hy
  · rw [List.length_map, ndL_len]
    have := h.1
    omega
/-- What the reference gathers: a dot ahead of each. -/
def dotsB (L : List ByteArray) : List UInt8 := L.flatMap fun x => 46 :: x.data.toList
theorem dots_join : ∀ L : List ByteArray, L ≠ [] → dotsB L = 46 :: joinD (L.map (·.data.toList))
  | [], h => absurd rfl h
  | [n], _ => by simp [dotsB, joinD]
  | n :: m :: ns, _ => by
    have ih := dots_join (m :: ns) (by simp)
    unfold dotsB at ih ⊢
    rw [List.flatMap_cons, ih]
    simp [joinD]
theorem dots_len {L : List ByteArray} (h : ∀ x ∈ L, x.size ≤ 2000) : (dotsB L).length ≤ L.length * 2001 := by
  induction L with
  | nil => exact Nat.zero_le _
  | cons a r ih =>
    have h1 := h a (by simp)
    have h2 := ih (fun x hx => h x (by simp [hx]))
    unfold dotsB at h2 ⊢
    rw [List.flatMap_cons, List.length_append, List.length_cons, List.length_cons]
    have h3 : a.data.toList.length = a.size := rfl
    omega
/-- A label of a name is found, where names differ. -/
theorem getL_mem : ∀ {l : List Lb} {n v : ByteArray}, l.Pairwise (fun x y => x.1 ≠ y.1) → (n, v) ∈ l → getL n l = v
  | [], n, v, _, h => by cases h
  | c :: cs, n, v, hp, h => by
    rw [List.pairwise_cons] at hp
    unfold getL
    rcases List.mem_cons.1 h with h | h
    · rw [← h]; simp
    · have hne : ¬ (c.1.toList == n.toList) = true := by
        intro e
        have e := beq_iff_eq.1 e
        exact hp.1 (n, v) h (ba_eq (by rw [← ByteArray.toList_eq, ← ByteArray.toList_eq]; exact e))
      rw [if_neg hne]
      exact getL_mem hp.2 h
theorem labS_perm {l : List UInt8} (h : okG l = true) : (labS l).Perm (labG l) := by
  unfold labS
  rw [(set_path h (List.Perm.refl (labG l))).2]
  exact ins_perm _
theorem labG_len (l : List UInt8) : (labG l).length = (splitD l).length := by unfold labG; simp
theorem path_back {l : List UInt8} (h : okG l = true) : pathB (labS l) = l := by
  have hp := labS_perm h
  have hl : (labS l).length = (splitD l).length := by rw [hp.length_eq, labG_len]
  have h31 : (splitD l).length ≤ 31 := by
    unfold okG at h
    simp only [Bool.and_eq_true, decide_eq_true_eq] at h
    exact h.2
  have hpw : (labS l).Pairwise (fun x y => x.1 ≠ y.1) := (hp.symm.pairwise_iff (fun {a b} h => Ne.symm h)).1 (okP_path h).1.2
  have hnd : (ndL (labS l)).map (·.data.toList) = splitD l := by
    apply List.ext_getElem
    · rw [List.length_map, ndL_len, hl]
    · intro i h1 h2
      rw [List.getElem_map]
      unfold ndL
      rw [List.getElem_map, List.getElem_range]
      have hm : (nodeNm i, bsl (splitD l)[i]) ∈ labS l := by
        rw [hp.mem_iff]
        unfold labG
        rw [List.mem_map]
        exact ⟨i, List.mem_range.2 h2, by rw [List.getD_eq_getElem?_getD, List.getElem?_eq_getElem h2]; rfl⟩
      rw [ndS_yes i (by omega), getL_mem hpw hm]
      rfl
  unfold pathB
  rw [hnd, join_joinD, join_split]
theorem pathOk_back {l : List UInt8} (h : okG l = true) : pathOk (labS l) = true := by
  unfold pathOk
  rw [path_back h, h]
  simp
theorem labS_short {l : List UInt8} (h : okG l = true) : ShortL (labS l) := by
  have hp := labS_perm h
  have h' := h
  unfold okG at h
  simp only [Bool.and_eq_true, List.all_eq_true, decide_eq_true_eq] at h
  refine ⟨by rw [hp.length_eq, labG_len]; omega, fun x hx => ?_⟩
  have := ((okP_path h').1.1 x (hp.mem_iff.1 hx)).2
  omega
end Go.Proofs.YtnnfhcbopchodaaDoor
namespace Go.Proofs.YtnnfhcbopchodaaDoor
open Go Go.RowKit
set_option linter.unusedVariables false
set_option linter.unusedSimpArgs false
set_option maxRecDepth 100000
theorem gjoin_any (v : Value) (xs : List ByteArray) (w : World) (h : Sl senc1 w v xs) (hl : (Lib.join (xs.map (·.data.toList)) [46]).length ≤ 140737488355328) (hn : xs.length ≤ 140737488355328) :
    Calls Tryd.prog 39 #[v, .string ⟨#[46]⟩] w fun e w' => e = .returned (.string (bsl (Lib.join (xs.map (·.data.toList)) [46]))) ∧ Below w.heap.size w w' := by
  obtain ⟨a, cap, rfl, hm, hc⟩ := h.strings
  by_cases hx : xs = []
  · subst hx
    refine (Tryd.strings_Join_none a cap ⟨#[46]⟩ w).mono ?_
    rintro e w' ⟨rfl, rfl⟩
    exact ⟨rfl, Below.refl _ _⟩
  · have hpos := List.length_pos_iff.2 hx
    obtain ⟨b, off, rfl, hcell⟩ := hc 0 hpos
    have hblt : b < w.heap.size := World.block_lt_of_cell? w _ (hcell 0 hpos)
    refine (Tryd.strings_Join b off cap xs ⟨#[46]⟩ w (fun j x hj => ?_) hblt hn hm.1 hl).mono ?_
    · obtain ⟨h1, h2⟩ := List.getElem?_eq_some_iff.1 hj
      rw [hcell j h1, h2]
    · rintro e w' ⟨rfl, hb⟩
      exact ⟨rfl, hb⟩
theorem pathRes (l : List Lb) (c : Bool) (h : pathOk l = c) : (if pathOk l = true then bsl (pathB l) else ⟨#[]⟩ : ByteArray) = (if c = true then bsl (pathB l) else ⟨#[]⟩) ∧ (if pathOk l = true then (0 : Int) else 2) = (if c = true then 0 else 2) := by rw [h]; exact ⟨rfl, rfl⟩
set_option maxHeartbeats 4000000 in
theorem gpath_any (v : Value) (l : List Lb) (w : World) (h : Sl lenc w v l) (hk : KW w) (hsh : ShortL l) :
    Calls Tryd.prog 17 #[v] w fun e w' => PathQ l w e w' := by
  obtain ⟨a, cap, rfl, hlen, -, hc⟩ := h.split lenc_len
  have HSL := Lib.hid h
  have HKW := Lib.hid hk
  have HSH := Lib.hid hsh
  have hl80 := hsh.1
  obtain ⟨i0, hi, hz0, hz1, hz2⟩ := info_parts Tryd.ginfoStr
  have HI := Lib.hid hi
  have HI0 := Lib.hid hz0
  have HI1 := Lib.hid hz1
  have HI2 := Lib.hid hz2
  clear hi hz0 hz1 hz2 hc h hk hsh
  go_enter Tryd.func17, Tryd.ntmps17
  go_wp2_with fail
  go_loopw [4, 11] (fun ov iv wr => ∃ k : Nat, iv = .int .i64 k ∧ k ≤ l.length ∧ Hid (wr.ownsRow w.heap.size 9 1 ov k (((ndL l).take k).flatMap senc1)) ∧ Hid (Below w.heap.size w wr)) (fun _ i _ => l.length - (intOf i).toNat)
  case atStart => exact ⟨0, rfl, Nat.zero_le _, World.ownsRow_nil _ _ _ _, Below.refl _ _⟩
  case round =>
    obtain ⟨k, rfl, hkl, HO, HW⟩ := hrel
    have hws := HW.out.size
    by_cases hlt : k < l.length
    · have HND := Lib.hid (gnode_any (k : Int) wr ((HKW.out.below HW.out).1) (by omega) (by omega))
      have HT := Lib.hid (ndL_snoc l k hlt)
      have HGT := Lib.hid (fun w' (hb : Below w.heap.size w w') => get_any _ l (ndS (k : Int)) w' (HSL.out.below hb (Nat.le_refl _)))
      obtain ⟨nm, hnm⟩ : ∃ nm, nm = ndS (k : Int) := ⟨_, rfl⟩
      rw [← hnm] at HND HT HGT
      clear hnm
      go_wp2_with fail
      refine HND.out.mono ?_
      rintro e w3 ⟨rfl, hb3⟩
      have HW3 := Lib.hid (HW.out.trans (hb3.mono hws))
      have HO3 := Lib.hid (HO.out.kept (below_grownBy hb3) (by
        cases hq : u4.ownBlock with
        | none => exact .inl rfl
        | some q => exact .inr (by simp)))
      clear hb3
      go_wp2_with fail
      refine (HGT.out _ HW3.out).mono ?_
      rintro e w4 ⟨rfl, hb4⟩
      have HW4 := Lib.hid (HW3.out.trans (hb4.mono HW3.out.size))
      have hws4 := HW4.out.size
      have HO4 := Lib.hid (HO3.out.kept (below_grownBy hb4) (by
        cases hq : u4.ownBlock with
        | none => exact .inl rfl
        | some q => exact .inr (by simp)))
      clear hb4
      go_wp2_with (refine wpList_append_rd rfl (.tmp 14) (.tmp 19) _ rfl w.heap.size 9 i0 _ 1 16 Tryd.underlying28 HI.out HI0.out HI1.out HI2.out rfl (by decide) u4 k (((ndL l).take k).flatMap senc1) rfl (World.ownsRow.alloc HO4.out _) (some ⟨w4.heap.size, 0, none⟩) 1 1 [.string (getL nm l)] rfl (fun e => by cases e) rfl (fun ad e j u hu => by injection e with e; subst e; exact World.news_of_block (heap_new w4 _) j u hu) (by intro u hu; simp at hu; rcases hu with rfl; rfl) (by unfold maxLen; omega) (by omega) (by simp; omega) ?_; intro v' w5 hown' hgrow)
      go_roundw
      case rel =>
        refine ⟨k + 1, by go_num, by omega, ?_, ((HW4.out.alloc hws4 _).grown hgrow (by simp; omega) (fun j hj => (HO4.out.lt j hj).1))⟩
        unfold Hid
        rw [HT.out, List.flatMap_append]
        exact hown'
      case measure => simp [intOf]; omega
    · obtain rfl : k = l.length := by omega
      have hst := HO.out
      rw [List.take_of_length_le (by rw [ndL_len]; exact Nat.le_refl _)] at hst
      have hst2 : Sl senc1 wr u4 (ndL l) := by
        rw [← ndL_len l] at hst
        exact Sl.own senc1_len (by decide) hst
      have HJN := Lib.hid (gjoin_any u4 (ndL l) wr hst2 (by have := pathB_len HSH.out; unfold pathB at this; omega) (by rw [ndL_len]; omega))
      rw [show Lib.join ((ndL l).map (·.data.toList)) [46] = pathB l from rfl] at HJN
      have HPL := Lib.hid (show (bsl (pathB l)).size ≤ 1000000 by rw [bsl_size]; have := pathB_len HSH.out; omega)
      clear hst hst2
      go_wp2_with fail
      refine HJN.out.mono ?_
      rintro e w5 ⟨rfl, hb5⟩
      have HW5 := Lib.hid (HW.out.trans (hb5.mono hws))
      have HLB := Lib.hid (glabels_any (bsl (pathB l)) w5 (HKW.out.below HW5.out) HPL.out)
      rw [bsl_data] at HLB
      obtain ⟨p, hp⟩ : ∃ p, p = pathB l := ⟨_, rfl⟩
      have HP := Lib.hid hp
      rw [← hp] at HLB ⊢
      clear hb5 hp
      go_wp2_with fail
      refine HLB.out.mono ?_
      rintro e w6 ⟨hb6, hr6⟩
      have HW6 := Lib.hid (HW5.out.trans (hb6.mono HW5.out.size))
      rcases hr6 with ⟨hok, v6, rfl, hs6⟩ | ⟨hno, rfl⟩
      · have HCM := Lib.hid (compare_any v6 _ (labS p) l w6 hs6 (HSL.out.below HW6.out (Nat.le_refl _)))
        have HOK := Lib.hid hok
        clear hb6 hok hs6
        by_cases he : labS p = l
        · have HPO := Lib.hid (show pathOk l = true by
            unfold pathOk
            rw [← HP.out, HOK.out, decide_eq_true he]; rfl)
          rw [show cmpL (labS p) l = 0 from (cmpL_eq _ _).2 he] at HCM
          clear he
          go_wp2_with fail
          refine HCM.out.mono ?_
          rintro e w7 ⟨rfl, hg7⟩
          have HW7 := Lib.hid (HW6.out.trans (hg7.below.mono HW6.out.size))
          clear hg7
          go_wp2_with fail
          go_ret2
          refine ⟨HW7.out, ?_⟩
          rw [if_pos HPO.out, if_pos HPO.out, ← HP.out]
          rfl
        · have HPO := Lib.hid (show ¬ pathOk l = true by
            unfold pathOk
            rw [← HP.out, HOK.out, decide_eq_false he]
            simp)
          obtain ⟨cv, hcv⟩ : ∃ cv, cv = cmpL (labS p) l := ⟨_, rfl⟩
          rw [← hcv] at HCM
          have hcne : (cv != 0) = true := by
            rw [bne_iff_ne, hcv]
            exact fun e => he ((cmpL_eq _ _).1 e)
          clear he hcv
          go_wp2_with fail
          refine HCM.out.mono ?_
          rintro e w7 ⟨rfl, hg7⟩
          have HW7 := Lib.hid (HW6.out.trans (hg7.below.mono HW6.out.size))
          clear hg7
          go_wp2_with fail
          go_ret2
          refine ⟨HW7.out, ?_⟩
          rw [if_neg HPO.out, if_neg HPO.out]
          rfl
      · have HPO := Lib.hid (show ¬ pathOk l = true by
          unfold pathOk
          rw [← HP.out, hno]
          simp)
        clear hb6 hno
        go_wp2_with fail
        go_ret2
        refine ⟨HW6.out, ?_⟩
        rw [if_neg HPO.out, if_neg HPO.out]
        rfl
set_option maxHeartbeats 4000000 in
theorem rpath_any (v : Value) (l : List Lb) (w : World) (h : Sl lenc w v l) (hsh : ShortL l) :
    Calls Tryd.prog 18 #[v] w fun e w' => PathQ l w e w' := by
  obtain ⟨a, cap, rfl, hlen, -, hc⟩ := h.split lenc_len
  have HSL := Lib.hid h
  have HSH := Lib.hid hsh
  have hl80 := hsh.1
  clear hc h hsh
  go_enter Tryd.func18, Tryd.ntmps18
  go_wp2_with fail
  go_loopw [4, 5] (fun sv iv wr => ∃ (k : Nat) (t : ByteArray), iv = .int .i64 k ∧ sv = .string t ∧ k ≤ l.length ∧ t.size ≤ k * 2001 ∧ Hid (t.data.toList = dotsB ((ndL l).take k)) ∧ Hid (Below w.heap.size w wr)) (fun _ i _ => l.length - (intOf i).toNat)
  case atStart => exact ⟨0, ⟨#[]⟩, rfl, rfl, Nat.zero_le _, Nat.le_refl _, rfl, Below.refl _ _⟩
  case round =>
    obtain ⟨k, t, rfl, rfl, hkl, hts, HD, HW⟩ := hrel
    have hws := HW.out.size
    by_cases hlt : k < l.length
    · have HND := Lib.hid (rnode_any (k : Int) wr (by omega) (by omega))
      have HT := Lib.hid (ndL_snoc l k hlt)
      have HGT := Lib.hid (fun w' (hb : Below w.heap.size w w') => rget_any _ l (ndS (k : Int)) w' (HSL.out.below hb (Nat.le_refl _)))
      have hgs := ggetL_size HSH.out.2 (ndS (k : Int))
      obtain ⟨nm, hnm⟩ : ∃ nm, nm = ndS (k : Int) := ⟨_, rfl⟩
      rw [← hnm] at HND HT HGT hgs
      clear hnm
      obtain ⟨y, hy⟩ : ∃ y, y = getL nm l := ⟨_, rfl⟩
      rw [← hy] at HT HGT hgs
      clear hy
      go_wp2_with fail
      refine HND.out.mono ?_
      rintro e w3 ⟨rfl, hb3⟩
      have HW3 := Lib.hid (HW.out.trans (hb3.mono hws))
      clear hb3
      go_wp2_with fail
      refine (HGT.out _ HW3.out).mono ?_
      rintro e w4 ⟨rfl, rfl⟩
      go_wp2_with fail
      go_roundw
      case rel =>
        refine ⟨k + 1, _, by go_num, rfl, by omega, ?_, ?_, HW3.out⟩
        · simp only [ByteArray.size_append]
          have : (⟨#[46]⟩ : ByteArray).size = 1 := rfl
          omega
        · unfold Hid
          rw [HT.out]
          unfold dotsB at *
          rw [List.flatMap_append, ← HD.out]
          simp [ByteArray.data_append]
      case measure => simp [intOf]; omega
    · obtain rfl : k = l.length := by omega
      have hst := HD.out
      rw [List.take_of_length_le (by rw [ndL_len]; exact Nat.le_refl _)] at hst
      by_cases hl0 : l = []
      · have HPO := Lib.hid (show ¬ pathOk l = true by rw [hl0]; decide)
        have ht0 : t.toList = [] := by rw [ByteArray.toList_eq, hst, hl0]; rfl
        have ht1 : t.toList.isEmpty = true := by rw [ht0]; rfl
        clear hst hl0
        go_wp2_with fail
        go_ret2
        refine ⟨HW.out, ?_⟩
        rw [if_neg HPO.out, if_neg HPO.out]
        rfl
      · have hnn : ndL l ≠ [] := fun e => hl0 (List.eq_nil_of_length_eq_zero (by rw [← ndL_len, e]; rfl))
        rw [dots_join _ hnn, ← join_joinD, show Lib.join ((ndL l).map (·.data.toList)) [46] = pathB l from rfl] at hst
        have ht0 : ¬ t.toList = [] := by rw [ByteArray.toList_eq, hst]; simp
        have ht1 : t.toList.isEmpty = false := by simpa using ht0
        have hts1 : (1 : Int) ≤ (t.size : Int) := by
          have h1 : t.data.toList.length = t.size := rfl
          rw [hst, List.length_cons] at h1
          omega
        have hts2 : 1 ≤ t.size := by omega
        have HX := Lib.hid (show t.extract 1 t.size = bsl (pathB l) by
          have h1 : (t.extract 1 t.size).data.toList = pathB l := by rw [Lib.extract_to_end, hst]; rfl
          exact ba_eq (by rw [h1, bsl_data]))
        have HLB := Lib.hid (fun w5 => rlabels_any (bsl (pathB l)) w5 (by rw [bsl_size]; have := pathB_len HSH.out; omega))
        rw [bsl_data] at HLB
        obtain ⟨p, hp⟩ : ∃ p, p = pathB l := ⟨_, rfl⟩
        have HP := Lib.hid hp
        rw [← hp] at HLB HX
        clear hst hp hnn hl0
        go_wp2_with fail
        rw [HX.out]
        refine (HLB.out _).mono ?_
        rintro e w6 ⟨hb6, hr6⟩
        have HW6 := Lib.hid (HW.out.trans (hb6.mono hws))
        rcases hr6 with ⟨hok, v6, rfl, hs6⟩ | ⟨hno, rfl⟩
        · have HCM := Lib.hid (rsame_any v6 _ (labS p) l w6 hs6 (HSL.out.below HW6.out (Nat.le_refl _)))
          have HOK := Lib.hid hok
          clear hb6 hok hs6
          by_cases he : labS p = l
          · have HPO := Lib.hid (show pathOk l = true by
              unfold pathOk
              rw [← HP.out, HOK.out, decide_eq_true he]; rfl)
            rw [show (cmpL (labS p) l == 0) = true by rw [(cmpL_eq _ _).2 he]; rfl] at HCM
            clear he
            go_wp2_with fail
            refine HCM.out.mono ?_
            rintro e w7 ⟨rfl, n7, rfl⟩
            have HW7 := Lib.hid (below_drewN HW6.out n7)
            go_wp2_with fail
            rw [HX.out]
            go_ret2
            refine ⟨HW7.out, ?_⟩
            rw [if_pos HPO.out, if_pos HPO.out, ← HP.out]
            rfl
          · have HPO := Lib.hid (show ¬ pathOk l = true by
              unfold pathOk
              rw [← HP.out, HOK.out, decide_eq_false he]
              simp)
            rw [show (cmpL (labS p) l == 0) = false by rw [beq_eq_false_iff_ne]; exact fun e => he ((cmpL_eq _ _).1 e)] at HCM
            clear he
            go_wp2_with fail
            refine HCM.out.mono ?_
            rintro e w7 ⟨rfl, n7, rfl⟩
            have HW7 := Lib.hid (below_drewN HW6.out n7)
            go_wp2_with fail
            go_ret2
            refine ⟨HW7.out, ?_⟩
            rw [if_neg HPO.out, if_neg HPO.out]
            rfl
        · have HPO := Lib.hid (show ¬ pathOk l = true by
            unfold pathOk
            rw [← HP.out, hno]
            simp)
          clear hb6 hno
          go_wp2_with fail
          go_ret2
          refine ⟨HW6.out, ?_⟩
          rw [if_neg HPO.out, if_neg HPO.out]
          rfl
end Go.Proofs.YtnnfhcbopchodaaDoor
