/- Labels as a text. -/
import Derived.Test.YtdpigfcnphklgaaDoorLq2
import Derived.Test.YtdpigfcnphklgaaDoorLb2
namespace Go.Proofs.YtdpigfcnphklgaaDoor
open Go Go.RowKit
set_option linter.unusedVariables false
set_option linter.unusedSimpArgs false
set_option maxRecDepth 100000
def nameS : ByteArray := ⟨#[95, 95, 110, 97, 109, 101, 95, 95]⟩
theorem nameS_list : nameS.toList = [95, 95, 110, 97, 109, 101, 95, 95] := by rw [ByteArray.toList_eq]; rfl
def eqS : ByteArray := ⟨#[61]⟩
def partS (x : Lb) : ByteArray := x.1 ++ eqS ++ quoteS x.2
def keptT (nm : ByteArray) (x : Lb) : Bool := !(x.1.toList == nameS.toList) || nm.toList.isEmpty
def partsL (nm : ByteArray) (l : List Lb) : List ByteArray := (l.filter (keptT nm)).map partS
def textV (nm : ByteArray) (ps : List ByteArray) : ByteArray :=
  if ps.isEmpty && !nm.toList.isEmpty then nm else nm ++ ⟨#[123]⟩ ++ ⟨(Lib.join (ps.map (·.data.toList)) [44]).toArray⟩ ++ ⟨#[125]⟩
def nameOf (l : List Lb) : ByteArray := if nameB (getL nameS l) then getL nameS l else ⟨#[]⟩
def textL (l : List Lb) : ByteArray := textV (nameOf l) (partsL (nameOf l) l)
theorem parts_snoc (nm : ByteArray) (l : List Lb) (k : Nat) (h : k < l.length) : partsL nm (l.take (k + 1)) = partsL nm (l.take k) ++ if keptT nm (lx l k) then [partS (lx l k)] else [] := by
  unfold partsL
  rw [lx_at h, List.take_succ_eq_append_getElem h, List.filter_append, List.map_append]
  congr 1
  by_cases h : keptT nm l[k] = true <;> simp [h]
theorem parts_len (nm : ByteArray) (l : List Lb) (k : Nat) : (partsL nm (l.take k)).length ≤ l.length := by
  unfold partsL
  rw [List.length_map]
  exact Nat.le_trans (List.length_filter_le _ _) (by simp; omega)
theorem quoteS_size (s : ByteArray) : (quoteS s).size ≤ 4 * s.size + 2 := by
  have : (quoteS s).size = (quoteL s.data.toList).length := by unfold quoteS; show (quoteL _).toArray.size = _; simp
  rw [this, quoteL, List.length_append]
  have := quoteB_len s.data.toList
  have e : s.data.toList.length = s.size := by simp
  simp at this ⊢
  omega
theorem partS_size {x : Lb} (h : x.1.size ≤ 1000 ∧ x.2.size ≤ 3000) : (partS x).size ≤ 14000 := by
  unfold partS
  rw [ByteArray.size_append, ByteArray.size_append]
  have := quoteS_size x.2
  have : eqS.size = 1 := rfl
  omega
theorem getL_size {l : List Lb} (h : SizesOk l) (n : ByteArray) : (getL n l).size ≤ 3000 := by
  induction l with
  | nil => exact Nat.zero_le _
  | cons x r ih =>
    rw [getL]
    split
    · exact (h x (by simp)).2
    · exact ih fun y hy => h y (by simp [hy])
theorem nameOf_size {l : List Lb} (h : SizesOk l) : (nameOf l).size ≤ 3000 := by
  unfold nameOf
  split
  · exact getL_size h _
  · exact Nat.zero_le _
theorem join_len (ps : List (List UInt8)) (h : ∀ p ∈ ps, p.length ≤ 14000) : (Lib.join ps [44]).length ≤ ps.length * 14001 := by
  cases ps with
  | nil => simp [Lib.join_nil]
  | cons x r =>
    rw [Lib.join_cons, List.length_append, List.length_cons, Nat.succ_mul]
    have h1 := h x (by simp)
    have h2 : (Lib.joinTail [44] r).length ≤ r.length * 14001 := by
      have h3 : ∀ p ∈ r, p.length ≤ 14000 := fun p hp => h p (by simp [hp])
      clear h h1
      unfold Lib.joinTail
      induction r with
      | nil => simp
      | cons y t ih =>
        rw [List.map_cons, List.flatten_cons, List.length_append, List.length_cons, Nat.succ_mul]
        have h4 := h3 y (by simp)
        have h5 := ih (fun p hp => h3 p (by simp [hp]))
        simp at h5 ⊢
        omega
    omega
theorem join_any (v : Value) (ps : List ByteArray) (sep : ByteArray) (w : World) (h : Sl senc1 w v ps) (h1 : ps.length ≤ 140737488355328) (h2 : (Lib.join (ps.map (·.data.toList)) sep.data.toList).length ≤ 140737488355328) :
    Calls Tryd.prog 68 #[v, .string sep] w fun e w' => e = .returned (.string ⟨(Lib.join (ps.map (·.data.toList)) sep.data.toList).toArray⟩) ∧ Below w.heap.size w w' := by
  obtain ⟨a, c, rfl, hc, hcc⟩ := h.strings
  by_cases hps : ps = []
  · subst hps
    refine (Tryd.strings_Join_none a c sep w).mono ?_
    rintro e w' ⟨rfl, rfl⟩
    exact ⟨rfl, Below.refl _ _⟩
  · have hp : 0 < ps.length := List.length_pos_iff.2 hps
    obtain ⟨b, off, rfl, hd⟩ := hcc 0 hp
    exact Tryd.strings_Join b off c ps sep w (fun j x hx => by
      obtain ⟨hj, rfl⟩ := List.getElem?_eq_some_iff.1 hx
      exact hd j hj) (World.block_lt_of_cell? w _ (hd 0 hp)) h1 hc.1 h2
theorem quote_S (s : ByteArray) (w : World) (hs : s.size ≤ 3000) : Calls Tryd.prog 20 #[.string s] w fun e w' => e = .returned (.string (quoteS s)) ∧ Below w.heap.size w w' := quote_any s w (by omega)
theorem Tryd.infoStr : (Tryd.prog.info? 9).map (fun i => (i.zero, i.size, i.bytes)) = some (some (.string ⟨#[]⟩), 1, 16) := by kernel_rfl
set_option maxHeartbeats 4000000 in
theorem text_any (v : Value) (l : List Lb) (w : World) (h : Sl lenc w v l) (hl : l.length ≤ 100000) (hs : SizesOk l) :
    Calls Tryd.prog 24 #[v] w fun e w' => e = .returned (.string (textL l)) ∧ Below w.heap.size w w' := by
  obtain ⟨i0, hi, hz0, hz1, hz2⟩ := info_parts Tryd.infoStr
  have HGet := Lib.hid (get_any v l nameS w h)
  obtain ⟨a, cap, rfl, hlen, -, hc⟩ := h.split lenc_len
  have HC := Lib.hid hc
  have HZ := Lib.hid hs
  have hnsz := nameOf_size hs
  have HNZ := Lib.hid hnsz
  clear hc h hs hnsz
  obtain ⟨nm, hnm⟩ : ∃ nm, nm = nameOf l := ⟨_, rfl⟩
  go_enter Tryd.func24, Tryd.ntmps24
  go_wp2_with fail
  refine HGet.out.mono ?_
  rintro e w1 ⟨rfl, hb1⟩
  have HB1 := Lib.hid hb1
  clear hb1
  go_wp2_with fail
  refine (name_any _ _).mono ?_
  rintro e w1' ⟨rfl, rfl⟩
  by_cases hn : nameB (getL nameS l) = true
  case' pos =>
    rw [hn]
    go_wp2_with fail
    rw [show getL nameS l = nm by rw [hnm, nameOf, if_pos hn]]
  case' neg =>
    have hn2 : nameB (getL nameS l) = false := by simpa using hn
    rw [hn2]
    go_wp2_with fail
    conv =>
      arg 4
      rw [show (⟨#[]⟩ : ByteArray) = nm by rw [hnm, nameOf, if_neg hn]]
  all_goals
    have HNM := Lib.hid hnm
    clear hnm hn
    go_loopw [4, 14] (fun v i wr => ∃ k : Nat, k ≤ l.length ∧ i = .int .i64 k ∧ wr.ownsRow w.heap.size 9 1 v (partsL nm (l.take k)).length ((partsL nm (l.take k)).flatMap senc1) ∧ Hid (Below w.heap.size w wr)) (fun _ i _ => l.length - (intOf i).toNat)
    case atStart => exact ⟨0, Nat.zero_le _, rfl, by simpa [partsL] using World.ownsRow_nil _ _ _ _, HB1.out⟩
    case round =>
      obtain ⟨k, hk, rfl, hown, HB⟩ := hrel
      have hBz := HB.out.size
      have HO := Lib.hid hown
      by_cases hlt : k < l.length
      · have hltz : (k : Int) < (l.length : Int) := by omega
        have h00 : (0 : Int) ≤ (k : Int) := by omega
        obtain ⟨b, off, rfl, hk0, hk1⟩ := lab_cells HC.out HB.out (Nat.le_refl _) hlt
        have hlt3 : b < wr.heap.size := World.block_lt_of_cell? wr _ hk0
        have hne : b ≠ wr.heap.size := by omega
        have HPS := Lib.hid (parts_snoc nm l k hlt)
        have hpl := parts_len nm l k
        have hxz := HZ.out _ (lx_mem hlt)
        have hpz := partS_size hxz
        have HXZ := Lib.hid hxz
        by_cases hkp : keptT nm (lx l k) = true
        · have HKP := Lib.hid (show partsL nm (l.take (k + 1)) = partsL nm (l.take k) ++ [partS (lx l k)] by rw [HPS.out, if_pos hkp])
          have hsum1 : ¬ 9223372036854775807 < (lx l k).1.size + 1 := by omega
          have hq := quoteS_size (lx l k).2
          have hsum2 : ¬ 9223372036854775807 < (lx l k).1.size + 1 + (quoteS (lx l k).2).size := by omega
          clear hxz hpz hq
          have HPE := Lib.hid (show partS (lx l k) = (lx l k).1 ++ ⟨#[61]⟩ ++ quoteS (lx l k).2 from rfl)
          by_cases he : ((lx l k).1.toList == nameS.toList) = true
          case' pos =>
            have hem : nm.toList.isEmpty = true := by
              unfold keptT at hkp
              rw [he] at hkp
              simpa using hkp
            have hem2 : nm.toList = [] := by simpa using hem
            rw [nameS_list] at he
            have hep : (lx l k).1.toList = [95, 95, 110, 97, 109, 101, 95, 95] := by simpa using he
          case' neg =>
            have he2 : ((lx l k).1.toList == nameS.toList) = false := by simpa using he
            rw [nameS_list] at he2
            have hep : ¬ (lx l k).1.toList = [95, 95, 110, 97, 109, 101, 95, 95] := by simpa using he2
            clear he
          all_goals
            clear hkp
            go_wp2_with fail
            have q0 : (wr.alloc (.cells #[.string (lx l k).1, .string (lx l k).2] 33)).cell? ⟨wr.heap.size, 0, none⟩ = some (.string (lx l k).1) := by simp
            have q1 : (wr.alloc (.cells #[.string (lx l k).1, .string (lx l k).2] 33)).cell? ⟨wr.heap.size, 1, none⟩ = some (.string (lx l k).2) := by simp
            have hown3 : (wr.alloc (.cells #[.string (lx l k).1, .string (lx l k).2] 33)).ownsRow w.heap.size 9 1 u4 (partsL nm (l.take k)).length ((partsL nm (l.take k)).flatMap senc1) := hown.alloc _
            have hb3 := HB.out.alloc hBz (.cells #[.string (lx l k).1, .string (lx l k).2] 33)
            obtain ⟨g3, hg3⟩ : ∃ g3, g3 = wr.heap.size := ⟨_, rfl⟩
            have hnb : some g3 ≠ u4.ownBlock := fun e => by have := (hown.lt g3 e.symm).2; omega
            rw [← hg3] at q0 q1 ⊢
            generalize (wr.alloc (.cells #[.string (lx l k).1, .string (lx l k).2] 33)) = w3 at q0 q1 hown3 hb3 ⊢
            have HO3 := Lib.hid hown3
            have hz3 := hb3.size
            have HB3 := Lib.hid hb3
            have HGG := Lib.hid hg3
            clear hb3 hg3 hown
            go_region_held3 (fun w' => w'.cell? ⟨g3, 0, none⟩ = some (.string (lx l k).1) ∧ w'.cell? ⟨g3, 1, none⟩ = some (.string (lx l k).2))
              (first
                | exact ⟨hgrow.cell (cell_below (B := w3.heap.size) (by go_grown) (Nat.le_refl _) q0) hnb, hgrow.cell (cell_below (B := w3.heap.size) (by go_grown) (Nat.le_refl _) q1) hnb⟩
                | exact ⟨cell_below (B := w3.heap.size) (by go_grown) (Nat.le_refl _) q0, cell_below (B := w3.heap.size) (by go_grown) (Nat.le_refl _) q1⟩)
              (first
                | (go_at_call 20
                   refine (quote_S _ _ HXZ.out.2).mono ?_
                   rintro e w9 ⟨rfl, hb9⟩
                   have hbA : Below w3.heap.size w3 w9 := Below.trans (by go_grown) (hb9.mono (by first | exact Nat.le_refl _ | (simp; done)))
                   have hsA := hbA.size)
                | (refine step_append_rd rfl (.tmp 25) (.tmp 33) _ rfl w.heap.size 9 i0 (.string ⟨#[]⟩) 1 16 Tryd.underlying41 hi hz0 hz1 hz2 rfl (by decide) u4 (partsL nm (l.take k)).length ((partsL nm (l.take k)).flatMap senc1) rfl ?_ (some ⟨w9.heap.size, 0, none⟩) 1 1 [.string ((lx l k).1 ++ ⟨#[61]⟩ ++ quoteS (lx l k).2)] rfl (fun e => by cases e) rfl ?_ ?_ ?_ ?_ ?_ ?_
                   (exact World.ownsRow.alloc (hown3.kept (below_grownBy hbA) (by cases u4.ownBlock with | none => exact .inl rfl | some g => exact .inr (by simp))) _)
                   (exact fun ad e j u hu => by injection e with e; subst e; exact World.news_of_block (heap_new w9 _) j u hu)
                   (intro u hu; simp at hu; rcases hu with rfl; rfl)
                   (unfold maxLen; omega)
                   (omega)
                   (simp <;> omega)
                   intro v' w2 hown' hgrow
                   have hbB : Below w.heap.size w w2 := ((HB3.out.trans (hbA.mono hz3)).alloc (by omega) _).grown hgrow (by simp; omega) (fun j hj => (HO3.out.lt j hj).1)))
            all_goals
              have HBB := Lib.hid hbB
              have HO' := Lib.hid hown'
              clear hown3 hgrow hown' hbA hbB hb9 hsA
              go_wp2_with fail
              go_roundw
              case rel =>
                refine ⟨k + 1, by omega, by go_num, ?_, HBB.out⟩
                rw [HKP.out, List.length_append, List.flatMap_append, HPE.out]
                exact HO'.out
              case measure => simp [intOf]; omega
        · have HKP := Lib.hid (show partsL nm (l.take (k + 1)) = partsL nm (l.take k) by rw [HPS.out, if_neg hkp, List.append_nil])
          have hkp2 : keptT nm (lx l k) = false := by simpa using hkp
          unfold keptT at hkp2
          rw [Bool.or_eq_false_iff] at hkp2
          have he : ((lx l k).1.toList == nameS.toList) = true := by simpa using hkp2.1
          have hem := hkp2.2
          have hem2 : ¬ nm.toList = [] := by simpa using hem
          rw [nameS_list] at he
          have hep : (lx l k).1.toList = [95, 95, 110, 97, 109, 101, 95, 95] := by simpa using he
          clear hkp2 hkp hown
          go_wp2_with fail
          go_roundw
          case rel =>
            refine ⟨k + 1, by omega, by go_num, ?_, HB.out.alloc hBz _⟩
            rw [HKP.out]
            exact HO.out.alloc _
          case measure => simp [intOf]; omega
      · have hltz : ¬ (k : Int) < (l.length : Int) := by omega
        obtain rfl : k = l.length := by omega
        rw [List.take_of_length_le (Nat.le_refl _)] at hown HO
        have hsl : Sl senc1 wr u4 (partsL nm l) := Sl.own senc1_len (by decide) HO.out
        have hpm : ∀ p ∈ (partsL nm l).map (fun s => s.data.toList), p.length ≤ 14000 := fun p hp => by
          obtain ⟨s, hs, rfl⟩ := List.mem_map.1 hp
          unfold partsL at hs
          obtain ⟨x, hx, rfl⟩ := List.mem_map.1 hs
          have := partS_size (HZ.out x (List.mem_filter.1 hx).1)
          simpa using this
        have hJl := join_len _ hpm
        rw [List.length_map] at hJl
        have hpl : (partsL nm l).length ≤ l.length := by have := parts_len nm l l.length; rwa [List.take_of_length_le (Nat.le_refl _)] at this
        have hnz : nm.size ≤ 3000 := by rw [HNM.out]; exact HNZ.out
        have hjb : (Lib.join ((partsL nm l).map (·.data.toList)) [44]).length ≤ 1400200000 := by
          have := Nat.mul_le_mul_right 14001 (Nat.le_trans hpl hl)
          omega
        have HJ := Lib.hid (join_any u4 (partsL nm l) ⟨#[44]⟩ wr hsl (by omega) (by show (Lib.join _ [44]).length ≤ _; omega))
        obtain ⟨a4, c4, e4, -, -⟩ := hsl.strings
        have HTV := Lib.hid (show textL l = textV nm (partsL nm l) by rw [textL, ← HNM.out])
        clear hpm hJl hsl hown HO
        generalize partsL nm l = ps at hpl hjb HJ e4 HTV
        subst e4
        obtain ⟨J, hJ⟩ : ∃ J, J = (⟨(Lib.join (ps.map (·.data.toList)) [44]).toArray⟩ : ByteArray) := ⟨_, rfl⟩
        have hJs : J.size ≤ 1400200000 := by
          have : J.size = (Lib.join (ps.map (·.data.toList)) [44]).length := by rw [hJ]; show Array.size _ = _; simp
          omega
        have HJ2 := Lib.hid (show Calls Tryd.prog 68 #[.slice a4 ps.length c4, .string ⟨#[44]⟩] wr fun e w' => e = .returned (.string J) ∧ Below wr.heap.size wr w' by rw [hJ]; exact HJ.out)
        have HJJ := Lib.hid hJ
        clear HJ hJ hjb
        have hsum1 : ¬ 9223372036854775807 < nm.size + 1 := by omega
        have hsum2 : ¬ 9223372036854775807 < nm.size + 1 + J.size := by omega
        have hsum3 : ¬ 9223372036854775807 < nm.size + 1 + J.size + 1 := by omega
        by_cases hps : ps.length = 0
        · have hpz : ((ps.length : Int) == 0) = true := by simp [hps]
          have hpe : ps.isEmpty = true := by simpa using hps
          by_cases hne : nm.toList.isEmpty = true
          · have hne2 : nm.toList = [] := by simpa using hne
            have HF := Lib.hid (show textL l = nm ++ ⟨#[123]⟩ ++ J ++ ⟨#[125]⟩ by rw [HTV.out, textV, hpe, hne, HJJ.out]; rfl)
            clear hps hpe
            go_wp2_with fail
            refine HJ2.out.mono ?_
            rintro e w9 ⟨rfl, hb9⟩
            have HB9 := Lib.hid (HB.out.trans (hb9.mono hBz))
            clear hb9
            go_wp2_with fail
            go_ret
            exact ⟨by rw [HF.out] <;> rfl, HB9.out⟩
          · have hne1 : nm.toList.isEmpty = false := by simpa using hne
            have hne2 : ¬ nm.toList = [] := by simpa using hne
            have HF := Lib.hid (show textL l = nm by rw [HTV.out, textV, hpe, hne1]; rfl)
            clear hps hpe hne
            go_wp2_with fail
            go_ret
            exact ⟨by rw [HF.out] <;> rfl, HB.out⟩
        · have hpz : ((ps.length : Int) == 0) = false := by
            have : ¬ (ps.length : Int) = 0 := by omega
            simpa using this
          have hpe : ps.isEmpty = false := by
            cases ps with
            | nil => exact absurd rfl hps
            | cons x r => rfl
          have HF := Lib.hid (show textL l = nm ++ ⟨#[123]⟩ ++ J ++ ⟨#[125]⟩ by rw [HTV.out, textV, hpe, HJJ.out]; rfl)
          clear hpe
          go_wp2_with fail
          refine HJ2.out.mono ?_
          rintro e w9 ⟨rfl, hb9⟩
          have HB9 := Lib.hid (HB.out.trans (hb9.mono hBz))
          clear hb9
          go_wp2_with fail
          go_ret
          exact ⟨by rw [HF.out] <;> rfl, HB9.out⟩
end Go.Proofs.YtdpigfcnphklgaaDoor
