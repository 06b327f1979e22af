/- Contracts of package cost: cut, up, values, Card. -/
import Derived.Test.YtdhahnagnemgaaaOpen
import Derived.Test.YtdhahnagnemgaaaSl
import Derived.Deep.Light
namespace Go.Proofs.Ytdhahnagnemgaaa
open Go.RowKit
set_option linter.unusedVariables false
set_option linter.unusedSimpArgs false

def cutI (n : Int) : Int := min (max n 0) 1099511627776
theorem cut_any (n : Int) (w : World) : Calls Try.prog 71 #[.int .i64 n] w fun e w' => e = .returned (.int .i64 (cutI n)) ∧ w = w' := by
  go_enter Try.func71, Try.ntmps71
  go_wp2
  all_goals go_ret
  all_goals exact ⟨ret_i (by unfold cutI; omega), rfl⟩
def upI (a b : Int) : Int := a / b + min (a % b) 1
theorem up_any (a b : Int) (w : World) (ha : 0 ≤ a) (hb : 1 ≤ b) (ha2 : a ≤ 1099511627776) : Calls Try.prog 72 #[.int .i64 a, .int .i64 b] w fun e w' => e = .returned (.int .i64 (upI a b)) ∧ ∃ n, w' = w.drewN n := by
  have q1 : 0 ≤ a / b := Int.ediv_nonneg ha (by omega)
  have q2 : a / b ≤ 1099511627776 := Int.le_trans (Int.ediv_le_self b ha) ha2
  have r1 : 0 ≤ a % b := Int.emod_nonneg a (by omega)
  go_enter Try.func72, Try.ntmps72
  go_wp2
  go_quiet (fail)
  go_wp2
  all_goals go_ret
  all_goals (refine ⟨ret_i ?_, _, rfl⟩; unfold upI; generalize a / b = d; generalize hr : a % b = r at *; omega)

def cenc (m : ByteArray × Int) : List Value := [.string m.1, .int .i64 m.2]
theorem cenc_len (m : ByteArray × Int) : (cenc m).length = 2 := rfl
/-- A row of counts (a name, a number). -/
abbrev CRow (w : World) (v : Value) (cs : List (ByteArray × Int)) : Prop := Sl cenc w v cs
theorem cell_below {w w' : World} {B : Nat} {p : Addr} {u : Value} (hb : Below B w w') (hB : w.heap.size ≤ B) (h : w.cell? p = some u) : w'.cell? p = some u := by
  rw [hb.cell (by have := World.block_lt_of_cell? w _ h; omega)]; exact h
def cx (cs : List (ByteArray × Int)) (k : Nat) : ByteArray × Int := cs.getD k (ByteArray.empty, 0)
theorem cx_at {cs : List (ByteArray × Int)} {k : Nat} (h : k < cs.length) : cx cs k = cs[k] := by simp [cx, h]
/-- The first count of a name, from k on. -/
def valuesI (name : ByteArray) : List (ByteArray × Int) → Int
  | [] => 1
  | c :: cs => if c.1.toList == name.toList then max c.2 1 else valuesI name cs

set_option maxHeartbeats 1000000 in
theorem values73 (se st : Int) (v : Value) (cs : List (ByteArray × Int)) (name : ByteArray) (w : World) (h : CRow w v cs) :
    Calls Try.prog 73 #[.agg #[.int .i64 se, v, .int .i64 st], .string name] w fun e w' => e = .returned (.int .i64 (valuesI name cs)) ∧ Below w.heap.size w w' := by
  obtain ⟨a, cap, rfl, hlen, -, hc⟩ := h.split cenc_len
  have HC := Lib.hid hc
  clear hc h
  go_enter Try.func73, Try.ntmps73
  go_wp2_with fail
  go_step3
  go_wp2_with fail
  go_step3
  go_wp2_with fail
  go_loopw [10] (fun i wr => ∃ k : Nat, k ≤ cs.length ∧ i = .int .i64 k ∧ valuesI name (cs.drop k) = valuesI name cs ∧ Below w.heap.size w wr) (fun i _ => cs.length - (intOf i).toNat)
  case atStart => exact ⟨0, Nat.zero_le _, rfl, rfl, (Below.refl _ _).alloc (Nat.le_refl _) _⟩
  case round =>
    obtain ⟨k, hk, rfl, hv, hb⟩ := hrel
    have HV := Lib.hid hv
    clear hv
    by_cases hlt : k < cs.length
    · obtain ⟨b, off, rfl, hcc⟩ := HC.out k hlt
      have hc0 : w.cell? ⟨b, off + k * 2, none⟩ = some (.string (cx cs k).1) := by rw [cx_at hlt]; exact hcc 0 _ rfl
      have hc1 : w.cell? ⟨b, off + k * 2 + 1, none⟩ = some (.int .i64 (cx cs k).2) := by rw [cx_at hlt]; exact hcc 1 _ rfl
      clear hcc
      have hd : cs.drop k = cx cs k :: cs.drop (k + 1) := by rw [List.drop_eq_getElem_cons hlt]; simp [cx, hlt]
      have HD := Lib.hid hd
      clear hd
      have hs := hb.size
      have hk0 : wr.cell? ⟨b, off + k * 2, none⟩ = some (.string (cx cs k).1) := by
        rw [hb.cell (World.block_lt_of_cell? w _ hc0)]; exact hc0
      have hk1 : wr.cell? ⟨b, off + k * 2 + 1, none⟩ = some (.int .i64 (cx cs k).2) := by
        rw [hb.cell (World.block_lt_of_cell? w _ hc1)]; exact hc1
      clear hc0 hc1
      go_wp2_with fail
      · have hne : ((cx cs k).1.toList == name.toList) = false := by
          have : (!(cx cs k).1.toList == name.toList) = true := by assumption
          simpa using this
        have HNE := Lib.hid hne
        clear hne
        go_roundw
        case rel => exact ⟨k + 1, by omega, by go_num, by rw [← HV.out, HD.out, valuesI, HNE.out]; rfl, hb.alloc hs _⟩
        case measure => simp [intOf]; omega
      all_goals
        have heq : ((cx cs k).1.toList == name.toList) = true := by
          have : (!(cx cs k).1.toList == name.toList) = false := by assumption
          simpa using this
        try rw [Exit.noGoto_ret]
        go_ret
        refine ⟨ret_i ?_, hb.alloc hs _⟩
        rw [← HV.out, HD.out, valuesI, heq]
        simp only [if_true]
        go_light
        omega
    · obtain rfl : k = cs.length := by omega
      go_wp2_with fail
      rw [Exit.noGoto_ret]
      go_ret
      refine ⟨ret_i ?_, hb⟩
      rw [← HV.out, List.drop_length]; rfl

def menc (m : Int × ByteArray × ByteArray) : List Value := [.int .i64 m.1, .string m.2.1, .string m.2.2]
theorem menc_len (x : Int × ByteArray × ByteArray) : (menc x).length = 3 := rfl
/-- A row of matchers (a kind, a name, a value). -/
abbrev MRow (w : World) (v : Value) (ms : List (Int × ByteArray × ByteArray)) : Prop := Sl menc w v ms
def mx (ms : List (Int × ByteArray × ByteArray)) (k : Nat) : Int × ByteArray × ByteArray := ms.getD k (0, ByteArray.empty, ByteArray.empty)
theorem mx_at {ms : List (Int × ByteArray × ByteArray)} {k : Nat} (h : k < ms.length) : mx ms k = ms[k] := by simp [mx, h]
theorem below_cells {W w1 : World} {B : Nat} (hb : Below B W w1) : ∀ b o, b < B → w1.cell? ⟨b, o, none⟩ = W.cell? ⟨b, o, none⟩ := fun b o h => hb.cell (p := ⟨b, o, none⟩) h
theorem below_frozen {W w1 : World} {B : Nat} (hb : Below B W w1) : ∀ b o, b < B → w1.frozen? ⟨b, o, none⟩ = W.frozen? ⟨b, o, none⟩ := fun b o h => hb.frozen (p := ⟨b, o, none⟩) h
def cardStep (cs : List (ByteArray × Int)) (n : Int) (m : Int × ByteArray × ByteArray) : Int :=
  if m.1 = 1 then upI n (valuesI m.2.1 cs) else if m.1 = 3 then upI n 2 else n
def cardI (cs : List (ByteArray × Int)) (se : Int) (ms : List (Int × ByteArray × ByteArray)) : Int := ms.foldl (cardStep cs) (cutI se)
theorem upI_bd {a b : Int} (ha : 0 ≤ a) (hb : 1 ≤ b) : 0 ≤ upI a b ∧ upI a b ≤ a := by
  have q1 : 0 ≤ a / b := Int.ediv_nonneg ha (by omega)
  have r1 : 0 ≤ a % b := Int.emod_nonneg a (by omega)
  have h := Int.mul_ediv_add_emod a b
  have h2 : a / b ≤ b * (a / b) := by
    have := Int.mul_le_mul_of_nonneg_right hb q1
    rwa [Int.one_mul] at this
  unfold upI
  omega
theorem valuesI_pos (name : ByteArray) (cs : List (ByteArray × Int)) : 1 ≤ valuesI name cs := by
  induction cs with
  | nil => simp [valuesI]
  | cons c cs ih => simp only [valuesI]; split <;> omega
theorem cardStep_bd (cs : List (ByteArray × Int)) {n : Int} (m : Int × ByteArray × ByteArray) (h : 0 ≤ n) : 0 ≤ cardStep cs n m ∧ cardStep cs n m ≤ n := by
  unfold cardStep
  split
  · exact upI_bd h (valuesI_pos _ _)
  · split
    · exact upI_bd h (by omega)
    · omega
theorem card_bd (cs : List (ByteArray × Int)) (ms : List (Int × ByteArray × ByteArray)) : ∀ n : Int, 0 ≤ n → 0 ≤ ms.foldl (cardStep cs) n ∧ ms.foldl (cardStep cs) n ≤ n := by
  induction ms with
  | nil => intro n h; simp [h]
  | cons m ms ih =>
    intro n h
    have h1 := cardStep_bd cs m h
    have h2 := ih _ h1.1
    simp only [List.foldl_cons]
    omega
theorem cutI_bd (n : Int) : 0 ≤ cutI n ∧ cutI n ≤ 1099511627776 := by unfold cutI; omega

set_option maxRecDepth 100000 in
set_option maxHeartbeats 1000000 in
theorem card_any (se st : Int) (v vm : Value) (cs : List (ByteArray × Int)) (ms : List (Int × ByteArray × ByteArray)) (w : World) (h : CRow w v cs) (hmr : MRow w vm ms) :
    Calls Try.prog 38 #[vm, .agg #[.int .i64 se, v, .int .i64 st]] w fun e w' => e = .returned (.int .i64 (cardI cs se ms)) ∧ Below w.heap.size w w' := by
  have HCR := Lib.hid h
  clear h
  obtain ⟨a, cap, rfl, hlen, -, hc⟩ := hmr.split menc_len
  have HC := Lib.hid hc
  clear hc hmr
  go_enter Try.func38, Try.ntmps38
  go_wp2_with (go_at_call 71; refine (cut_any _ _).mono ?_; rintro e w' ⟨rfl, rfl⟩)
  have hc2 := cutI_bd se
  have hst : w.heap.size < (w.alloc (.cells #[.int .i64 se, v, .int .i64 st] 62)).heap.size := by simp
  go_loopw [5, 13] (fun n i wr => ∃ (k : Nat) (q : Int), k ≤ ms.length ∧ i = .int .i64 k ∧ n = .int .i64 q ∧ 0 ≤ q ∧ q ≤ 1099511627776 ∧ (ms.drop k).foldl (cardStep cs) q = cardI cs se ms ∧ Below (w.heap.size + 1) (w.alloc (.cells #[.int .i64 se, v, .int .i64 st] 62)) wr) (fun _ i _ => ms.length - (intOf i).toNat)
  case atStart => exact ⟨0, _, Nat.zero_le _, rfl, rfl, hc2.1, hc2.2, rfl, Below.refl _ _⟩
  case round =>
    obtain ⟨k, q, hk, rfl, rfl, hq0, hq1, hv, hb⟩ := hrel
    have HV := Lib.hid hv
    clear hv
    by_cases hlt : k < ms.length
    · obtain ⟨b, off, rfl, hcc⟩ := HC.out k hlt
      have hc0 : w.cell? ⟨b, off + k * 3, none⟩ = some (.int .i64 (mx ms k).1) := by rw [mx_at hlt]; exact hcc 0 _ rfl
      have hc1 : w.cell? ⟨b, off + k * 3 + 1, none⟩ = some (.string (mx ms k).2.1) := by rw [mx_at hlt]; exact hcc 1 _ rfl
      have hc2' : w.cell? ⟨b, off + k * 3 + 2, none⟩ = some (.string (mx ms k).2.2) := by rw [mx_at hlt]; exact hcc 2 _ rfl
      clear hcc
      have hbw : Below w.heap.size w wr := ((Below.refl _ _).alloc (Nat.le_refl _) _).trans (hb.mono (by omega))
      have hsz : w.heap.size + 1 ≤ wr.heap.size := by have := hb.size; simp at this; exact this
      have k0 : wr.cell? ⟨b, off + k * 3, none⟩ = some (.int .i64 (mx ms k).1) := cell_below hbw (Nat.le_refl _) hc0
      have k1 : wr.cell? ⟨b, off + k * 3 + 1, none⟩ = some (.string (mx ms k).2.1) := cell_below hbw (Nat.le_refl _) hc1
      have k2 : wr.cell? ⟨b, off + k * 3 + 2, none⟩ = some (.string (mx ms k).2.2) := cell_below hbw (Nat.le_refl _) hc2'
      have l0 : wr.cell? ⟨w.heap.size, 0, none⟩ = some (.int .i64 se) := by rw [hb.cell (by simp)]; exact World.cell?_alloc_at _ _ _ _ rfl
      have l1 : wr.cell? ⟨w.heap.size, 1, none⟩ = some v := by rw [hb.cell (by simp)]; exact World.cell?_alloc_at _ _ _ _ rfl
      have l2 : wr.cell? ⟨w.heap.size, 2, none⟩ = some (.int .i64 st) := by rw [hb.cell (by simp)]; exact World.cell?_alloc_at _ _ _ _ rfl
      have l0' : ∀ o, (wr.alloc o).cell? ⟨w.heap.size, 0, none⟩ = some (.int .i64 se) := fun o => by rw [World.cell?_alloc_past _ _ _ (by omega)]; exact l0
      have l1' : ∀ o, (wr.alloc o).cell? ⟨w.heap.size, 1, none⟩ = some v := fun o => by rw [World.cell?_alloc_past _ _ _ (by omega)]; exact l1
      have l2' : ∀ o, (wr.alloc o).cell? ⟨w.heap.size, 2, none⟩ = some (.int .i64 st) := fun o => by rw [World.cell?_alloc_past _ _ _ (by omega)]; exact l2
      have hd : ms.drop k = mx ms k :: ms.drop (k + 1) := by rw [List.drop_eq_getElem_cons hlt]; simp [mx, hlt]
      have HD := Lib.hid hd
      have hvp := valuesI_pos (mx ms k).2.1 cs
      have HB := Lib.hid hb
      clear hd hc0 hc1 hc2'
      obtain ⟨mk, hmk⟩ : ∃ x, x = (mx ms k).1 := ⟨_, rfl⟩
      rw [← hmk] at k0
      have HMK := Lib.hid hmk
      clear hmk
      by_cases e1 : mk = 1
      · subst e1
        go_wp2_with fail
        refine (values73 se st v cs _ _ (HCR.out.below (hbw.alloc (by omega) _) (Nat.le_refl _))).mono ?_
        rintro e w2 ⟨rfl, hb2⟩
        have HB2 := Lib.hid hb2
        have hs2 := hb2.size
        clear hb2
        go_wp2_with fail
        refine (up_any q _ _ hq0 hvp hq1).mono ?_
        rintro e w3 ⟨rfl, n3, rfl⟩
        go_wp2_with fail
        go_roundw
        case rel =>
          have h1 := HMK.out
          have hu := upI_bd hq0 hvp
          refine ⟨k + 1, _, by omega, by go_num, rfl, hu.1, by omega, ?_, below_drewN ((HB.out.alloc hsz _).trans (HB2.out.mono (by simp; omega))) _⟩
          rw [← HV.out, HD.out, List.foldl_cons]
          unfold cardStep
          rw [if_pos (by omega)]
        case measure => simp [intOf]; omega
      · by_cases e3 : mk = 3
        · subst e3
          go_wp2_with fail
          refine (up_any q _ _ hq0 (by omega) hq1).mono ?_
          rintro e w3 ⟨rfl, n3, rfl⟩
          go_wp2_with fail
          go_roundw
          case rel =>
            have h1 := HMK.out
            have hu := upI_bd (b := 2) hq0 (by omega)
            refine ⟨k + 1, _, by omega, by go_num, rfl, hu.1, by omega, ?_, below_drewN (HB.out.alloc hsz _) _⟩
            rw [← HV.out, HD.out, List.foldl_cons]
            unfold cardStep
            rw [if_neg (by omega), if_pos (by omega)]
          case measure => simp [intOf]; omega
        · go_wp2_with fail
          go_roundw
          case rel =>
            refine ⟨k + 1, q, by omega, by go_num, rfl, hq0, hq1, ?_, HB.out.alloc hsz _⟩
            have h1 := HMK.out
            rw [← HV.out, HD.out, List.foldl_cons]
            unfold cardStep
            rw [if_neg (by omega), if_neg (by omega)]
          case measure => simp [intOf]; omega
    · obtain rfl : k = ms.length := by omega
      go_wp2_with fail
      go_ret
      refine ⟨ret_i ?_, ?_⟩
      · rw [← HV.out, List.drop_length]; rfl
      · exact ((Below.refl _ _).alloc (Nat.le_refl _) _).trans (hb.mono (by omega))
end Go.Proofs.Ytdhahnagnemgaaa
