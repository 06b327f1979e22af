/- Bytes and names of labels: the code's and the document's. Lists of labels: Few, Get. Texts' order, lists' order. Lists' order: Compare, the code's and the document's. Lists' order: the code's. Are labels a set: the code's Right, the document's. Are labels a set: the document's Right. Names among some: Has, Contains. (Several texts in one file, by merge.py.) -/
import Derived.Test.YtogjcaakfnfapaaGreatDoorZC1
import Derived.Deep.Strs
import Derived.Deep.RegionLaw
import Derived.BigQuiet
import Derived.Deep.QuietTactic
import Derived.Shelf.SlSortCmp.QuietGrown
import Derived.Deep.Light
import Derived.Test.YtogjcaakfnfapaaGreatDoorShelf
import Derived.Sort.Grow
import Derived.Deep.DeepCutAuto
namespace Go.Proofs.YtogjcaakfnfapaaGreatDoor
open Go.RowKit
set_option linter.unusedVariables false
set_option linter.unusedSimpArgs false
set_option maxRecDepth 100000

def letterB (c : Int) : Bool := (decide (65 ≤ c) && decide (c ≤ 90)) || (decide (97 ≤ c) && decide (c ≤ 122)) || decide (c = 95)
def digitB (c : Int) : Bool := decide (48 ≤ c) && decide (c ≤ 57)
theorem letter_any (c : Int) (w : World) : Calls Tryz.prog 85 #[.int .u8 c] w fun e w' => e = .returned (.bool (letterB c)) ∧ w' = w := by
  by_cases h1 : 65 ≤ c <;> by_cases h2 : c ≤ 90 <;> by_cases h3 : 97 ≤ c <;> by_cases h4 : c ≤ 122 <;> by_cases h5 : c = 95
  all_goals first | (exfalso; omega) | skip
  all_goals first | have h6 : (c == 95) = false := by simp; omega | have h6 : (c == 95) = true := by simp; omega
  all_goals
    go_enter Tryz.func85, Tryz.ntmps85
    go_wp2_with fail
    go_ret
    exact ⟨by first | (simp [letterB, *]; done) | (simp [letterB, *]; omega), rfl⟩
theorem rletter_any (c : Int) (w : World) : Calls Tryz.prog 68 #[.int .u8 c] w fun e w' => e = .returned (.bool (letterB c)) ∧ w' = w := by
  by_cases h1 : 65 ≤ c <;> by_cases h2 : c ≤ 90 <;> by_cases h3 : 97 ≤ c <;> by_cases h4 : c ≤ 122 <;> by_cases h5 : c = 95
  all_goals first | (exfalso; omega) | skip
  all_goals first | have h6 : (c == 95) = false := by simp; omega | have h6 : (c == 95) = true := by simp; omega
  all_goals
    go_enter Tryz.func68, Tryz.ntmps68
    go_wp2_with fail
    go_ret
    exact ⟨by first | (simp [letterB, *]; done) | (simp [letterB, *]; omega), rfl⟩
theorem digit_any (c : Int) (w : World) : Calls Tryz.prog 86 #[.int .u8 c] w fun e w' => e = .returned (.bool (digitB c)) ∧ w' = w := by
  by_cases h1 : 48 ≤ c <;> by_cases h2 : c ≤ 57
  all_goals
    go_enter Tryz.func86, Tryz.ntmps86
    go_wp2_with fail
    go_ret
    exact ⟨by simp [digitB, *], rfl⟩
theorem rdigit_any (c : Int) (w : World) : Calls Tryz.prog 69 #[.int .u8 c] w fun e w' => e = .returned (.bool (digitB c)) ∧ w' = w := by
  by_cases h1 : 48 ≤ c <;> by_cases h2 : c ≤ 57
  all_goals
    go_enter Tryz.func69, Tryz.ntmps69
    go_wp2_with fail
    go_ret
    exact ⟨by simp [digitB, *], rfl⟩

/-- A label's name: a letter ahead, letters and digits behind. -/
def bt (s : ByteArray) (i : Nat) : Int := ((s.data[i]?).getD 0).toNat
theorem bt_eq (s : ByteArray) (i : Nat) (h : i < s.size) : (s[i].toNat : Int) = bt s i := by
  have h' : i < s.data.size := h
  unfold bt
  rw [Array.getElem?_eq_getElem h']
  rfl
def partB (c : Int) : Bool := letterB c || digitB c
def nameB (s : ByteArray) : Bool := decide (0 < s.size) && decide (s.size ≤ 64) && letterB (bt s 0) && (List.range s.size).all fun j => partB (bt s j)
theorem nameB_true {s : ByteArray} (h0 : 0 < s.size) (h1 : s.size ≤ 64) (h2 : letterB (bt s 0) = true) (h3 : ∀ j, j < s.size → partB (bt s j) = true) : nameB s = true := by
  unfold nameB
  simp [h0, h1, h2]
  exact h3
theorem nameB_false {s : ByteArray} (h : s.size = 0 ∨ 64 < s.size ∨ letterB (bt s 0) = false ∨ ∃ j, j < s.size ∧ partB (bt s j) = false) : nameB s = false := by
  unfold nameB
  rcases h with h | h | h | ⟨j, h1, h2⟩
  · simp [h]
  · simp; intros; omega
  · simp [h]
  · have : (List.range s.size).all (fun j => partB (bt s j)) = false := by
      rw [List.all_eq_false]
      exact ⟨j, List.mem_range.mpr h1, by simp [h2]⟩
    rw [this, Bool.and_false]

theorem empty_of {s : ByteArray} (h : s.size = 0) : s.toList = [] := by
  rw [ByteArray.toList_eq]
  have : s.data.toList.length = 0 := h
  exact List.length_eq_zero_iff.mp this
theorem not_empty_of {s : ByteArray} (h : 0 < s.size) : ¬ s.toList = [] := by
  rw [ByteArray.toList_eq]
  intro he
  have h2 : 0 < s.data.toList.length := h
  rw [he] at h2
  simp at h2
set_option maxHeartbeats 2000000 in
theorem rname_any (s : ByteArray) (w : World) : Calls Tryz.prog 41 #[.string s] w fun e w' => e = .returned (.bool (nameB s)) ∧ w' = w := by
  by_cases h0 : s.size = 0
  · have h1 : s.toList = [] := empty_of h0
    rw [nameB_false (.inl h0)]
    go_enter Tryz.func41, Tryz.ntmps41
    go_wp2_with fail
    go_ret
    exact ⟨rfl, rfl⟩
  · have hp : 0 < s.size := by omega
    have h1 : ¬ s.toList = [] := not_empty_of hp
    by_cases h2 : 64 < s.size
    · rw [nameB_false (.inr (.inl h2))]
      have h3 : ¬ (s.size : Int) ≤ 64 := by omega
      go_enter Tryz.func41, Tryz.ntmps41
      go_wp2_with fail
      go_ret
      exact ⟨rfl, rfl⟩
    · have h3 : (s.size : Int) ≤ 64 := by omega
      have h4 : s.toList.isEmpty = false := by simpa using h1
      have h5 : decide (64 < (s.size : Int)) = false := by simp; omega
      have e0 := bt_eq s 0 hp
      have E0 := Lib.hid e0
      clear e0
      go_enter Tryz.func41, Tryz.ntmps41
      go_wp2_with fail
      refine (rletter_any _ _).mono ?_
      rintro e w1 ⟨rfl, rfl⟩
      rw [E0.out]
      by_cases hL : letterB (bt s 0) = true
      · go_wp2_with fail
        go_loopw [3] (fun iv wr => ∃ i : Nat, iv = .int .i64 i ∧ 1 ≤ i ∧ i ≤ s.size ∧ wr = w1 ∧ Hid (∀ j, 1 ≤ j → j < i → partB (bt s j) = true)) (fun iv _ => s.size - (intOf iv).toNat)
        case atStart => exact ⟨1, rfl, Nat.le_refl _, hp, rfl, fun j h1 h2 => by omega⟩
        case round =>
          obtain ⟨i, rfl, hi1, hi2, rfl, HI⟩ := hrel
          by_cases hlt : i < s.size
          · have hltz : (i : Int) < (s.size : Int) := by omega
            have EI := Lib.hid (bt_eq s i hlt)
            have ea : ((i : Int)).toNat = i := by omega
            go_wp2_with fail
            refine (rletter_any _ _).mono ?_
            rintro e w2 ⟨rfl, rfl⟩
            rw [EI.out]
            by_cases hl : letterB (bt s i) = true
            · go_wp2_with fail
              go_roundw
              case rel => exact ⟨i + 1, by first | rfl | go_num, by omega, by omega, by trivial, fun j h1 h2 => by
                by_cases hj : j = i
                · subst hj; simp [partB, hl]
                · exact HI.out j h1 (by omega)⟩
              case measure => simp [intOf]; omega
            · have hl2 : letterB (bt s i) = false := by simpa using hl
              go_wp2_with fail
              refine (rdigit_any _ _).mono ?_
              rintro e w2 ⟨rfl, rfl⟩
              rw [EI.out]
              by_cases hd : digitB (bt s i) = true
              · go_wp2_with fail
                go_roundw
                case rel => exact ⟨i + 1, by first | rfl | go_num, by omega, by omega, by trivial, fun j h1 h2 => by
                  by_cases hj : j = i
                  · subst hj; simp [partB, hd]
                  · exact HI.out j h1 (by omega)⟩
                case measure => simp [intOf]; omega
              · have hd2 : digitB (bt s i) = false := by simpa using hd
                go_wp2_with fail
                go_ret
                exact ⟨by rw [nameB_false (.inr (.inr (.inr ⟨i, hlt, by simp [partB, hl2, hd2]⟩)))] <;> rfl, rfl⟩
          · have hltz : ¬ (i : Int) < (s.size : Int) := by omega
            go_wp2_with fail
            go_ret
            have hn := nameB_true hp (by omega) hL (fun j hj => by
              by_cases hj0 : j = 0
              · subst hj0; simp [partB, hL]
              · exact HI.out j (by omega) (by omega))
            exact ⟨by rw [hn] <;> rfl, rfl⟩
      · have hL2 : letterB (bt s 0) = false := by simpa using hL
        go_wp2_with fail
        go_ret
        exact ⟨by rw [nameB_false (.inr (.inr (.inl hL2)))] <;> rfl, rfl⟩
set_option maxHeartbeats 2000000 in
theorem name_any (s : ByteArray) (w : World) : Calls Tryz.prog 65 #[.string s] w fun e w' => e = .returned (.bool (nameB s)) ∧ w' = w := by
  by_cases h0 : s.size = 0
  · have h1 : s.toList = [] := empty_of h0
    rw [nameB_false (.inl h0)]
    go_enter Tryz.func65, Tryz.ntmps65
    go_wp2_with fail
    go_ret
    exact ⟨rfl, rfl⟩
  · have hp : 0 < s.size := by omega
    have h1 : ¬ s.toList = [] := not_empty_of hp
    by_cases h2 : 64 < s.size
    · rw [nameB_false (.inr (.inl h2))]
      have h3 : ¬ (s.size : Int) ≤ 64 := by omega
      go_enter Tryz.func65, Tryz.ntmps65
      go_wp2_with fail
      go_ret
      exact ⟨rfl, rfl⟩
    · have h3 : (s.size : Int) ≤ 64 := by omega
      have h4 : s.toList.isEmpty = false := by simpa using h1
      have h5 : decide (64 < (s.size : Int)) = false := by simp; omega
      have e0 := bt_eq s 0 hp
      have E0 := Lib.hid e0
      clear e0
      go_enter Tryz.func65, Tryz.ntmps65
      go_wp2_with fail
      refine (letter_any _ _).mono ?_
      rintro e w1 ⟨rfl, rfl⟩
      rw [E0.out]
      by_cases hL : letterB (bt s 0) = true
      · go_wp2_with fail
        go_loopw [19] (fun iv wr => ∃ i : Nat, iv = .int .i64 i ∧ i ≤ s.size ∧ wr = w1 ∧ Hid (∀ j, j < i → partB (bt s j) = true)) (fun iv _ => s.size - (intOf iv).toNat)
        case atStart => exact ⟨0, rfl, Nat.zero_le _, rfl, fun j h2 => absurd h2 (Nat.not_lt_zero _)⟩
        case round =>
          obtain ⟨i, rfl, hi2, rfl, HI⟩ := hrel
          by_cases hlt : i < s.size
          · have hltz : (i : Int) < (s.size : Int) := by omega
            have EI := Lib.hid (bt_eq s i hlt)
            have ea : ((i : Int)).toNat = i := by omega
            go_wp2_with fail
            refine (letter_any _ _).mono ?_
            rintro e w2 ⟨rfl, rfl⟩
            rw [EI.out]
            by_cases hl : letterB (bt s i) = true
            · go_wp2_with fail
              go_roundw
              case rel => exact ⟨i + 1, by first | rfl | go_num, by omega, by trivial, fun j h2 => by
                by_cases hj : j = i
                · subst hj; simp [partB, hl]
                · exact HI.out j (by omega)⟩
              case measure => simp [intOf]; omega
            · have hl2 : letterB (bt s i) = false := by simpa using hl
              go_wp2_with fail
              refine (digit_any _ _).mono ?_
              rintro e w2 ⟨rfl, rfl⟩
              rw [EI.out]
              by_cases hd : digitB (bt s i) = true
              · go_wp2_with fail
                go_roundw
                case rel => exact ⟨i + 1, by first | rfl | go_num, by omega, by trivial, fun j h2 => by
                  by_cases hj : j = i
                  · subst hj; simp [partB, hd]
                  · exact HI.out j (by omega)⟩
                case measure => simp [intOf]; omega
              · have hd2 : digitB (bt s i) = false := by simpa using hd
                go_wp2_with fail
                go_ret
                exact ⟨by rw [nameB_false (.inr (.inr (.inr ⟨i, hlt, by simp [partB, hl2, hd2]⟩)))] <;> rfl, rfl⟩
          · have hltz : ¬ (i : Int) < (s.size : Int) := by omega
            go_wp2_with fail
            go_ret
            have hn := nameB_true hp (by omega) hL (fun j hj => HI.out j (by omega))
            exact ⟨by rw [hn] <;> rfl, rfl⟩
      · have hL2 : letterB (bt s 0) = false := by simpa using hL
        go_wp2_with fail
        go_ret
        exact ⟨by rw [nameB_false (.inr (.inr (.inl hL2)))] <;> rfl, rfl⟩
end Go.Proofs.YtogjcaakfnfapaaGreatDoor
namespace Go.Proofs.YtogjcaakfnfapaaGreatDoor
open Go.RowKit
set_option linter.unusedVariables false
set_option linter.unusedSimpArgs false
set_option maxRecDepth 100000

abbrev Lb := ByteArray × ByteArray
def lenc (m : Lb) : List Value := [.string m.1, .string m.2]
theorem lenc_len (m : Lb) : (lenc m).length = 2 := rfl
def lx (cs : List Lb) (k : Nat) : Lb := cs.getD k (ByteArray.empty, ByteArray.empty)
theorem lx_at {cs : List Lb} {k : Nat} (h : k < cs.length) : lx cs k = cs[k] := by simp [lx, h]
def getL (name : ByteArray) : List Lb → ByteArray
  | [] => ⟨#[]⟩
  | c :: cs => if c.1.toList == name.toList then c.2 else getL name cs
/-- A label's two cells, in a later world. -/
theorem lab_cells {w wr : World} {a : Option Addr} {cs : List Lb} {B k : Nat} (HC : ∀ k (hk : k < cs.length), ∃ b off, a = some ⟨b, off, none⟩ ∧ ∀ i u, (lenc cs[k])[i]? = some u → w.cell? ⟨b, off + (k * 2 + i), none⟩ = some u) (hb : Below B w wr) (hB : w.heap.size ≤ B) (hlt : k < cs.length) :
    ∃ b off, a = some ⟨b, off, none⟩ ∧ wr.cell? ⟨b, off + k * 2, none⟩ = some (.string (lx cs k).1) ∧ wr.cell? ⟨b, off + k * 2 + 1, none⟩ = some (.string (lx cs k).2) := by
  obtain ⟨b, off, rfl, hcc⟩ := HC k hlt
  refine ⟨b, off, rfl, ?_, ?_⟩
  · rw [lx_at hlt]; exact cell_below hb hB (hcc 0 _ rfl)
  · rw [lx_at hlt]; exact cell_below hb hB (hcc 1 _ rfl)

set_option maxHeartbeats 1000000 in
theorem get_any (v : Value) (cs : List Lb) (name : ByteArray) (w : World) (h : Sl lenc w v cs) :
    Calls Tryz.prog 58 #[v, .string name] w fun e w' => e = .returned (.string (getL name cs)) ∧ Below w.heap.size w w' := by
  obtain ⟨a, cap, rfl, hlen, -, hc⟩ := h.split lenc_len
  have HC := Lib.hid hc
  clear hc h
  go_enter Tryz.func58, Tryz.ntmps58
  go_wp2_with fail
  go_loopw [9] (fun i wr => ∃ k : Nat, k ≤ cs.length ∧ i = .int .i64 k ∧ Hid (getL name (cs.drop k) = getL name cs) ∧ Below w.heap.size w wr) (fun i _ => cs.length - (intOf i).toNat)
  case atStart => exact ⟨0, Nat.zero_le _, rfl, rfl, Below.refl _ _⟩
  case round =>
    obtain ⟨k, hk, rfl, HV, hb⟩ := hrel
    by_cases hlt : k < cs.length
    · obtain ⟨b, off, rfl, hk0, hk1⟩ := lab_cells HC.out hb (Nat.le_refl _) hlt
      have HD := Lib.hid (show cs.drop k = lx cs k :: cs.drop (k + 1) by rw [List.drop_eq_getElem_cons hlt]; simp [lx, hlt])
      have hs := hb.size
      have hltz : (k : Int) < (cs.length : Int) := by omega
      by_cases he : ((lx cs k).1.toList == name.toList) = true
      · go_wp2_with fail
        go_ret
        exact ⟨by rw [← HV.out, HD.out, getL, if_pos he] <;> rfl, by first | exact hb.alloc hs _ | exact below_drewN (hb.alloc hs _) _⟩
      · have he2 : ((lx cs k).1.toList == name.toList) = false := by simpa using he
        go_wp2_with fail
        go_roundw
        case rel => exact ⟨k + 1, by omega, by go_num, by show _ = _; rw [← HV.out, HD.out, getL, if_neg he], hb.alloc hs _⟩
        case measure => simp [intOf]; omega
    · have hltz : ¬ (k : Int) < (cs.length : Int) := by omega
      go_wp2_with fail
      go_ret
      exact ⟨by rw [← HV.out, List.drop_eq_nil_of_le (by omega)]; rfl, hb⟩

set_option maxHeartbeats 1000000 in
theorem rget_any (v : Value) (cs : List Lb) (name : ByteArray) (w : World) (h : Sl lenc w v cs) :
    Calls Tryz.prog 62 #[v, .string name] w fun e w' => e = .returned (.string (getL name cs)) ∧ w' = w := by
  obtain ⟨a, cap, rfl, hlen, -, hc⟩ := h.split lenc_len
  have HC := Lib.hid hc
  clear hc h
  go_enter Tryz.func62, Tryz.ntmps62
  go_wp2_with fail
  go_loopw [5] (fun i wr => ∃ k : Nat, k ≤ cs.length ∧ i = .int .i64 k ∧ Hid (getL name (cs.drop k) = getL name cs) ∧ wr = w) (fun i _ => cs.length - (intOf i).toNat)
  case atStart => exact ⟨0, Nat.zero_le _, rfl, rfl, rfl⟩
  case round =>
    obtain ⟨k, hk, rfl, HV, rfl⟩ := hrel
    by_cases hlt : k < cs.length
    · obtain ⟨b, off, rfl, hk0, hk1⟩ := lab_cells HC.out (Below.refl _ _) (Nat.le_refl _) hlt
      have HD := Lib.hid (show cs.drop k = lx cs k :: cs.drop (k + 1) by rw [List.drop_eq_getElem_cons hlt]; simp [lx, hlt])
      have hltz : (k : Int) < (cs.length : Int) := by omega
      have h00 : (0 : Int) ≤ (k : Int) := by omega
      by_cases he : ((lx cs k).1.toList == name.toList) = true
      · go_wp2_with fail
        go_ret
        exact ⟨by rw [← HV.out, HD.out, getL, if_pos he] <;> rfl, rfl⟩
      · have he2 : ((lx cs k).1.toList == name.toList) = false := by simpa using he
        go_wp2_with fail
        go_roundw
        case rel => exact ⟨k + 1, by omega, by go_num, by show _ = _; rw [← HV.out, HD.out, getL, if_neg he], by trivial⟩
        case measure => simp [intOf]; omega
    · have hltz : ¬ (k : Int) < (cs.length : Int) := by omega
      go_wp2_with fail
      go_ret
      exact ⟨by rw [← HV.out, List.drop_eq_nil_of_le (by omega)]; rfl, rfl⟩
end Go.Proofs.YtogjcaakfnfapaaGreatDoor
namespace Go.Proofs.YtogjcaakfnfapaaGreatDoor
open Go.RowKit
set_option linter.unusedVariables false
set_option linter.unusedSimpArgs false
set_option maxRecDepth 100000
open Lib (compareBytes)
theorem u8_eq {a b : UInt8} (h1 : ¬ a < b) (h2 : ¬ b < a) : a = b := UInt8.le_antisymm (UInt8.not_lt.mp h2) (UInt8.not_lt.mp h1)
theorem u8_asym {a b : UInt8} (h1 : a < b) : ¬ b < a := fun h2 => absurd (UInt8.lt_trans h1 h2) (UInt8.lt_irrefl _)
theorem cb_cases : ∀ x y : List UInt8, compareBytes x y = -1 ∨ compareBytes x y = 0 ∨ compareBytes x y = 1 := by
  intro x
  induction x with
  | nil => intro y; cases y <;> simp [compareBytes]
  | cons a x ih =>
    intro y
    cases y with
    | nil => simp [compareBytes]
    | cons b y =>
      simp only [compareBytes]
      split
      · simp
      · split
        · simp
        · exact ih y
theorem cb_neg : ∀ x y : List UInt8, compareBytes y x = - compareBytes x y := by
  intro x
  induction x with
  | nil => intro y; cases y <;> simp [compareBytes]
  | cons a x ih =>
    intro y
    cases y with
    | nil => simp [compareBytes]
    | cons b y =>
      simp only [compareBytes]
      by_cases h1 : a < b
      · rw [if_pos h1, if_neg (u8_asym h1), if_pos h1]; rfl
      · rw [if_neg h1, if_neg h1]
        by_cases h2 : b < a
        · rw [if_pos h2, if_pos h2]
        · rw [if_neg h2, if_neg h2]; exact ih y
theorem cb_eq : ∀ x y : List UInt8, compareBytes x y = 0 ↔ x = y := by
  intro x
  induction x with
  | nil => intro y; cases y <;> simp [compareBytes]
  | cons a x ih =>
    intro y
    cases y with
    | nil => simp [compareBytes]
    | cons b y =>
      simp only [compareBytes]
      by_cases h1 : a < b
      · rw [if_pos h1]
        exact ⟨fun h => by simp at h, fun h => by injection h with h; subst h; exact absurd h1 (UInt8.lt_irrefl _)⟩
      · rw [if_neg h1]
        by_cases h2 : b < a
        · rw [if_pos h2]
          exact ⟨fun h => by simp at h, fun h => by injection h with h; subst h; exact absurd h2 (UInt8.lt_irrefl _)⟩
        · rw [if_neg h2, ih y]
          have := u8_eq h1 h2
          subst this
          simp
theorem cb_less : ∀ x y : List UInt8, Op.bytesLess x y = decide (compareBytes x y = -1) := by
  intro x
  induction x with
  | nil => intro y; cases y <;> simp [compareBytes, Op.bytesLess]
  | cons a x ih =>
    intro y
    cases y with
    | nil => simp [compareBytes, Op.bytesLess]
    | cons b y =>
      simp only [compareBytes, Op.bytesLess, ih y]
      by_cases h1 : a < b
      · simp [h1]
      · by_cases h2 : b < a
        · have : (a == b) = false := by
            cases h : a == b with
            | false => rfl
            | true => have := eq_of_beq h; subst this; exact absurd h2 (UInt8.lt_irrefl _)
          simp [h1, h2, this]
        · have := u8_eq h1 h2
          subst this
          simp [h1]
theorem cb_trans : ∀ x y z : List UInt8, compareBytes x y ≤ 0 → compareBytes y z ≤ 0 → compareBytes x z ≤ 0 ∧ (compareBytes x y < 0 ∨ compareBytes y z < 0 → compareBytes x z < 0) := by
  intro x
  induction x with
  | nil => intro y z; cases y <;> cases z <;> simp [compareBytes]
  | cons a x ih =>
    intro y z
    cases y with
    | nil => simp [compareBytes]
    | cons b y =>
      cases z with
      | nil => intro h1 h2; simp [compareBytes] at h2
      | cons c z =>
        simp only [compareBytes]
        by_cases h1 : a < b
        · rw [if_pos h1]
          by_cases h2 : b < c
          · rw [if_pos h2, if_pos (UInt8.lt_trans h1 h2)]; simp
          · rw [if_neg h2]
            by_cases h3 : c < b
            · rw [if_pos h3]; intro _ h; simp at h
            · have := u8_eq h2 h3
              subst this
              rw [if_pos h1]; simp
        · rw [if_neg h1]
          by_cases h2 : b < a
          · rw [if_pos h2]; intro h; simp at h
          · have := u8_eq h1 h2
            subst this
            rw [if_neg h2]
            by_cases h2 : a < c
            · simp only [if_pos h2]; intros; simp
            · simp only [if_neg h2]
              by_cases h3 : c < a
              · simp only [if_pos h3]; intro _ h; simp at h
              · simp only [if_neg h3]; exact ih y z

/-- Of two texts: which stands first. -/
def cmpS (a b : ByteArray) : Int := compareBytes a.data.toList b.data.toList
theorem order_any (a b : ByteArray) (w : World) : Calls Tryz.prog 75 #[.string a, .string b] w fun e w' => e = .returned (.int .i64 (cmpS a b)) ∧ w' = w := by
  have hl : Op.bytesLess a.toList b.toList = decide (cmpS a b = -1) := by rw [ByteArray.toList_eq, ByteArray.toList_eq]; exact cb_less _ _
  have he : (a.toList == b.toList) = decide (cmpS a b = 0) := by
    rw [ByteArray.toList_eq, ByteArray.toList_eq, Bool.eq_iff_iff]
    simp [cmpS, cb_eq]
  rcases cb_cases a.data.toList b.data.toList with h | h | h
  · have h' : cmpS a b = -1 := h
    rw [h'] at hl he ⊢
    have hl2 : Op.bytesLess a.toList b.toList = true := hl
    go_enter Tryz.func75, Tryz.ntmps75
    go_wp2_with fail
    go_ret
    exact ⟨rfl, rfl⟩
  · have h' : cmpS a b = 0 := h
    rw [h'] at hl he ⊢
    have hl2 : Op.bytesLess a.toList b.toList = false := hl
    have he2 : (!(a.toList == b.toList)) = false := by rw [he]; rfl
    have he3 : (a.toList == b.toList) = true := he
    clear hl he
    go_enter Tryz.func75, Tryz.ntmps75
    go_wp2_with fail
    all_goals first | (exfalso; simp_all; done) | (go_ret; exact ⟨rfl, rfl⟩)
  · have h' : cmpS a b = 1 := h
    rw [h'] at hl he ⊢
    have hl2 : Op.bytesLess a.toList b.toList = false := hl
    have he2 : (!(a.toList == b.toList)) = true := by rw [he]; rfl
    have he3 : (a.toList == b.toList) = false := he
    clear hl he
    go_enter Tryz.func75, Tryz.ntmps75
    go_wp2_with fail
    all_goals first | (exfalso; simp_all; done) | (go_ret; exact ⟨rfl, rfl⟩)
end Go.Proofs.YtogjcaakfnfapaaGreatDoor
namespace Go.Proofs.YtogjcaakfnfapaaGreatDoor
open Go.RowKit
set_option linter.unusedVariables false
set_option linter.unusedSimpArgs false
set_option maxRecDepth 100000

/-- A world with draws and new blocks: nothing else. -/
def Grew (w w' : World) : Prop := ∃ q os, w' = Sort.grow (w.drewN q) os
theorem Grew.refl (w : World) : Grew w w := ⟨0, #[], by rw [Sort.grow_empty]; rfl⟩
theorem Grew.alloc {w w' : World} (h : Grew w w') (o : Obj) : Grew w (w'.alloc o) := by
  obtain ⟨q, os, rfl⟩ := h
  exact ⟨q, os ++ #[o], by rw [Sort.alloc_eq_grow, Sort.grow_grow]⟩
theorem Grew.drewN {w w' : World} (h : Grew w w') (n : Nat) : Grew w (w'.drewN n) := by
  obtain ⟨q, os, rfl⟩ := h
  exact ⟨q + n, os, by rw [← World.drewN_drewN]; rfl⟩
theorem Grew.trans {a b c : World} (h : Grew a b) (k : Grew b c) : Grew a c := by
  obtain ⟨q, os, rfl⟩ := h
  obtain ⟨n, os', rfl⟩ := k
  exact ⟨q + n, os ++ os', by rw [← World.drewN_drewN, ← Sort.grow_grow]; rfl⟩
theorem Grew.below {w w' : World} (h : Grew w w') : Below w.heap.size w w' := by
  obtain ⟨q, os, rfl⟩ := h
  refine ⟨rfl, rfl, rfl, ?_, fun b hb => ?_⟩
  · show w.heap.size ≤ (w.heap ++ os).size
    rw [Array.size_append]; omega
  · show (w.heap ++ os)[b]? = w.heap[b]?
    rw [Array.getElem?_append_left hb]

/-- Of two labels. -/
def cmpP (x y : Lb) : Int := if cmpS x.1 y.1 = 0 then cmpS x.2 y.2 else cmpS x.1 y.1
/-- Of two lists. -/
def cmpL : List Lb → List Lb → Int
  | [], [] => 0
  | [], _ :: _ => -1
  | _ :: _, [] => 1
  | a :: r, b :: t => if cmpP a b = 0 then cmpL r t else cmpP a b
theorem order_qs (a b : ByteArray) (w : World) : Calls Tryz.prog 75 #[.string a, .string b] w fun e w' => e = .returned (.int .i64 (cmpS a b)) ∧ w = w' := (order_any a b w).mono fun _ _ h => ⟨h.1, h.2.symm⟩
theorem cmpS_ne (a b : ByteArray) : (!(a.toList == b.toList)) = decide (cmpS a b ≠ 0) := by
  rw [ByteArray.toList_eq, ByteArray.toList_eq, Bool.eq_iff_iff]
  simp [cmpS, cb_eq]
theorem cmp1_any (x y : Lb) (w : World) : Calls Tryz.prog 73 #[.agg (lenc x).toArray, .agg (lenc y).toArray] w fun e w' => e = .returned (.int .i64 (cmpP x y)) ∧ Grew w w' := by
  obtain ⟨a, b⟩ := x
  obtain ⟨c, d⟩ := y
  show Calls Tryz.prog 73 #[.agg #[.string a, .string b], .agg #[.string c, .string d]] w _
  have h1 : (!(a.toList == c.toList)) = decide (cmpS a c ≠ 0) := cmpS_ne a c
  by_cases h : cmpS a c = 0
  · have h2 : (!(a.toList == c.toList)) = false := by rw [h1]; simp [h]
    have h3 : (a.toList == c.toList) = true := by simpa using h2
    rw [show cmpP (a, b) (c, d) = cmpS b d by simp [cmpP, h]]
    clear h1
    go_enter Tryz.func73, Tryz.ntmps73
    go_wp2_with fail
    refine (Tryz.strings_Compare _ _ _).mono ?_
    rintro e w1 ⟨rfl, rfl⟩
    go_wp2_with fail
    go_ret
    exact ⟨rfl, ((Grew.refl _).alloc _).alloc _⟩
  · have h2 : (!(a.toList == c.toList)) = true := by rw [h1]; simp [h]
    have h3 : (a.toList == c.toList) = false := by simpa using h2
    rw [show cmpP (a, b) (c, d) = cmpS a c by simp [cmpP, h]]
    clear h1
    go_enter Tryz.func73, Tryz.ntmps73
    go_wp2_with fail
    refine (Tryz.strings_Compare _ _ _).mono ?_
    rintro e w1 ⟨rfl, rfl⟩
    go_wp2_with fail
    go_ret
    exact ⟨rfl, ((Grew.refl _).alloc _).alloc _⟩
set_option maxHeartbeats 2000000 in
/-- The document's. -/
theorem rcompare_any (v1 v2 : Value) (xs ys : List Lb) (w : World) (h1 : Sl lenc w v1 xs) (h2 : Sl lenc w v2 ys) :
    Calls Tryz.prog 53 #[v1, v2] w fun e w' => e = .returned (.int .i64 (cmpL xs ys)) ∧ ∃ n, w' = w.drewN n := by
  obtain ⟨a, cap, rfl, hlen, -, hc⟩ := h1.split lenc_len
  obtain ⟨a2, cap2, rfl, hlen2, -, hc2⟩ := h2.split lenc_len
  have HC := Lib.hid hc
  have HC2 := Lib.hid hc2
  clear hc hc2 h1 h2
  go_enter Tryz.func53, Tryz.ntmps53
  go_wp2_with fail
  go_loopw [5] (fun i wr => ∃ k : Nat, k ≤ xs.length ∧ k ≤ ys.length ∧ i = .int .i64 k ∧ Hid (cmpL (xs.drop k) (ys.drop k) = cmpL xs ys) ∧ ∃ n, wr = w.drewN n) (fun i _ => xs.length - (intOf i).toNat)
  case atStart => exact ⟨0, Nat.zero_le _, Nat.zero_le _, rfl, rfl, 0, rfl⟩
  case round =>
    obtain ⟨k, hk, hk2, rfl, HV, n, rfl⟩ := hrel
    by_cases hlt : k < xs.length
    · have hltz : (k : Int) < (xs.length : Int) := by omega
      by_cases hlt2 : k < ys.length
      · have hltz2 : (k : Int) < (ys.length : Int) := by omega
        have h00 : (0 : Int) ≤ (k : Int) := by omega
        obtain ⟨b, off, rfl, hk0, hk1⟩ := lab_cells HC.out (Below.refl _ _) (Nat.le_refl _) hlt
        obtain ⟨b2, off2, rfl, hj0, hj1⟩ := lab_cells HC2.out (Below.refl _ _) (Nat.le_refl _) hlt2
        have HD := Lib.hid (show xs.drop k = lx xs k :: xs.drop (k + 1) by rw [List.drop_eq_getElem_cons hlt]; simp [lx, hlt])
        have HD2 := Lib.hid (show ys.drop k = lx ys k :: ys.drop (k + 1) by rw [List.drop_eq_getElem_cons hlt2]; simp [lx, hlt2])
        go_wp2_with fail
        go_quiet ((go_at_call 75; first | refine qs (order_qs _ _ _) | refine quiet_same (order_qs _ _ _)))
        obtain ⟨p, hp⟩ : ∃ p, p = cmpS (lx xs k).1 (lx ys k).1 := ⟨_, rfl⟩
        rw [← hp]
        by_cases h0 : p = 0
        · have h0b : (p == 0) = true := by simpa using h0
          go_wp2_with fail
          go_quiet ((go_at_call 75; first | refine qs (order_qs _ _ _) | refine quiet_same (order_qs _ _ _)))
          obtain ⟨q, hq⟩ : ∃ q, q = cmpS (lx xs k).2 (lx ys k).2 := ⟨_, rfl⟩
          rw [← hq]
          have hpp : cmpP (lx xs k) (lx ys k) = q := by rw [cmpP, ← hp, if_pos h0, hq]
          have HPP := Lib.hid hpp
          clear hpp hp hq
          by_cases h1 : q = 0
          · have h1b : (q == 0) = true := by simpa using h1
            go_wp2_with fail
            go_roundw
            case rel => exact ⟨k + 1, by omega, by omega, by go_num, by show _ = _; rw [← HV.out, HD.out, HD2.out, cmpL, HPP.out, if_pos h1], _, by first | rfl | (simp only [World.drewN_drewN])⟩
            case measure => simp [intOf]; omega
          · have h1b : (q == 0) = false := by simpa using h1
            go_wp2_with fail
            go_ret
            exact ⟨by rw [← HV.out, HD.out, HD2.out, cmpL, HPP.out, if_neg h1] <;> rfl, _, by first | rfl | (simp only [World.drewN_drewN])⟩
        · have h0b : (p == 0) = false := by simpa using h0
          have hpp : cmpP (lx xs k) (lx ys k) = p := by rw [cmpP, ← hp, if_neg h0]
          have HPP := Lib.hid hpp
          clear hpp hp
          go_wp2_with fail
          go_ret
          exact ⟨by rw [← HV.out, HD.out, HD2.out, cmpL, HPP.out, if_neg h0] <;> rfl, _, by first | rfl | (simp only [World.drewN_drewN])⟩
      · have hltz2 : ¬ (k : Int) < (ys.length : Int) := by omega
        have e2 : ys.drop k = [] := List.drop_eq_nil_of_le (by omega)
        have e1 : xs.drop k = lx xs k :: xs.drop (k + 1) := by rw [List.drop_eq_getElem_cons hlt]; simp [lx, hlt]
        have hz1 : ¬ (xs.length : Int) < (ys.length : Int) := by omega
        have hz2 : (ys.length : Int) < (xs.length : Int) := by omega
        have HE := Lib.hid (show cmpL xs ys = 1 by rw [← HV.out, e1, e2]; rfl)
        clear e1 e2
        go_wp2_with fail
        go_ret
        exact ⟨by rw [HE.out] <;> rfl, _, rfl⟩
    · have hltz : ¬ (k : Int) < (xs.length : Int) := by omega
      have e1 : xs.drop k = [] := List.drop_eq_nil_of_le (by omega)
      by_cases hlt2 : k < ys.length
      · have e2 : ys.drop k = lx ys k :: ys.drop (k + 1) := by rw [List.drop_eq_getElem_cons hlt2]; simp [lx, hlt2]
        have hz1 : (xs.length : Int) < (ys.length : Int) := by omega
        have HE := Lib.hid (show cmpL xs ys = -1 by rw [← HV.out, e1, e2]; rfl)
        clear e1 e2
        go_wp2_with fail
        go_ret
        exact ⟨by rw [HE.out] <;> rfl, _, rfl⟩
      · have e2 : ys.drop k = [] := List.drop_eq_nil_of_le (by omega)
        have hz1 : ¬ (xs.length : Int) < (ys.length : Int) := by omega
        have hz2 : ¬ (ys.length : Int) < (xs.length : Int) := by omega
        have HE := Lib.hid (show cmpL xs ys = 0 by rw [← HV.out, e1, e2]; rfl)
        clear e1 e2
        go_wp2_with fail
        go_ret
        exact ⟨by rw [HE.out] <;> rfl, _, rfl⟩
end Go.Proofs.YtogjcaakfnfapaaGreatDoor
namespace Go.Proofs.YtogjcaakfnfapaaGreatDoor
open Go.RowKit
set_option linter.unusedVariables false
set_option linter.unusedSimpArgs false
set_option maxRecDepth 100000
set_option maxHeartbeats 2000000 in
theorem cmpfn_any (v1 v2 : Value) (xs ys : List Lb) (w : World) (h1 : Sl lenc w v1 xs) (h2 : Sl lenc w v2 ys) :
    Calls Tryz.prog 72 #[v1, v2, .func (.func 73) #[] #[]] w fun e w' => e = .returned (.int .i64 (cmpL xs ys)) ∧ Grew w w' := by
  obtain ⟨a, cap, rfl, hlen, -, hc⟩ := h1.split lenc_len
  obtain ⟨a2, cap2, rfl, hlen2, -, hc2⟩ := h2.split lenc_len
  have HC := Lib.hid hc
  have HC2 := Lib.hid hc2
  clear hc hc2 h1 h2
  go_enter Tryz.func72, Tryz.ntmps72
  go_wp2_with fail
  go_loopw [13] (fun i wr => ∃ k : Nat, k ≤ xs.length ∧ k ≤ ys.length ∧ i = .int .i64 k ∧ Hid (cmpL (xs.drop k) (ys.drop k) = cmpL xs ys) ∧ Hid (Grew w wr)) (fun i _ => xs.length - (intOf i).toNat)
  case atStart => exact ⟨0, Nat.zero_le _, Nat.zero_le _, rfl, rfl, Grew.refl _⟩
  case round =>
    obtain ⟨k, hk, hk2, rfl, HV, HG⟩ := hrel
    by_cases hlt : k < xs.length
    · have hltz : (k : Int) < (xs.length : Int) := by omega
      have h00 : (0 : Int) ≤ (k : Int) := by omega
      obtain ⟨b, off, rfl, hk0, hk1⟩ := lab_cells HC.out HG.out.below (Nat.le_refl _) hlt
      by_cases hlt2 : k < ys.length
      · have hltz2 : (k : Int) < (ys.length : Int) := by omega
        have hltz3 : ¬ (ys.length : Int) ≤ (k : Int) := by omega
        obtain ⟨b2, off2, rfl, hj0, hj1⟩ := lab_cells HC2.out HG.out.below (Nat.le_refl _) hlt2
        have HD := Lib.hid (show xs.drop k = lx xs k :: xs.drop (k + 1) by rw [List.drop_eq_getElem_cons hlt]; simp [lx, hlt])
        have HD2 := Lib.hid (show ys.drop k = lx ys k :: ys.drop (k + 1) by rw [List.drop_eq_getElem_cons hlt2]; simp [lx, hlt2])
        have hne : b2 ≠ wr.heap.size := by
          have := World.block_lt_of_cell? wr _ hj0
          have h2 : b2 < wr.heap.size := this
          omega
        have hlt3 : b2 < wr.heap.size := World.block_lt_of_cell? wr _ hj0
        go_wp2_with fail
        refine (cmp1_any (lx xs k) (lx ys k) _).mono ?_
        rintro e w1 ⟨rfl, hg⟩
        have HG1 : Hid (Grew w w1) := ((HG.out.alloc _).alloc _).trans hg
        clear hg
        obtain ⟨p, hp⟩ : ∃ p, p = cmpP (lx xs k) (lx ys k) := ⟨_, rfl⟩
        rw [← hp]
        have HPP := Lib.hid hp
        clear hp
        by_cases h0 : p = 0
        · have h0b : (p == 0) = true := by simpa using h0
          go_wp2_with fail
          go_roundw
          case rel => exact ⟨k + 1, by omega, by omega, by go_num, by show _ = _; rw [← HV.out, HD.out, HD2.out, cmpL, ← HPP.out, if_pos h0], HG1⟩
          case measure => simp [intOf]; omega
        · have h0b : (p == 0) = false := by simpa using h0
          go_wp2_with fail
          go_ret
          exact ⟨by rw [← HV.out, HD.out, HD2.out, cmpL, ← HPP.out, if_neg h0] <;> rfl, HG1.out⟩
      · have hltz2 : (ys.length : Int) ≤ (k : Int) := by omega
        have e2 : ys.drop k = [] := List.drop_eq_nil_of_le (by omega)
        have e1 : xs.drop k = lx xs k :: xs.drop (k + 1) := by rw [List.drop_eq_getElem_cons hlt]; simp [lx, hlt]
        have HE := Lib.hid (show cmpL xs ys = 1 by rw [← HV.out, e1, e2]; rfl)
        clear e1 e2
        go_wp2_with fail
        go_ret
        exact ⟨by rw [HE.out] <;> rfl, by first | exact HG.out.alloc _ | exact HG.out⟩
    · have hltz : ¬ (k : Int) < (xs.length : Int) := by omega
      have e1 : xs.drop k = [] := List.drop_eq_nil_of_le (by omega)
      by_cases hlt2 : k < ys.length
      · have e2 : ys.drop k = lx ys k :: ys.drop (k + 1) := by rw [List.drop_eq_getElem_cons hlt2]; simp [lx, hlt2]
        have hz1 : (xs.length : Int) < (ys.length : Int) := by omega
        have HE := Lib.hid (show cmpL xs ys = -1 by rw [← HV.out, e1, e2]; rfl)
        clear e1 e2
        go_wp2_with fail
        go_ret
        exact ⟨by rw [HE.out] <;> rfl, HG.out⟩
      · have e2 : ys.drop k = [] := List.drop_eq_nil_of_le (by omega)
        have hz1 : ¬ (xs.length : Int) < (ys.length : Int) := by omega
        have HE := Lib.hid (show cmpL xs ys = 0 by rw [← HV.out, e1, e2]; rfl)
        clear e1 e2
        go_wp2_with fail
        go_ret
        exact ⟨by rw [HE.out] <;> rfl, HG.out⟩
theorem compare_any (v1 v2 : Value) (xs ys : List Lb) (w : World) (h1 : Sl lenc w v1 xs) (h2 : Sl lenc w v2 ys) :
    Calls Tryz.prog 49 #[v1, v2] w fun e w' => e = .returned (.int .i64 (cmpL xs ys)) ∧ Grew w w' := by
  have HF := Lib.hid (cmpfn_any v1 v2 xs ys w h1 h2)
  clear h1 h2
  go_enter Tryz.func49, Tryz.ntmps49
  go_wp2_with fail
  refine HF.out.mono ?_
  rintro e w1 ⟨rfl, hg⟩
  go_wp2_with fail
  go_ret
  exact ⟨rfl, hg⟩
/-- Are two lists the same? -/
theorem rsame_any (v1 v2 : Value) (xs ys : List Lb) (w : World) (h1 : Sl lenc w v1 xs) (h2 : Sl lenc w v2 ys) :
    Calls Tryz.prog 28 #[v1, v2] w fun e w' => e = .returned (.bool (cmpL xs ys == 0)) ∧ ∃ n, w' = w.drewN n := by
  have HF := Lib.hid (rcompare_any v1 v2 xs ys w h1 h2)
  clear h1 h2
  go_enter Tryz.func28, Tryz.ntmps28
  go_wp2_with fail
  refine HF.out.mono ?_
  rintro e w1 ⟨rfl, n, rfl⟩
  go_wp2_with fail
  all_goals go_ret
  all_goals exact ⟨by first | rfl | simp_all, n, rfl⟩

/-! The order in plain words. -/
theorem cmpS_neg (a b : ByteArray) : cmpS b a = - cmpS a b := cb_neg _ _
theorem ba_eq {a b : ByteArray} (h : a.data.toList = b.data.toList) : a = b := by
  cases a; cases b
  simp only [Array.toList_inj] at h
  subst h; rfl
theorem cmpS_eq (a b : ByteArray) : cmpS a b = 0 ↔ a = b := by
  unfold cmpS
  rw [cb_eq]
  exact ⟨ba_eq, fun h => by rw [h]⟩
theorem cmpS_trans {a b c : ByteArray} (h1 : cmpS a b ≤ 0) (h2 : cmpS b c ≤ 0) : cmpS a c ≤ 0 ∧ (cmpS a b < 0 ∨ cmpS b c < 0 → cmpS a c < 0) := cb_trans _ _ _ h1 h2
theorem cmpP_neg (x y : Lb) : cmpP y x = - cmpP x y := by
  unfold cmpP
  rw [cmpS_neg x.1 y.1, cmpS_neg x.2 y.2]
  by_cases h : cmpS x.1 y.1 = 0
  · rw [if_pos h, if_pos (by omega)]
  · rw [if_neg h, if_neg (by omega)]
theorem cmpP_eq (x y : Lb) : cmpP x y = 0 ↔ x = y := by
  unfold cmpP
  by_cases h : cmpS x.1 y.1 = 0
  · rw [if_pos h, cmpS_eq]
    have := (cmpS_eq _ _).1 h
    exact ⟨fun h2 => Prod.ext this h2, fun h2 => by rw [h2]⟩
  · rw [if_neg h]
    exact ⟨fun h2 => absurd h2 h, fun h2 => absurd ((cmpS_eq _ _).2 (by rw [h2])) h⟩
theorem cmpP_trans {x y z : Lb} (h1 : cmpP x y ≤ 0) (h2 : cmpP y z ≤ 0) : cmpP x z ≤ 0 ∧ (cmpP x y < 0 ∨ cmpP y z < 0 → cmpP x z < 0) := by
  unfold cmpP at *
  by_cases a : cmpS x.1 y.1 = 0
  · by_cases b : cmpS y.1 z.1 = 0
    · have e1 := (cmpS_eq _ _).1 a
      have e2 := (cmpS_eq _ _).1 b
      rw [if_pos a] at h1 ⊢
      rw [if_pos b] at h2 ⊢
      rw [if_pos (by rw [e1]; exact b)]
      exact cmpS_trans h1 h2
    · have e1 := (cmpS_eq _ _).1 a
      rw [if_neg b] at h2 ⊢
      rw [e1, if_neg b]
      exact ⟨h2, fun _ => by omega⟩
  · rw [if_neg a] at h1 ⊢
    by_cases b : cmpS y.1 z.1 = 0
    · have e2 := (cmpS_eq _ _).1 b
      rw [← e2, if_neg a]
      exact ⟨h1, fun _ => by omega⟩
    · rw [if_neg b] at h2 ⊢
      have := (cmpS_trans h1 h2).2 (.inl (by omega))
      rw [if_neg (by omega)]
      exact ⟨by omega, fun _ => this⟩
theorem cmpL_neg : ∀ x y : List Lb, cmpL y x = - cmpL x y := by
  intro x
  induction x with
  | nil => intro y; cases y <;> simp [cmpL]
  | cons a x ih =>
    intro y
    cases y with
    | nil => simp [cmpL]
    | cons b y =>
      simp only [cmpL]
      rw [cmpP_neg a b]
      by_cases h : cmpP a b = 0
      · rw [if_pos h, if_pos (by omega)]; exact ih y
      · rw [if_neg h, if_neg (by omega)]
theorem cmpL_eq : ∀ x y : List Lb, cmpL x y = 0 ↔ x = y := by
  intro x
  induction x with
  | nil => intro y; cases y <;> simp [cmpL]
  | cons a x ih =>
    intro y
    cases y with
    | nil => simp [cmpL]
    | cons b y =>
      simp only [cmpL]
      by_cases h : cmpP a b = 0
      · rw [if_pos h, ih, (cmpP_eq _ _).1 h]; simp
      · rw [if_neg h]
        exact ⟨fun h2 => absurd h2 h, fun h2 => by injection h2 with h3; exact absurd ((cmpP_eq _ _).2 h3) h⟩
theorem cmpL_trans : ∀ x y z : List Lb, cmpL x y ≤ 0 → cmpL y z ≤ 0 → cmpL x z ≤ 0 ∧ (cmpL x y < 0 ∨ cmpL y z < 0 → cmpL x z < 0) := by
  intro x
  induction x with
  | nil => intro y z; cases y <;> cases z <;> simp [cmpL]
  | cons a x ih =>
    intro y z
    cases y with
    | nil => simp [cmpL]
    | cons b y =>
      cases z with
      | nil => intro h1 h2; simp [cmpL] at h2
      | cons c z =>
        simp only [cmpL]
        by_cases h1 : cmpP a b = 0
        · have e1 := (cmpP_eq _ _).1 h1
          subst e1
          rw [if_pos h1]
          by_cases h2 : cmpP a c = 0
          · simp only [if_pos h2]; exact ih y z
          · simp only [if_neg h2]; intro _ h; exact ⟨h, fun _ => by omega⟩
        · rw [if_neg h1]
          by_cases h2 : cmpP b c = 0
          · have e2 := (cmpP_eq _ _).1 h2
            subst e2
            simp only [if_neg h1, if_pos h2]
            intro h _; exact ⟨h, fun _ => by omega⟩
          · rw [if_neg h2]
            intro h3 h4
            have := (cmpP_trans h3 h4).2 (.inl (by omega))
            rw [if_neg (by omega)]
            exact ⟨by omega, fun _ => this⟩
end Go.Proofs.YtogjcaakfnfapaaGreatDoor
namespace Go.Proofs.YtogjcaakfnfapaaGreatDoor
open Go.RowKit
set_option linter.unusedVariables false
set_option linter.unusedSimpArgs false
set_option maxRecDepth 100000
def emptyS : ByteArray := ⟨#[]⟩
def labOk (x : Lb) : Bool := nameB x.1 && decide (0 < x.2.size) && decide (x.2.size ≤ 256)
def rightFrom (last : ByteArray) : List Lb → Bool
  | [] => true
  | x :: r => decide (cmpS last x.1 < 0) && labOk x && rightFrom x.1 r
def rightL (cs : List Lb) : Bool := rightFrom emptyS cs && decide (cs.length ≤ 32)
theorem less_cmp (a b : ByteArray) : Op.bytesLess a.toList b.toList = decide (cmpS a b = -1) := by rw [ByteArray.toList_eq, ByteArray.toList_eq]; exact cb_less _ _
theorem beq_cmp (a b : ByteArray) : (a.toList == b.toList) = decide (cmpS a b = 0) := by
  rw [ByteArray.toList_eq, ByteArray.toList_eq, Bool.eq_iff_iff]
  simp [cmpS, cb_eq]
theorem cmpS_cases (a b : ByteArray) : cmpS a b = -1 ∨ cmpS a b = 0 ∨ cmpS a b = 1 := cb_cases _ _
theorem empty_less {s : ByteArray} (h : 0 < s.size) : cmpS emptyS s < 0 := by
  rcases cmpS_cases emptyS s with h1 | h1 | h1
  · omega
  · have := (cmpS_eq _ _).1 h1
    rw [← this] at h
    exact absurd h (by decide)
  · exfalso
    unfold cmpS emptyS at h1
    cases hs : s.data.toList with
    | nil => rw [hs] at h1; simp [Lib.compareBytes] at h1
    | cons x r => rw [hs] at h1; simp [Lib.compareBytes] at h1
theorem name_size {s : ByteArray} (h : nameB s = true) : 0 < s.size := by
  unfold nameB at h
  simp only [Bool.and_eq_true, decide_eq_true_eq] at h
  exact h.1.1.1
theorem rightFrom_no {last : ByteArray} {x : Lb} {r : List Lb} (h : 0 ≤ cmpS last x.1 ∨ nameB x.1 = false ∨ x.2.size = 0 ∨ 256 < x.2.size) : rightFrom last (x :: r) = false := by
  unfold rightFrom labOk
  rcases h with h | h | h | h
  · rw [decide_eq_false (by omega)]; rfl
  · rw [h]; simp
  · simp [h]
  · rw [show decide (x.2.size ≤ 256) = false from decide_eq_false (by omega)]; simp
theorem rightFrom_go {last : ByteArray} {x : Lb} {r : List Lb} (h1 : cmpS last x.1 < 0) (h2 : nameB x.1 = true) (h3 : 0 < x.2.size) (h4 : x.2.size ≤ 256) : rightFrom last (x :: r) = rightFrom x.1 r := by
  rw [rightFrom, labOk]
  simp [h1, h2, h3, h4]
set_option maxHeartbeats 4000000 in
theorem right_any (v : Value) (cs : List Lb) (w : World) (h : Sl lenc w v cs) :
    Calls Tryz.prog 44 #[v] w fun e w' => e = .returned (.bool (rightL cs)) ∧ Grew w w' := by
  obtain ⟨a, cap, rfl, hlen, -, hc⟩ := h.split lenc_len
  have HC := Lib.hid hc
  clear hc h
  go_enter Tryz.func44, Tryz.ntmps44
  go_wp2_with fail
  go_loopw [3, 8] (fun lv i wr => ∃ (k : Nat) (last : ByteArray), lv = .string last ∧ k ≤ cs.length ∧ i = .int .i64 k ∧ Hid (rightFrom last (cs.drop k) = rightFrom emptyS cs) ∧ Hid (Grew w wr)) (fun _ i _ => cs.length - (intOf i).toNat)
  case atStart => exact ⟨0, emptyS, rfl, Nat.zero_le _, rfl, rfl, Grew.refl _⟩
  case round =>
    obtain ⟨k, last, rfl, hk, rfl, HV, HG⟩ := hrel
    by_cases hlt : k < cs.length
    · have hltz : (k : Int) < (cs.length : Int) := by omega
      obtain ⟨b, off, rfl, hk0, hk1⟩ := lab_cells HC.out HG.out.below (Nat.le_refl _) hlt
      have HD := Lib.hid (show cs.drop k = lx cs k :: cs.drop (k + 1) by rw [List.drop_eq_getElem_cons hlt]; simp [lx, hlt])
      have hno : (0 ≤ cmpS last (lx cs k).1 ∨ nameB (lx cs k).1 = false ∨ (lx cs k).2.size = 0 ∨ 256 < (lx cs k).2.size) → rightL cs = false := fun h => by
        rw [rightL, ← HV.out, HD.out, rightFrom_no h]; rfl
      have HNO := Lib.hid hno
      clear hno
      obtain ⟨x, hx⟩ : ∃ x, x = lx cs k := ⟨_, rfl⟩
      rw [← hx] at hk0 hk1 HD HNO
      clear hx
      have l1 := less_cmp x.1 last
      have l2 := beq_cmp x.1 last
      have l3 := cmpS_neg last x.1
      by_cases hle : cmpS x.1 last ≤ 0
      · have HF : Hid (rightL cs = false) := HNO.out (.inl (by omega))
        rcases cmpS_cases x.1 last with hc | hc | hc
        · rw [hc] at l1 l2
          have l1' : Op.bytesLess x.1.toList last.toList = true := l1
          have l2' : (x.1.toList == last.toList) = false := l2
          clear l1 l2
          go_wp2_with fail
          go_ret
          exact ⟨by rw [HF.out] <;> rfl, HG.out.alloc _⟩
        · rw [hc] at l1 l2
          have l1' : Op.bytesLess x.1.toList last.toList = false := l1
          have l2' : (x.1.toList == last.toList) = true := l2
          clear l1 l2
          go_wp2_with fail
          all_goals go_ret
          all_goals exact ⟨by rw [HF.out] <;> rfl, HG.out.alloc _⟩
        · omega
      · have hc : cmpS x.1 last = 1 := by rcases cmpS_cases x.1 last with h | h | h <;> omega
        rw [hc] at l1 l2
        have l1' : Op.bytesLess x.1.toList last.toList = false := l1
        have l2' : (x.1.toList == last.toList) = false := l2
        clear l1 l2
        go_wp2_with fail
        refine (name_any _ _).mono ?_
        rintro e w1 ⟨rfl, rfl⟩
        have hl1 : cmpS last x.1 < 0 := by omega
        by_cases hn : nameB x.1 = true
        · by_cases hz : x.2.size = 0
          · have hz1 : x.2.toList = [] := empty_of hz
            have HF : Hid (rightL cs = false) := HNO.out (.inr (.inr (.inl hz)))
            go_wp2_with fail
            go_ret
            exact ⟨by rw [HF.out] <;> rfl, HG.out.alloc _⟩
          · have hz1 : ¬ x.2.toList = [] := not_empty_of (by omega)
            have hz2 : x.2.toList.isEmpty = false := by simpa using hz1
            by_cases hb : 256 < x.2.size
            · have hb1 : (256 : Int) < (x.2.size : Int) := by omega
              have hb2 : decide ((256 : Int) < (x.2.size : Int)) = true := by simpa using hb1
              have HF : Hid (rightL cs = false) := HNO.out (.inr (.inr (.inr hb)))
              go_wp2_with fail
              go_ret
              exact ⟨by rw [HF.out] <;> rfl, HG.out.alloc _⟩
            · have hb1 : ¬ (256 : Int) < (x.2.size : Int) := by omega
              have hb2 : decide ((256 : Int) < (x.2.size : Int)) = false := by simp only [decide_eq_false_iff_not]; exact hb1
              go_wp2_with fail
              go_roundw
              case rel => exact ⟨k + 1, x.1, rfl, by omega, by go_num, by show _ = _; rw [← HV.out, HD.out, rightFrom_go hl1 hn (by omega) (by omega)], HG.out.alloc _⟩
              case measure => simp [intOf]; omega
        · have hn2 : nameB x.1 = false := by simpa using hn
          have HF : Hid (rightL cs = false) := HNO.out (.inr (.inl hn2))
          go_wp2_with fail
          go_ret
          exact ⟨by rw [HF.out] <;> rfl, HG.out.alloc _⟩
    · have hltz : ¬ (k : Int) < (cs.length : Int) := by omega
      have hd : cs.drop k = [] := List.drop_eq_nil_of_le (by omega)
      have HE := Lib.hid (show rightL cs = decide (cs.length ≤ 32) by rw [rightL, ← HV.out, hd]; rfl)
      clear hd
      go_wp2_with fail
      go_ret
      exact ⟨by rw [HE.out] <;> simp <;> omega, HG.out⟩
end Go.Proofs.YtogjcaakfnfapaaGreatDoor
namespace Go.Proofs.YtogjcaakfnfapaaGreatDoor
open Go.RowKit
set_option linter.unusedVariables false
set_option linter.unusedSimpArgs false
set_option maxRecDepth 100000
theorem rname_qs (s : ByteArray) (w : World) : Calls Tryz.prog 41 #[.string s] w fun e w' => e = .returned (.bool (nameB s)) ∧ w = w' := (rname_any s w).mono fun _ _ h => ⟨h.1, h.2.symm⟩
def prevN (cs : List Lb) : Nat → ByteArray
  | 0 => emptyS
  | k + 1 => (lx cs k).1
set_option maxHeartbeats 4000000 in
theorem rright_any (v : Value) (cs : List Lb) (w : World) (h : Sl lenc w v cs) :
    Calls Tryz.prog 52 #[v] w fun e w' => e = .returned (.bool (rightL cs)) ∧ ∃ n, w' = w.drewN n := by
  obtain ⟨a, cap, rfl, hlen, -, hc⟩ := h.split lenc_len
  have HC := Lib.hid hc
  clear hc h
  go_enter Tryz.func52, Tryz.ntmps52
  go_wp2_with fail
  go_loopw [3] (fun i wr => ∃ (k : Nat), k ≤ cs.length ∧ i = .int .i64 k ∧ Hid (rightFrom (prevN cs k) (cs.drop k) = rightFrom emptyS cs) ∧ ∃ n, wr = w.drewN n) (fun i _ => cs.length - (intOf i).toNat)
  case atStart => exact ⟨0, Nat.zero_le _, rfl, rfl, 0, rfl⟩
  case round =>
    obtain ⟨k, hk, rfl, HV, n, rfl⟩ := hrel
    by_cases hlt : k < cs.length
    · have hltz : (k : Int) < (cs.length : Int) := by omega
      have h00 : (0 : Int) ≤ (k : Int) := by omega
      obtain ⟨b, off, rfl, hk0, hk1⟩ := lab_cells HC.out (Below.refl _ _) (Nat.le_refl _) hlt
      have HD := Lib.hid (show cs.drop k = lx cs k :: cs.drop (k + 1) by rw [List.drop_eq_getElem_cons hlt]; simp [lx, hlt])
      have hno : (0 ≤ cmpS (prevN cs k) (lx cs k).1 ∨ nameB (lx cs k).1 = false ∨ (lx cs k).2.size = 0 ∨ 256 < (lx cs k).2.size) → rightL cs = false := fun h => by
        rw [rightL, ← HV.out, HD.out, rightFrom_no h]; rfl
      have HNO := Lib.hid hno
      have hgo : cmpS (prevN cs k) (lx cs k).1 < 0 → nameB (lx cs k).1 = true → 0 < (lx cs k).2.size → (lx cs k).2.size ≤ 256 → rightFrom (prevN cs (k + 1)) (cs.drop (k + 1)) = rightFrom emptyS cs := fun h1 h2 h3 h4 => by
        rw [← HV.out, HD.out, rightFrom_go h1 h2 h3 h4]; rfl
      have HGO := Lib.hid hgo
      clear hno hgo HD HV
      by_cases hn : nameB (lx cs k).1 = true
      · by_cases hz : (lx cs k).2.size = 0
        · have hz1 : (lx cs k).2.toList = [] := empty_of hz
          have hz2 : (lx cs k).2.toList.isEmpty = true := by simpa using hz1
          have HF : Hid (rightL cs = false) := HNO.out (.inr (.inr (.inl hz)))
          go_wp2_with fail
          go_quiet ((go_at_call 41; first | refine qs (rname_qs _ _) | refine quiet_same (rname_qs _ _)))
          go_wp2_with fail
          go_ret
          exact ⟨by rw [HF.out] <;> rfl, n + nq, by first | rfl | (simp only [World.drewN_drewN])⟩
        · have hz1 : ¬ (lx cs k).2.toList = [] := not_empty_of (by omega)
          have hz2 : (lx cs k).2.toList.isEmpty = false := by simpa using hz1
          by_cases hb : 256 < (lx cs k).2.size
          · have hb1 : (256 : Int) < ((lx cs k).2.size : Int) := by omega
            have hb2 : decide ((256 : Int) < ((lx cs k).2.size : Int)) = true := by simpa using hb1
            have HF : Hid (rightL cs = false) := HNO.out (.inr (.inr (.inr hb)))
            go_wp2_with fail
            go_quiet ((go_at_call 41; first | refine qs (rname_qs _ _) | refine quiet_same (rname_qs _ _)))
            go_wp2_with fail
            go_ret
            exact ⟨by rw [HF.out] <;> rfl, n + nq, by first | rfl | (simp only [World.drewN_drewN])⟩
          · have hb1 : ¬ (256 : Int) < ((lx cs k).2.size : Int) := by omega
            have hb2 : decide ((256 : Int) < ((lx cs k).2.size : Int)) = false := by simp only [decide_eq_false_iff_not]; exact hb1
            by_cases hk0' : k = 0
            · have hz3 : ¬ (0 : Int) < (k : Int) := by omega
              have hz4 : decide ((0 : Int) < (k : Int)) = false := by simp only [decide_eq_false_iff_not]; exact hz3
              have hz5 : decide (0 < k) = false := by simp; omega
              have HR := Lib.hid (HGO.out (by have h9 := name_size hn; subst hk0'; exact empty_less h9) hn (by omega) (by omega))
              clear hk0'
              go_wp2_with fail
              go_quiet ((go_at_call 41; first | refine qs (rname_qs _ _) | refine quiet_same (rname_qs _ _)))
              go_wp2_with fail
              go_roundw
              case rel => exact ⟨k + 1, by omega, by go_num, HR, n + nq, by first | rfl | (simp only [World.drewN_drewN])⟩
              case measure => simp [intOf]; omega
            · obtain ⟨m, rfl⟩ : ∃ m, k = m + 1 := ⟨k - 1, by omega⟩
              have hlt' : m < cs.length := by omega
              obtain ⟨b3, off3, e2, hp0, hp1⟩ := lab_cells HC.out (Below.refl _ _) (Nat.le_refl _) hlt'
              injection e2 with e2
              injection e2 with e2 e3
              subst e2 e3
              have hz3 : (0 : Int) < ((m : Int) + 1) := by omega
              have hz4 : decide ((0 : Int) < ((m : Int) + 1)) = true := decide_eq_true hz3
              have hm1 : (m : Int) < (cs.length : Int) := by omega
              have hm0 : (0 : Int) ≤ (m : Int) := by omega
              have hm2 : ((m : Int) + 1).toNat = m + 1 := by omega
              have hm3 : (0 : Int) ≤ (m : Int) + 1 := by omega
              have hm4 : (m : Int) + 1 < (cs.length : Int) := by omega
              have hm5 : IntKind.i64.wrap (m : Int) = (m : Int) := by rw [IntKind.wrap_i64]; omega
              have l1 := less_cmp (lx cs m).1 (lx cs (m + 1)).1
              by_cases hc : cmpS (lx cs m).1 (lx cs (m + 1)).1 = -1
              · rw [hc] at l1
                have l1' : Op.bytesLess (lx cs m).1.toList (lx cs (m + 1)).1.toList = true := l1
                have HR := Lib.hid (HGO.out (by show cmpS (lx cs m).1 _ < 0; omega) hn (by omega) (by omega))
                clear l1
                go_wp2_with fail
                go_quiet ((go_at_call 41; first | refine qs (rname_qs _ _) | refine quiet_same (rname_qs _ _)))
                go_wp2_with fail
                go_roundw
                case rel => exact ⟨m + 1 + 1, by omega, by go_num, HR, n + nq, by first | rfl | (simp only [World.drewN_drewN])⟩
                case measure => simp [intOf]; omega
              · have l1' : Op.bytesLess (lx cs m).1.toList (lx cs (m + 1)).1.toList = false := by rw [l1]; simpa using hc
                have HF : Hid (rightL cs = false) := HNO.out (.inl (by show 0 ≤ cmpS (lx cs m).1 _; rcases cmpS_cases (lx cs m).1 (lx cs (m + 1)).1 with h | h | h <;> omega))
                clear l1
                go_wp2_with fail
                go_quiet ((go_at_call 41; first | refine qs (rname_qs _ _) | refine quiet_same (rname_qs _ _)))
                go_wp2_with fail
                go_ret
                exact ⟨by rw [HF.out] <;> rfl, n + nq, by first | rfl | (simp only [World.drewN_drewN])⟩
      · have hn2 : nameB (lx cs k).1 = false := by simpa using hn
        have HF : Hid (rightL cs = false) := HNO.out (.inr (.inl hn2))
        go_wp2_with fail
        go_quiet ((go_at_call 41; first | refine qs (rname_qs _ _) | refine quiet_same (rname_qs _ _)))
        go_wp2_with fail
        go_ret
        exact ⟨by rw [HF.out] <;> rfl, n + nq, by first | rfl | (simp only [World.drewN_drewN])⟩
    · have hltz : ¬ (k : Int) < (cs.length : Int) := by omega
      have hd : cs.drop k = [] := List.drop_eq_nil_of_le (by omega)
      have HE := Lib.hid (show rightL cs = decide (cs.length ≤ 32) by rw [rightL, ← HV.out, hd]; rfl)
      clear hd
      go_wp2_with fail
      go_ret
      exact ⟨by rw [HE.out] <;> simp <;> omega, n, rfl⟩
end Go.Proofs.YtogjcaakfnfapaaGreatDoor
namespace Go.Proofs.YtogjcaakfnfapaaGreatDoor
open Go.RowKit
set_option linter.unusedVariables false
set_option linter.unusedSimpArgs false
set_option maxRecDepth 100000
def hasL (names : List ByteArray) (x : ByteArray) : Bool := names.any fun n => n.toList == x.toList
theorem hasL_drop {names : List ByteArray} {x : ByteArray} {k : Nat} (h : k < names.length) : hasL (names.drop k) x = ((names[k].toList == x.toList) || hasL (names.drop (k + 1)) x) := by
  rw [List.drop_eq_getElem_cons h]; rfl
set_option maxHeartbeats 1000000 in
theorem rhas_any (v : Value) (names : List ByteArray) (x : ByteArray) (w : World) (h : Sl senc1 w v names) :
    Calls Tryz.prog 42 #[v, .string x] w fun e w' => e = .returned (.bool (hasL names x)) ∧ w' = w := by
  obtain ⟨a, cap, rfl, hlen, hc⟩ := h.strings
  have HC := Lib.hid hc
  clear hc h
  go_enter Tryz.func42, Tryz.ntmps42
  go_wp2_with fail
  go_loopw [5] (fun i wr => ∃ k : Nat, k ≤ names.length ∧ i = .int .i64 k ∧ Hid (hasL (names.drop k) x = hasL names x) ∧ wr = w) (fun i _ => names.length - (intOf i).toNat)
  case atStart => exact ⟨0, Nat.zero_le _, rfl, rfl, rfl⟩
  case round =>
    obtain ⟨k, hk, rfl, HV, rfl⟩ := hrel
    by_cases hlt : k < names.length
    · obtain ⟨b, off, rfl, hcc⟩ := HC.out k hlt
      have hltz : (k : Int) < (names.length : Int) := by omega
      have h00 : (0 : Int) ≤ (k : Int) := by omega
      have k0 := hcc k hlt
      have HD := Lib.hid (hasL_drop (x := x) hlt)
      clear hcc
      generalize names[k] = y at k0 HD
      by_cases he : (y.toList == x.toList) = true
      · go_wp2_with fail
        go_ret
        exact ⟨by rw [← HV.out, HD.out, he] <;> rfl, rfl⟩
      · have he2 : (y.toList == x.toList) = false := by simpa using he
        go_wp2_with fail
        go_roundw
        case rel => exact ⟨k + 1, by omega, by go_num, by show _ = _; rw [← HV.out, HD.out, he2]; rfl, by trivial⟩
        case measure => simp [intOf]; omega
    · have hltz : ¬ (k : Int) < (names.length : Int) := by omega
      have hd : names.drop k = [] := List.drop_eq_nil_of_le (by omega)
      have HE := Lib.hid (show hasL names x = false by rw [← HV.out, hd]; rfl)
      clear hd
      go_wp2_with fail
      go_ret
      exact ⟨by rw [HE.out] <;> rfl, rfl⟩
theorem contains_has (names : List ByteArray) (x : ByteArray) : Lib.containsS names x = hasL names x := by
  rw [Bool.eq_iff_iff, Lib.containsS_iff, hasL, List.any_eq_true]
  constructor
  · intro h; exact ⟨x, h, by simp⟩
  · rintro ⟨y, h1, h2⟩
    have := eq_of_beq h2
    rw [ByteArray.toList_eq, ByteArray.toList_eq] at this
    rw [← ba_eq this]; exact h1
theorem contains_any (v : Value) (names : List ByteArray) (x : ByteArray) (w : World) (h : Sl senc1 w v names) :
    Calls Tryz.prog 39 #[v, .string x] w fun e w' => e = .returned (.bool (hasL names x)) ∧ w' = w := by
  obtain ⟨a, cap, rfl, hlen, hc⟩ := h.strings
  cases names with
  | nil =>
    refine (Tryz.slices_Contains_string_empty a cap x w).mono ?_
    intro e w' h
    exact h
  | cons y r =>
    obtain ⟨b, off, rfl, hcc⟩ := hc 0 (by simp)
    refine (Tryz.slices_Contains_string b off (y :: r).length cap (y :: r) x w (Nat.le_refl _) (by omega) (fun j hj => by rw [hcc j hj, List.getD_eq_getElem?_getD, List.getElem?_eq_getElem hj]; rfl)).mono ?_
    intro e w' h
    rw [List.take_of_length_le (Nat.le_refl _), contains_has] at h
    exact h
end Go.Proofs.YtogjcaakfnfapaaGreatDoor
