/- Plain law of keys. -/
import Derived.Test.YtdpigfcnphklgaaDoorLb2
import Derived.Lib.AtoiTie
import Derived.Lib.IndexMore
import Derived.Lib.ItoaMem
namespace Go.Proofs.YtdpigfcnphklgaaDoor
open Go Go.RowKit
set_option linter.unusedVariables false
set_option linter.unusedSimpArgs false
def digI (c : UInt8) : Bool := decide (48 ≤ c.toNat) && decide (c.toNat ≤ 57)
theorem dec_digits (n : Nat) : ∀ b ∈ Lib.decDigits n, digI b = true := by
  fun_induction Lib.decDigits n with
  | case1 u h =>
    intro b hb
    rw [List.mem_singleton] at hb
    subst hb
    unfold digI
    simp only [Bool.and_eq_true, decide_eq_true_eq, UInt8.toNat_ofNat']
    omega
  | case2 u h ih =>
    intro b hb
    rcases List.mem_append.1 hb with hb | hb
    · exact ih b hb
    · rw [List.mem_singleton] at hb
      subst hb
      unfold digI
      simp only [Bool.and_eq_true, decide_eq_true_eq, UInt8.toNat_ofNat']
      omega
theorem dec_ne (n : Nat) : Lib.decDigits n ≠ [] := by
  rw [Lib.decDigits]
  split
  · simp
  · simp
theorem dec_len (n : Nat) : 0 < (Lib.decDigits n).length := List.length_pos_iff.2 (dec_ne n)
theorem decFrom_app (l : List UInt8) : ∀ (acc : Nat) (m : List UInt8), Lib.decFrom acc (l ++ m) = (Lib.decFrom acc l).bind fun a => Lib.decFrom a m := by
  induction l with
  | nil => intro acc m; rfl
  | cons b r ih =>
    intro acc m
    simp only [List.cons_append, Lib.decFrom]
    cases Lib.digitVal b with
    | none => rfl
    | some d => exact ih _ m
theorem digitVal_ofNat {d : Nat} (h : d < 10) : Lib.digitVal (UInt8.ofNat (48 + d)) = some d := by
  unfold Lib.digitVal
  rw [UInt8.toNat_ofNat', if_pos (by omega)]
  congr 1
  omega
theorem decFrom_dec (n : Nat) : Lib.decFrom 0 (Lib.decDigits n) = some n := by
  fun_induction Lib.decDigits n with
  | case1 u h =>
    simp only [Lib.decFrom, digitVal_ofNat h]
    simp
  | case2 u h ih =>
    rw [decFrom_app, ih]
    simp only [Option.bind_some, Lib.decFrom, digitVal_ofNat (Nat.mod_lt u (by omega : 0 < 10))]
    congr 1
    omega
theorem dec_len_le (n : Nat) (h : n < 10000) : (Lib.decDigits n).length ≤ 4 := decDigits_len 3 n (by omega)
theorem atoi_dec (n : Nat) (h : n < 1000000) : Lib.atoiAll (Lib.decDigits n) = .ok (n : Int) := by
  have hl : (Lib.decDigits n).length ≤ 6 := decDigits_len 5 n (by omega)
  rw [Lib.atoiAll_short _ (by omega)]
  have hd := decFrom_dec n
  have hb := dec_digits n
  cases hD : Lib.decDigits n with
  | nil => exact absurd hD (dec_ne n)
  | cons b r =>
    rw [hD] at hd hb
    have hb0 := hb b (by simp)
    unfold digI at hb0
    simp only [Bool.and_eq_true, decide_eq_true_eq] at hb0
    have h45 : (b == 45) = false := by
      rw [beq_eq_false_iff_ne]
      intro e; rw [e] at hb0; exact absurd hb0.1 (by decide)
    have h43 : (b == 43) = false := by
      rw [beq_eq_false_iff_ne]
      intro e; rw [e] at hb0; exact absurd hb0.1 (by decide)
    unfold Lib.atoi
    simp only [h45, h43]
    unfold Lib.decNat
    simp only [List.isEmpty_cons, hd]
    rfl
/-- A text with its length ahead. -/
def PB (t : List UInt8) : List UInt8 := Lib.decDigits t.length ++ 58 :: t
theorem pieceB_PB (s : ByteArray) : pieceB s = PB s.data.toList := by
  unfold pieceB pieceS PB itoaB colonS
  rw [Lib.itoa_nonneg]
  have : s.data.toList.length = s.size := by simp
  rw [this]
  simp only [ByteArray.data_append, Array.toList_append, List.append_assoc]
  rfl
theorem index_colon (D r : List UInt8) (h : ∀ b ∈ D, digI b = true) : Lib.index (D ++ 58 :: r) [58] = (D.length : Int) := by
  refine Lib.index_first (by simp) ?_ fun j hj => ?_
  · unfold Lib.occAt
    rw [List.drop_left]
    simp
  · unfold Lib.occAt
    rw [List.drop_append_of_le_length (by omega), List.drop_eq_getElem_cons hj, List.cons_append]
    have := h D[j] (List.getElem_mem hj)
    unfold digI at this
    simp only [Bool.and_eq_true, decide_eq_true_eq] at this
    have hne : ¬ (58 : UInt8) = D[j] := by
      intro e; rw [← e] at this; exact absurd this.2 (by decide)
    simp [List.isPrefixOf, hne]
def pieceP (s : List UInt8) : Option (List UInt8 × List UInt8) :=
  if (Lib.cut s [58]).2.2 = false then none else
  match Lib.atoiAll (Lib.cut s [58]).1 with
  | .ok n => if n < 0 ∨ ((Lib.cut s [58]).2.1.length : Int) < n then none else some ((Lib.cut s [58]).2.1.take n.toNat, (Lib.cut s [58]).2.1.drop n.toNat)
  | _ => none
theorem pieceP_of (t r : List UInt8) (h : t.length < 1000000) : pieceP (PB t ++ r) = some (t, r) := by
  have e : PB t ++ r = Lib.decDigits t.length ++ 58 :: (t ++ r) := by unfold PB; simp
  have hc : Lib.cut (PB t ++ r) [58] = (Lib.decDigits t.length, t ++ r, true) := by
    have hi := index_colon (Lib.decDigits t.length) (t ++ r) (dec_digits _)
    rw [e]
    unfold Lib.cut
    rw [hi, if_pos (by omega)]
    simp only [Int.toNat_natCast, List.length_cons, List.length_nil, List.take_left]
    congr 2
    rw [List.drop_append, List.drop_of_length_le (by omega), List.nil_append]
    simp
  unfold pieceP
  rw [hc]
  simp only [atoi_dec _ h]
  rw [if_neg (by simp), if_neg (by simp; omega)]
  simp
/-- What a key of right labels is read as. -/
theorem keyBytes_cons (x : Lb) (r : List Lb) : keyBytes (x :: r) = PB x.1.data.toList ++ (PB x.2.data.toList ++ keyBytes r) := by
  unfold keyBytes
  rw [List.flatMap_cons, pieceB_PB, pieceB_PB, List.append_assoc]
theorem keyBytes_ne (x : Lb) (r : List Lb) : keyBytes (x :: r) ≠ [] := by
  rw [keyBytes_cons]
  unfold PB
  simp
theorem sizes_bd {x : Lb} (h : x.1.size ≤ 1000 ∧ x.2.size ≤ 3000) : x.1.data.toList.length < 1000000 ∧ x.2.data.toList.length < 1000000 := by
  simp
  omega
theorem key_inj : ∀ {a b : List Lb}, SizesOk a → SizesOk b → keyBytes a = keyBytes b → a = b := by
  intro a
  induction a with
  | nil =>
    intro b _ _ h
    cases b with
    | nil => rfl
    | cons y t => exact absurd h.symm (keyBytes_ne y t)
  | cons x r ih =>
    intro b ha hb h
    cases b with
    | nil => exact absurd h (keyBytes_ne x r)
    | cons y t =>
      have sx := sizes_bd (ha x (by simp))
      have sy := sizes_bd (hb y (by simp))
      rw [keyBytes_cons, keyBytes_cons] at h
      have e1 := congrArg pieceP h
      rw [pieceP_of _ _ sx.1, pieceP_of _ _ sy.1] at e1
      injection e1 with e1
      injection e1 with e1 e2
      have e3 := congrArg pieceP e2
      rw [pieceP_of _ _ sx.2, pieceP_of _ _ sy.2] at e3
      injection e3 with e3
      injection e3 with e3 e4
      have hxy : x = y := Prod.ext (ba_eq e1) (ba_eq e3)
      rw [hxy, ih (fun z hz => ha z (by simp [hz])) (fun z hz => hb z (by simp [hz])) e4]
end Go.Proofs.YtdpigfcnphklgaaDoor
