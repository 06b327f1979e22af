/- stamp.unit and stamp.Duration: what they compute. -/
import Derived.Test.YtkflhfdpdgnbfaaDoorProg
import Derived.WalkKit
import Derived.WalkLawsBesides
import Derived.WalkSpells
import Derived.Handy
import Derived.Lib.Hide
import Derived.Lib.Explode
import Derived.Deep.Draws
import Derived.BigQuiet
import Derived.Deep.QuietTactic
import Derived.WalkMore
import Derived.ScopeJumps
namespace Go.Proofs.YtkflhfdpdgnbfaaDoor
open Go Go.RowKit
set_option linter.unusedVariables false
set_option linter.unusedSimpArgs false

/-- By a goto: what holds at the label's jumps. -/
def jumps2 (J0 J1 : Act → World → Prop) (Q : Exit → Act → World → Prop) : Exit → Act → World → Prop
  | .goto l, a, w => (l = 0 ∧ J0 a w) ∨ (l = 1 ∧ J1 a w)
  | e, a, w => Q e a w

section
variable {P : Program} {a : Act} {w : World} {Q : Exit → Act → World → Prop}
theorem wp_jumps2 {c R0 R1 : Code} (J0 J1 : Act → World → Prop) (m0 m1 : Act → World → Nat) (hf0 : findLabel c 0 = some R0) (hf1 : findLabel c 1 = some R1)
    (first : c.wp P (jumps2 J0 J1 Q) a w)
    (pass0 : ∀ a w, J0 a w → R0.wp P (jumps2 (fun a' w' => J0 a' w' ∧ m0 a' w' < m0 a w) (fun a' w' => J1 a' w' ∧ m1 a' w' < m0 a w) Q) a w)
    (pass1 : ∀ a w, J1 a w → R1.wp P (jumps2 (fun a' w' => J0 a' w' ∧ m0 a' w' < m1 a w) (fun a' w' => J1 a' w' ∧ m1 a' w' < m1 a w) Q) a w) : (Code.scope c).wp P Q a w := by
  intro b k cs
  have hg0 : gotoIn 0 (.inScope c :: k) = some (.code R0 :: .inScope c :: k) := by simp [gotoIn, hf0]
  have hg1 : gotoIn 1 (.inScope c :: k) = some (.code R1 :: .inScope c :: k) := by simp [gotoIn, hf1]
  have key : ∀ n, (∀ a w, m0 a w = n → J0 a w → ∃ e a' w', Q e a' w' ∧ Arrives P (lone (b.at a (.code R0 :: .inScope c :: k)) cs w) b k cs e a' w') ∧ (∀ a w, m1 a w = n → J1 a w → ∃ e a' w', Q e a' w' ∧ Arrives P (lone (b.at a (.code R1 :: .inScope c :: k)) cs w) b k cs e a' w') := by
    intro n
    induction n using Nat.strongRecOn with
    | _ n ih =>
      constructor
      · intro a w hn hJ
        obtain ⟨e, a₁, w₁, hq, harr⟩ := pass0 a w hJ b (.inScope c :: k) cs
        cases e with
        | normal => exact ⟨.normal, a₁, w₁, hq, Steps.trans harr (.one step_inScope)⟩
        | exit id => exact ⟨.exit id, a₁, w₁, hq, fun k' hk => harr k' (by simp [exitTo, hk])⟩
        | goto l' =>
          rcases hq with ⟨rfl, hJ', hlt⟩ | ⟨rfl, hJ', hlt⟩
          · obtain ⟨e₂, a₂, w₂, hq₂, harr₂⟩ := (ih _ (by omega)).1 a₁ w₁ rfl hJ'
            exact ⟨e₂, a₂, w₂, hq₂, .of_steps (harr _ hg0) harr₂⟩
          · obtain ⟨e₂, a₂, w₂, hq₂, harr₂⟩ := (ih _ (by omega)).2 a₁ w₁ rfl hJ'
            exact ⟨e₂, a₂, w₂, hq₂, .of_steps (harr _ hg1) harr₂⟩
        | ret => exact ⟨_, a₁, w₁, hq, harr⟩
        | panic ch => exact ⟨_, a₁, w₁, hq, harr⟩
        | outgrown => exact ⟨_, a₁, w₁, hq, harr⟩
      · intro a w hn hJ
        obtain ⟨e, a₁, w₁, hq, harr⟩ := pass1 a w hJ b (.inScope c :: k) cs
        cases e with
        | normal => exact ⟨.normal, a₁, w₁, hq, Steps.trans harr (.one step_inScope)⟩
        | exit id => exact ⟨.exit id, a₁, w₁, hq, fun k' hk => harr k' (by simp [exitTo, hk])⟩
        | goto l' =>
          rcases hq with ⟨rfl, hJ', hlt⟩ | ⟨rfl, hJ', hlt⟩
          · obtain ⟨e₂, a₂, w₂, hq₂, harr₂⟩ := (ih _ (by omega)).1 a₁ w₁ rfl hJ'
            exact ⟨e₂, a₂, w₂, hq₂, .of_steps (harr _ hg0) harr₂⟩
          · obtain ⟨e₂, a₂, w₂, hq₂, harr₂⟩ := (ih _ (by omega)).2 a₁ w₁ rfl hJ'
            exact ⟨e₂, a₂, w₂, hq₂, .of_steps (harr _ hg1) harr₂⟩
        | ret => exact ⟨_, a₁, w₁, hq, harr⟩
        | panic ch => exact ⟨_, a₁, w₁, hq, harr⟩
        | outgrown => exact ⟨_, a₁, w₁, hq, harr⟩
  obtain ⟨e, a₁, w₁, hq, harr⟩ := first b (.inScope c :: k) cs
  cases e with
  | normal => exact ⟨.normal, a₁, w₁, hq, .head step_scope (Steps.trans harr (.one step_inScope))⟩
  | exit id => exact ⟨.exit id, a₁, w₁, hq, fun k' hk => .head step_scope (harr k' (by simp [exitTo, hk]))⟩
  | goto l' =>
    rcases hq with ⟨rfl, hJ'⟩ | ⟨rfl, hJ'⟩
    · obtain ⟨e₂, a₂, w₂, hq₂, harr₂⟩ := (key _).1 a₁ w₁ rfl hJ'
      exact ⟨e₂, a₂, w₂, hq₂, .of_steps (.head step_scope (harr _ hg0)) harr₂⟩
    · obtain ⟨e₂, a₂, w₂, hq₂, harr₂⟩ := (key _).2 a₁ w₁ rfl hJ'
      exact ⟨e₂, a₂, w₂, hq₂, .of_steps (.head step_scope (harr _ hg1)) harr₂⟩
  | ret => exact ⟨_, a₁, w₁, hq, .of_steps (.one step_scope) harr⟩
  | panic ch => exact ⟨_, a₁, w₁, hq, .of_steps (.one step_scope) harr⟩
  | outgrown => exact ⟨_, a₁, w₁, hq, .of_steps (.one step_scope) harr⟩
/-- The labels reached by falling through: the later pass serves there, too. -/
theorem wp_jumps2_fall {c R0 R1 : Code} (J0 J1 : Act → World → Prop) (m0 m1 : Act → World → Nat) (hf0 : findLabel c 0 = some (.seq .skip R0)) (hf1 : findLabel c 1 = some (.seq .skip R1))
    (first : (∀ a w, J0 a w → R0.wp P (jumps2 J0 J1 Q) a w) → c.wp P (jumps2 J0 J1 Q) a w)
    (pass0 : ∀ a w, J0 a w → (∀ a' w', J1 a' w' → m1 a' w' < m0 a w → R1.wp P (jumps2 (fun a2 w2 => J0 a2 w2 ∧ m0 a2 w2 < m0 a w) (fun a2 w2 => J1 a2 w2 ∧ m1 a2 w2 < m0 a w) Q) a' w') → R0.wp P (jumps2 (fun a' w' => J0 a' w' ∧ m0 a' w' < m0 a w) (fun a' w' => J1 a' w' ∧ m1 a' w' < m0 a w) Q) a w)
    (pass1 : ∀ a w, J1 a w → R1.wp P (jumps2 (fun a' w' => J0 a' w' ∧ m0 a' w' < m1 a w) (fun a' w' => J1 a' w' ∧ m1 a' w' < m1 a w) Q) a w) : (Code.scope c).wp P Q a w := by
  have p0 : ∀ a w, J0 a w → R0.wp P (jumps2 (fun a' w' => J0 a' w' ∧ m0 a' w' < m0 a w) (fun a' w' => J1 a' w' ∧ m1 a' w' < m0 a w) Q) a w := fun a w h => pass0 a w h fun a' w' h' hlt =>
    Code.wp_mono (fun e a2 w2 hq => by
      cases e with
      | goto l =>
        rcases hq with ⟨rfl, h1, h2⟩ | ⟨rfl, h1, h2⟩
        · exact .inl ⟨rfl, h1, by omega⟩
        · exact .inr ⟨rfl, h1, by omega⟩
      | normal => exact hq
      | exit id => exact hq
      | ret => exact hq
      | panic ch => exact hq
      | outgrown => exact hq) (pass1 a' w' h')
  refine wp_jumps2 J0 J1 m0 m1 hf0 hf1 (first fun a w h => ?_) (fun a w h => wp_seq (wp_skip (p0 a w h))) (fun a w h => wp_seq (wp_skip (pass1 a w h)))
  refine Code.wp_mono (fun e a2 w2 hq => ?_) (p0 a w h)
  cases e with
  | goto l =>
    rcases hq with ⟨rfl, h1, h2⟩ | ⟨rfl, h1, h2⟩
    · exact .inl ⟨rfl, h1⟩
    · exact .inr ⟨rfl, h1⟩
  | normal => exact hq
  | exit id => exact hq
  | ret => exact hq
  | panic ch => exact hq
  | outgrown => exact hq
end

/-! ### What is computed -/
def digs : List UInt8 → Int → Bool → Int × Bool × List UInt8
  | [], n, b => (n, b, [])
  | c :: t, n, b => if 48 ≤ (c.toNat : Int) ∧ (c.toNat : Int) ≤ 57 then digs t (min (10 * n + ((c.toNat : Int) - 48)) 2251799813685248) true else (n, b, c :: t)
def unitL : List UInt8 → Int × Int
  | [] => (0, 0)
  | c :: t => if c.toNat = 100 then (86400000, 1) else if c.toNat = 104 then (3600000, 1) else
      if c.toNat = 109 then (match t with | d :: _ => if d.toNat = 115 then (1, 2) else (60000, 1) | [] => (60000, 1)) else if c.toNat = 115 then (1000, 1) else (0, 0)
def capN (n each : Int) : Int := if 2251799813685248 / each < n then 2251799813685248 / each else n
def fin (out : Int) : Int × Int := if out = 0 ∨ 1125899906842624 < out then (0, 1) else (out, 0)
def durT (rec : List UInt8 → Int → Int → Int × Int) (x : Int × Bool × List UInt8) (out last : Int) : Int × Int :=
  if x.2.1 = false ∨ (unitL x.2.2).2 = 0 ∨ last ≤ (unitL x.2.2).1 then (0, 2) else
  if x.2.2.drop (unitL x.2.2).2.toNat = [] then fin (min (out + capN x.1 (unitL x.2.2).1 * (unitL x.2.2).1) 2251799813685248)
  else rec (x.2.2.drop (unitL x.2.2).2.toNat) (min (out + capN x.1 (unitL x.2.2).1 * (unitL x.2.2).1) 2251799813685248) (unitL x.2.2).1
def durL : Nat → List UInt8 → Int → Int → Int × Int
  | 0, _, _, _ => (0, 0)
  | k + 1, l, out, last => durT (durL k) (digs l 0 false) out last
def durV (l : List UInt8) : Int × Int := if l = [] ∨ 64 < l.length then (0, 2) else durL (l.length + 1) l 0 86400001

theorem unitL_cases (l : List UInt8) : ((unitL l).1 = 0 ∧ (unitL l).2 = 0) ∨ ((1 ≤ (unitL l).1 ∧ (unitL l).1 ≤ 86400000) ∧ (1 ≤ (unitL l).2 ∧ (unitL l).2 ≤ l.length)) := by
  cases l with
  | nil => exact .inl ⟨rfl, rfl⟩
  | cons c t =>
    have hl : ((c :: t).length : Int) = t.length + 1 := by simp
    simp only [unitL]
    split
    · right; simp only; omega
    · split
      · right; simp only; omega
      · split
        · right
          cases t with
          | nil => simp
          | cons d t =>
            have hl2 : ((d :: t).length : Int) = t.length + 1 := by simp
            simp only
            split <;> simp only <;> omega
        · split
          · right; simp only; omega
          · left; simp
theorem unit_fit {q e n : Int} (he : 1 ≤ e) (hn : 0 ≤ n) (hq : q = 2251799813685248 / e) : 0 ≤ capN n e ∧ 0 ≤ capN n e * e ∧ capN n e * e ≤ 2251799813685248 := by
  have h1 : 0 ≤ (2251799813685248 : Int) / e := Int.ediv_nonneg (by omega) (by omega)
  have h2 : (2251799813685248 : Int) / e * e ≤ 2251799813685248 := Int.ediv_mul_le _ (by omega)
  unfold capN
  split
  · exact ⟨h1, Int.mul_nonneg h1 (by omega), h2⟩
  · rename_i h
    exact ⟨hn, Int.mul_nonneg hn (by omega), Int.le_trans (Int.mul_le_mul_of_nonneg_right (by omega) (by omega)) h2⟩
theorem digs_len : ∀ (l : List UInt8) (n : Int) (b : Bool), (digs l n b).2.2.length ≤ l.length
  | [], _, _ => Nat.le_refl _
  | c :: t, n, b => by
    simp only [digs]
    split
    · exact Nat.le_trans (digs_len t _ _) (by simp)
    · exact Nat.le_refl _
theorem head_data {s : ByteArray} (h : 0 < s.size) : s.data.toList = s[0] :: s.data.toList.drop 1 := by
  have : 0 < s.data.toList.length := by simpa using h
  rw [← List.drop_zero (l := s.data.toList)]
  rw [List.drop_eq_getElem_cons this]
  rfl
theorem ne_data {s : ByteArray} (h : 0 < s.size) : s.data.toList ≠ [] := by rw [head_data h]; simp

theorem tail_data {s : ByteArray} (h : 1 < s.size) : s.data.toList.drop 1 = s[1] :: s.data.toList.drop 2 := by
  have : 1 < s.data.toList.length := by simpa using h
  rw [List.drop_eq_getElem_cons this]
  rfl
theorem tail_none {s : ByteArray} (h : ¬ 1 < s.size) : s.data.toList.drop 1 = [] := by
  apply List.drop_eq_nil_of_le
  have : s.data.toList.length = s.size := by simp
  omega
theorem unit_of (s : ByteArray) (h : 0 < s.size) : unitL s.data.toList = if s[0].toNat = 100 then (86400000, 1) else if s[0].toNat = 104 then (3600000, 1) else
      if s[0].toNat = 109 then (if h1 : 1 < s.size then (if s[1].toNat = 115 then (1, 2) else (60000, 1)) else (60000, 1)) else if s[0].toNat = 115 then (1000, 1) else (0, 0) := by
  rw [head_data h]
  simp only [unitL]
  by_cases h1 : 1 < s.size
  · rw [tail_data h1, dif_pos h1]
  · rw [tail_none h1, dif_neg h1]
theorem ret2 {a b c d : Int} (h1 : a = c) (h2 : b = d) : Ending.returned (.tuple #[.int .i64 a, .int .i64 b]) = .returned (.tuple #[.int .i64 c, .int .i64 d]) := by rw [h1, h2]

set_option maxRecDepth 100000 in
theorem unit_any (s : ByteArray) (w : World) (hs : s.size ≤ 9223372036854775807) :
    Calls Tryd.prog 27 #[.string s] w fun e w' => e = .returned (.tuple #[.int .i64 (unitL s.data.toList).1, .int .i64 (unitL s.data.toList).2]) ∧ w = w' := by
  by_cases h0 : s.size = 0
  · have e1 : s.data.toList = [] := by
      apply List.eq_nil_of_length_eq_zero; simpa using h0
    have HE := Lib.hid (show unitL s.data.toList = (0, 0) by rw [e1]; rfl)
    have e2 : s.toList = [] := by rw [ByteArray.toList_eq]; exact e1
    clear e1 h0
    go_enter Tryd.func27, Tryd.ntmps27
    go_wp2_with fail
    go_ret2
    exact ⟨ret2 (by rw [HE.out]) (by rw [HE.out]), rfl⟩
  · have hs0 : 0 < s.size := by omega
    have HD := Lib.hid (unit_of s hs0)
    have e2 : s.toList ≠ [] := by rw [ByteArray.toList_eq]; exact ne_data hs0
    have e3 : s.toList.isEmpty = false := by simpa using e2
    clear h0
    go_enter Tryd.func27, Tryd.ntmps27
    go_wp2_with fail
    all_goals
      go_ret2
      have hd := HD.out
      have hq : ∀ x y, unitL s.data.toList = (x, y) → Ending.returned (.tuple #[.int .i64 x, .int .i64 y]) = Ending.returned (.tuple #[.int .i64 (unitL s.data.toList).1, .int .i64 (unitL s.data.toList).2]) := fun x y h => by rw [h]
      refine ⟨hq _ _ ?_, rfl⟩
      rw [hd]
      clear hd hq HD
      simp only [beq_iff_eq, beq_eq_false_iff_ne, ne_eq] at *
      repeat' split
      all_goals first | rfl | omega
end Go.Proofs.YtkflhfdpdgnbfaaDoor
