/- What is read of a quote, in plain words. -/
import Derived.Test.YtdpigfcnphklgaaDoorLq2
namespace Go.Proofs.YtdpigfcnphklgaaDoor
open Go Go.RowKit
set_option linter.unusedVariables false
set_option linter.unusedSimpArgs false
set_option maxRecDepth 100000
/-- The value of a digit of sixteen; -1: none. -/
def hexV (c : Nat) : Int := if 48 ≤ c ∧ c ≤ 57 then (c : Int) - 48 else if 97 ≤ c ∧ c ≤ 102 then (c : Int) - 97 + 10 else -1
/-- What stands behind a stroke (the stroke ahead): the byte, how many bytes. -/
def escB (l : List UInt8) : Option (UInt8 × Nat) :=
  if l.length < 2 then none else if l.getD 1 0 = 34 ∨ l.getD 1 0 = 92 then some (l.getD 1 0, 2) else
  if l.length < 4 ∨ l.getD 1 0 ≠ 120 then none else
  if hexV (l.getD 2 0).toNat < 0 ∨ hexV (l.getD 3 0).toNat < 0 ∨ plainI (16 * hexV (l.getD 2 0).toNat + hexV (l.getD 3 0).toNat) = true then none else
  some (UInt8.ofNat (16 * hexV (l.getD 2 0).toNat + hexV (l.getD 3 0).toNat).toNat, 4)
def uqB (s : List UInt8) : Nat → Nat → List UInt8 → List UInt8 × Int × Int
  | 0, _, _ => ([], 0, 2)
  | f + 1, at', out =>
    match s.drop at' with
    | [] => ([], 0, 2)
    | c :: t => if c = 34 then (out, (at' : Int) + 1, 0) else if plainI c.toNat = false then ([], 0, 2) else if c ≠ 92 then uqB s f (at' + 1) (out ++ [c]) else
      match escB (c :: t) with
      | none => ([], 0, 2)
      | some (x, n) => uqB s f (at' + n) (out ++ [x])
def uqS (s : List UInt8) : List UInt8 × Int × Int :=
  match s with
  | [] => ([], 0, 2)
  | c :: _ => if c = 34 then uqB s (s.length + 1) 1 [] else ([], 0, 2)
theorem escB_n {l : List UInt8} {x : UInt8} {n : Nat} (h : escB l = some (x, n)) : (n = 2 ∨ n = 4) ∧ n ≤ l.length := by
  unfold escB at h
  split at h
  · cases h
  · split at h
    · injection h with h; injection h with h1 h2; omega
    · split at h
      · cases h
      · split at h
        · cases h
        · injection h with h; injection h with h1 h2; omega
/-- A quote is read as the text, whatever stands behind it. -/
theorem esc_back : ∀ n : Fin 256, (n.1 = 34 ∨ n.1 = 92 ∨ plainI n.1 = true) ∨ (0 ≤ hexV (hexB (n.1 / 16)).toNat ∧ 0 ≤ hexV (hexB (n.1 % 16)).toNat ∧ 16 * hexV (hexB (n.1 / 16)).toNat + hexV (hexB (n.1 % 16)).toNat = (n.1 : Int)) := by decide +kernel
theorem uq_step (s : List UInt8) (more : List UInt8) (pre : List UInt8) (c : UInt8) (f : Nat) (out : List UInt8) (hs : s.drop pre.length = quoteC c ++ more) (hpre : pre.length ≤ s.length) :
    uqB s (f + 1) pre.length out = uqB s f (pre.length + (quoteC c).length) (out ++ [c]) := by
  rw [uqB, hs]
  unfold quoteC
  by_cases h1 : c = 34 ∨ c = 92
  · rw [if_pos h1]
    show (if (92 : UInt8) = 34 then _ else _) = _
    rw [if_neg (by decide), if_neg (by decide), if_neg (by decide)]
    have : escB (92 :: c :: more) = some (c, 2) := by
      rw [escB, if_neg (by simp), if_pos (show (92 :: c :: more).getD 1 0 = 34 ∨ (92 :: c :: more).getD 1 0 = 92 from h1)]
      rfl
    show (match escB (92 :: c :: more) with | none => _ | some (x, n) => _) = _
    rw [this]
    rfl
  · rw [if_neg h1]
    by_cases h2 : plainI c.toNat = true
    · rw [if_pos h2]
      show (if c = 34 then _ else _) = _
      rw [if_neg (fun e => h1 (.inl e)), if_neg (by rw [h2]; decide), if_pos (fun e => h1 (.inr e))]
      rfl
    · rw [if_neg h2]
      have hb := esc_back ⟨c.toNat, c.toNat_lt⟩
      rcases hb with hb | ⟨b1, b2, b3⟩
      · exfalso
        rcases hb with hb | hb | hb
        · exact h1 (.inl (UInt8.toNat_inj.1 hb))
        · exact h1 (.inr (UInt8.toNat_inj.1 hb))
        · exact h2 hb
      · simp only at b1 b2 b3
        show (if (92 : UInt8) = 34 then _ else _) = _
        rw [if_neg (by decide), if_neg (by decide), if_neg (by decide)]
        have : escB (92 :: 120 :: hexB (c.toNat / 16) :: hexB (c.toNat % 16) :: more) = some (c, 4) := by
          rw [escB, if_neg (by simp), if_neg (by simp), if_neg (by simp)]
          show (if hexV (hexB (c.toNat / 16)).toNat < 0 ∨ hexV (hexB (c.toNat % 16)).toNat < 0 ∨ plainI (16 * hexV (hexB (c.toNat / 16)).toNat + hexV (hexB (c.toNat % 16)).toNat) = true then none else some (UInt8.ofNat (16 * hexV (hexB (c.toNat / 16)).toNat + hexV (hexB (c.toNat % 16)).toNat).toNat, 4)) = some (c, 4)
          rw [b3, if_neg (by intro h; rcases h with h | h | h <;> first | omega | exact h2 h)]
          simp
        show (match escB (92 :: 120 :: hexB (c.toNat / 16) :: hexB (c.toNat % 16) :: more) with | none => _ | some (x, n) => _) = _
        rw [this]
        rfl
theorem uq_quote (t : List UInt8) : ∀ (s pre more out : List UInt8) (f : Nat), s = pre ++ (t.flatMap quoteC ++ 34 :: more) → t.length < f → uqB s f pre.length out = (out ++ t, ((pre.length + (t.flatMap quoteC).length : Nat) : Int) + 1, 0) := by
  induction t with
  | nil =>
    intro s pre more out f hs hf
    obtain ⟨f, rfl⟩ : ∃ m, f = m + 1 := ⟨f - 1, by simp at hf; omega⟩
    rw [uqB, hs, List.drop_left]
    simp
  | cons c t ih =>
    intro s pre more out f hs hf
    obtain ⟨f, rfl⟩ : ∃ m, f = m + 1 := ⟨f - 1, by simp at hf; omega⟩
    rw [List.flatMap_cons] at hs
    rw [uq_step s (t.flatMap quoteC ++ 34 :: more) pre c f out (by rw [hs, List.drop_left, List.append_assoc]) (by rw [hs, List.length_append]; omega)]
    have := ih s (pre ++ quoteC c) more (out ++ [c]) f (by rw [hs]; simp) (by simpa using hf)
    rw [List.length_append] at this
    rw [this, List.flatMap_cons, List.length_append]
    simp [Nat.add_assoc]
theorem uqS_quote (t more : List UInt8) : uqS (quoteL t ++ more) = (t, ((quoteL t).length : Int), 0) := by
  have e : quoteL t ++ more = 34 :: (t.flatMap quoteC ++ 34 :: more) := by unfold quoteL quoteB; simp
  have hl : (quoteL t).length = 1 + (t.flatMap quoteC).length + 1 := by unfold quoteL quoteB; simp; omega
  have h := uq_quote t (34 :: (t.flatMap quoteC ++ 34 :: more)) [34] more [] ((34 :: (t.flatMap quoteC ++ 34 :: more)).length + 1) rfl (by
    have : t.length ≤ (t.flatMap quoteC).length := by
      clear e hl
      induction t with
      | nil => simp
      | cons c t ih =>
        rw [List.flatMap_cons, List.length_append, List.length_cons]
        have : 1 ≤ (quoteC c).length := by
          unfold quoteC
          split
          · simp
          · split <;> simp
        omega
    simp only [List.length_cons, List.length_append]
    omega)
  rw [e, uqS]
  simp only [if_true]
  rw [show ([34] : List UInt8).length = 1 from rfl] at h
  rw [h, hl]
  simp
end Go.Proofs.YtdpigfcnphklgaaDoor
