/- Plain laws for WaveWhole: turning sums of whole numbers, how great, which quarter. -/
import Derived.Test.YtidmbjgnkodiiaaFm
import Derived.Test.YtidmbjgnkodiiaaWlaw
namespace Go.Proofs.Ytidmbjgnkodiiaa
open Go.RowKit
set_option linter.unusedVariables false
set_option linter.unusedSimpArgs false

theorem val_num {x : Nat} {s : Bool} {u : Nat} (h : Val x s u) : fnan x = false := by
  unfold fnan
  rw [show FloatKind.f64.format = Ieee.double from rfl, order_units h h, Int.compare_eq_eq.2 rfl]
  rfl
theorem fenc_num {n : Int} (h : n.natAbs < 2 ^ 53) : fnan (fenc n) = false := val_num (fenc_val n h)
theorem cop_fenc_add (a b : Int) (ha : a.natAbs < 2 ^ 53) (hb : b.natAbs < 2 ^ 53) (hc : (a + b).natAbs < 2 ^ 53) : cop .add (fenc a) (fenc b) = fenc (a + b) := by
  have h : floatBits .add .f64 (fenc a) (fenc b) = some (fenc (a + b)) := fenc_add a b ha hb
  unfold cop; rw [h]; exact canon_num (fenc_num hc)
theorem cop_fenc_sub (a b : Int) (ha : a.natAbs < 2 ^ 53) (hb : b.natAbs < 2 ^ 53) (hc : (a - b).natAbs < 2 ^ 53) : cop .sub (fenc a) (fenc b) = fenc (a - b) := by
  have h : floatBits .sub .f64 (fenc a) (fenc b) = some (fenc (a - b)) := fenc_sub' a b ha hb
  unfold cop; rw [h]; exact canon_num (fenc_num hc)
theorem fenc_zero : fenc 0 = 0 := by decide +kernel

def istep (k : Nat) (p : Int × Int) (v : Int) : Int × Int :=
  if k % 4 = 0 then (p.1 + v, p.2) else if k % 4 = 1 then (p.1, p.2 + v) else if k % 4 = 2 then (p.1 - v, p.2) else (p.1, p.2 - v)
def isum (f : Nat → Int) : Nat → Int × Int
  | 0 => (0, 0)
  | k + 1 => istep k (isum f k) (f k)
theorem isum_bound (f : Nat → Int) (hf : ∀ k, -32768 ≤ f k ∧ f k ≤ 32767) (k : Nat) : -(32768 * k : Int) ≤ (isum f k).1 ∧ (isum f k).1 ≤ 32768 * k ∧ -(32768 * k : Int) ≤ (isum f k).2 ∧ (isum f k).2 ≤ 32768 * k := by
  induction k with
  | zero => simp [isum]
  | succ k ih =>
    have := hf k
    simp only [isum, istep]
    split
    · simp only; omega
    · split
      · simp only; omega
      · split <;> (simp only; omega)
theorem ws_isum (xs : List Nat) (f : Nat → Int) (hf : ∀ k, -32768 ≤ f k ∧ f k ≤ 32767) (n : Nat) (hn : n ≤ 1000) (hx : ∀ k, k < n → fx xs k = fenc (f k)) (k : Nat) (hk : k ≤ n) :
    ws xs k = (fenc (isum f k).1, fenc (isum f k).2) := by
  induction k with
  | zero => simp [ws, isum, fenc_zero]
  | succ k ih =>
    have hb := isum_bound f hf k
    have hv := hf k
    simp only [ws]
    rw [ih (by omega), hx k (by omega)]
    simp only [wstep, isum, istep]
    split
    · simp only [cop_fenc_add _ _ (by omega : (isum f k).1.natAbs < 2 ^ 53) (by omega : (f k).natAbs < 2 ^ 53) (by omega)]
    · split
      · simp only [cop_fenc_add _ _ (by omega : (isum f k).2.natAbs < 2 ^ 53) (by omega : (f k).natAbs < 2 ^ 53) (by omega)]
      · split
        · simp only [cop_fenc_sub _ _ (by omega : (isum f k).1.natAbs < 2 ^ 53) (by omega : (f k).natAbs < 2 ^ 53) (by omega)]
        · simp only [cop_fenc_sub _ _ (by omega : (isum f k).2.natAbs < 2 ^ 53) (by omega : (f k).natAbs < 2 ^ 53) (by omega)]
/-- A second row behind a first whose length four divides. -/
theorem isum_append (f g h : Nat → Int) (n : Nat) (hn : n % 4 = 0) (h1 : ∀ k, k < n → h k = f k) (h2 : ∀ k, h (n + k) = g k) (k : Nat) :
    isum h (n + k) = ((isum f n).1 + (isum g k).1, (isum f n).2 + (isum g k).2) := by
  have h0 : ∀ j, j ≤ n → isum h j = isum f j := by
    intro j
    induction j with
    | zero => intro _; rfl
    | succ j ih => intro hj; simp only [isum]; rw [ih (by omega), h1 j (by omega)]
  induction k with
  | zero => simp [isum, h0 n (Nat.le_refl _)]
  | succ k ih =>
    show istep (n + k) (isum h (n + k)) (h (n + k)) = _
    rw [ih, h2]
    simp only [isum, istep]
    rw [show (n + k) % 4 = k % 4 by omega]
    have h4 : k % 4 = 0 ∨ k % 4 = 1 ∨ k % 4 = 2 ∨ k % 4 = 3 := by omega
    rcases h4 with h4 | h4 | h4 | h4 <;> simp [h4] <;> omega

/-! ### How great -/
theorem sum_comm (d e : Ieee.Datum) : d.sum e = e.sum d := by
  cases d <;> cases e <;> simp only [Ieee.Datum.sum]
  · rename_i s m i t n j
    rw [Int.min_comm i j, Int.add_comm, Bool.and_comm]
  · rename_i s t; by_cases h : s = t
    · subst h; rfl
    · rw [if_neg h, if_neg (fun e => h e.symm)]
theorem cop_add_comm (x y : Nat) : cop .add x y = cop .add y x := by
  have h : floatBits .add .f64 x y = floatBits .add .f64 y x := by
    show Option.map _ _ = Option.map _ _
    rw [sum_comm]
  unfold cop; rw [h]
theorem product_opposite (d : Ieee.Datum) : d.opposite.product d.opposite = d.product d := by
  cases d <;> simp [Ieee.Datum.opposite, Ieee.Datum.product]
theorem cop_mul_neg (x : Nat) : cop .mul (fneg x) (fneg x) = cop .mul x x := by
  have h : floatBits .mul .f64 (fneg x) (fneg x) = floatBits .mul .f64 x x := by
    show Option.map _ (Ieee.Datum.product (Ieee.double.read (x ^^^ 2 ^ 63)) (Ieee.double.read (x ^^^ 2 ^ 63))) = Option.map _ _
    rw [read_neg, product_opposite]; rfl
  unfold cop; rw [h]
theorem mag_rot (p : Nat × Nat) : mag (rot p).1 (rot p).2 = mag p.1 p.2 := by
  unfold rot mag
  simp only [cop_canon_l, cop_canon_r]
  rw [cop_mul_neg, cop_add_comm]
theorem mag_turn (r i k : Nat) : mag (turn r i k).1 (turn r i k).2 = mag r i := by
  induction k with
  | zero => simp only [turn, mag, cop_canon_l, cop_canon_r]
  | succ k ih => rw [← ih]; exact mag_rot _

/-- Not below 0, no NaN. -/
def NN (x : Nat) : Prop := (∃ m p, Ieee.double.read x = .number false m p) ∨ Ieee.double.read x = .infinity false
theorem nn_nearest (m : Nat) (p : Int) : NN (Ieee.double.nearest false m p) := by
  have e3 : Ieee.double.infRung = 2047 * 2 ^ 52 := by decide +kernel
  have key : ∀ r, r ≤ 2047 * 2 ^ 52 → NN (Ieee.double.word false r) := by
    intro r hr
    unfold NN
    rw [read_word _ _ (by omega)]
    split
    · exact .inl ⟨_, _, rfl⟩
    · split
      · exact .inl ⟨_, _, rfl⟩
      · rw [if_pos (by omega)]; exact .inr rfl
  unfold Ieee.Format.nearest
  split
  · exact key 0 (by omega)
  · dsimp only
    rw [e3]
    exact key _ (Nat.min_le_right _ _)
theorem nn_mul {x : Nat} (h : fnan x = false) : ∃ r, floatBits .mul .f64 x x = some r ∧ NN r := by
  have hr := read_number h
  show ∃ r, Option.map _ ((Ieee.double.read x).product (Ieee.double.read x)) = some r ∧ NN r
  cases hx : Ieee.double.read x with
  | nan n q => exact (hr n q hx).elim
  | number s m p =>
    refine ⟨_, rfl, ?_⟩
    rw [show (s ^^ s) = false by cases s <;> rfl]
    exact nn_nearest _ _
  | infinity s =>
    refine ⟨_, rfl, ?_⟩
    rw [show (s ^^ s) = false by cases s <;> rfl]
    exact .inr (by decide +kernel)
theorem nn_add {x y : Nat} (hx : NN x) (hy : NN y) : ∃ r, floatBits .add .f64 x y = some r ∧ NN r := by
  show ∃ r, Option.map _ ((Ieee.double.read x).sum (Ieee.double.read y)) = some r ∧ NN r
  rcases hx with ⟨m, p, hx⟩ | hx <;> rcases hy with ⟨n, q, hy⟩ | hy <;> rw [hx, hy]
  · refine ⟨_, rfl, ?_⟩
    have : (if Ieee.signed false m (p - min p q).toNat + Ieee.signed false n (q - min p q).toNat = 0 then (false && false) else decide (Ieee.signed false m (p - min p q).toNat + Ieee.signed false n (q - min p q).toNat < 0)) = false := by
      simp only [Ieee.signed, Bool.false_eq_true, if_false]
      generalize m <<< (p - min p q).toNat = A
      generalize n <<< (q - min p q).toNat = B
      split
      · rfl
      · simp only [decide_eq_false_iff_not]; omega
    rw [this]
    exact nn_nearest _ _
  all_goals exact ⟨_, rfl, .inr (by decide +kernel)⟩
theorem nn_num {x : Nat} (h : NN x) : fnan x = false := by
  unfold fnan
  show (Ieee.Datum.order _ _ != some .eq) = false
  rcases h with ⟨m, p, h⟩ | h <;> rw [show FloatKind.f64.format = Ieee.double from rfl, h] <;> simp [Ieee.Datum.order]
theorem nn_ge {x : Nat} (h : NN x) : (fo x 0 == some .gt || fo x 0 == some .eq) = true := by
  have h0 : Ieee.double.read 0 = .number false 0 (-1074) := by decide +kernel
  unfold fo
  show (Ieee.Datum.order _ _ == _ || Ieee.Datum.order _ _ == _) = true
  rcases h with ⟨m, p, h⟩ | h <;> rw [show FloatKind.f64.format = Ieee.double from rfl, h, h0]
  · simp only [Ieee.Datum.order, Ieee.signed, Bool.false_eq_true, if_false, Nat.zero_shiftLeft]
    generalize m <<< (p - min p (-1074)).toNat = A
    rcases Int.lt_or_le (0 : Int) (A : Int) with hl | hl
    · rw [show compare (A : Int) ((0 : Nat) : Int) = .gt from Int.compare_eq_gt.2 hl]; rfl
    · rw [show compare (A : Int) ((0 : Nat) : Int) = .eq from Int.compare_eq_eq.2 (by omega)]; rfl
  · rfl
theorem mag_nn {r i : Nat} (hr : fnan r = false) (hi : fnan i = false) : NN (mag r i) := by
  obtain ⟨a, ha, na⟩ := nn_mul hr
  obtain ⟨b, hb, nb⟩ := nn_mul hi
  have e1 : cop .mul r r = a := by unfold cop; rw [ha]; exact canon_num (nn_num na)
  have e2 : cop .mul i i = b := by unfold cop; rw [hb]; exact canon_num (nn_num nb)
  obtain ⟨c, hc, nc⟩ := nn_add na nb
  unfold mag
  rw [e1, e2]
  unfold cop; rw [hc]; simp only [canon_num (nn_num nc)]; exact nc

/-! ### Which quarter -/
def qq (a b : Int) : Int :=
  if a = 0 ∧ b = 0 then 0 else if 0 < a ∧ 0 ≤ b then 0 else if 0 < b ∧ a ≤ 0 then 1 else if a < 0 ∧ b ≤ 0 then 2 else 3
theorem qq_rot (a b : Int) (h : ¬(a = 0 ∧ b = 0)) : qq (-b) a = (qq a b + 1) % 4 := by
  unfold qq; split <;> split <;> (try split) <;> (try split) <;> (try split) <;> (try split) <;> (try split) <;> (try split) <;> omega
theorem fo_val {x : Nat} {s : Bool} {u : Nat} (h : Val x s u) : fo x 0 = some (compare (sgn s u) 0) := by
  have h0 : Val 0 false 0 := ⟨0, -1074, by decide +kernel, by omega, by simp⟩
  exact order_units h h0
theorem quarter_val {x y : Nat} {s t : Bool} {a b : Nat} (hx : Val x s a) (hy : Val y t b) : quarter x y = qq (sgn s a) (sgn t b) := by
  unfold quarter
  rw [val_num hx, val_num hy, fo_val hx, fo_val hy]
  generalize sgn s a = A
  generalize sgn t b = B
  have cA : (A < 0 ∧ compare A 0 = .lt) ∨ (A = 0 ∧ compare A 0 = .eq) ∨ (0 < A ∧ compare A 0 = .gt) := by
    rcases Int.lt_trichotomy A 0 with h | h | h
    · exact .inl ⟨h, Int.compare_eq_lt.2 h⟩
    · exact .inr (.inl ⟨h, Int.compare_eq_eq.2 h⟩)
    · exact .inr (.inr ⟨h, Int.compare_eq_gt.2 h⟩)
  have cB : (B < 0 ∧ compare B 0 = .lt) ∨ (B = 0 ∧ compare B 0 = .eq) ∨ (0 < B ∧ compare B 0 = .gt) := by
    rcases Int.lt_trichotomy B 0 with h | h | h
    · exact .inl ⟨h, Int.compare_eq_lt.2 h⟩
    · exact .inr (.inl ⟨h, Int.compare_eq_eq.2 h⟩)
    · exact .inr (.inr ⟨h, Int.compare_eq_gt.2 h⟩)
  unfold qq
  rcases cA with ⟨h, e⟩ | ⟨h, e⟩ | ⟨h, e⟩ <;> rcases cB with ⟨k, f⟩ | ⟨k, f⟩ | ⟨k, f⟩ <;> rw [e, f]
  · show (2 : Int) = _; rw [if_neg (by omega), if_neg (by omega), if_neg (by omega), if_pos (by omega)]
  · show (2 : Int) = _; rw [if_neg (by omega), if_neg (by omega), if_neg (by omega), if_pos (by omega)]
  · show (1 : Int) = _; rw [if_neg (by omega), if_neg (by omega), if_pos (by omega)]
  · show (3 : Int) = _; rw [if_neg (by omega), if_neg (by omega), if_neg (by omega), if_neg (by omega)]
  · show (0 : Int) = _; rw [if_pos (by omega)]
  · show (1 : Int) = _; rw [if_neg (by omega), if_neg (by omega), if_pos (by omega)]
  · show (3 : Int) = _; rw [if_neg (by omega), if_neg (by omega), if_neg (by omega), if_neg (by omega)]
  · show (0 : Int) = _; rw [if_neg (by omega), if_pos (by omega)]
  · show (0 : Int) = _; rw [if_neg (by omega), if_pos (by omega)]
/-- A finite pair, turned: each quarter one further. -/
theorem quarter_turn {x y : Nat} {s t : Bool} {a b : Nat} (hx : Val x s a) (hy : Val y t b) (h0 : ¬(sgn s a = 0 ∧ sgn t b = 0)) (k : Nat) :
    quarter (turn x y k).1 (turn x y k).2 = (qq (sgn s a) (sgn t b) + k) % 4 ∧ ∃ s' t' a' b', Val (turn x y k).1 s' a' ∧ Val (turn x y k).2 t' b' ∧ ¬(sgn s' a' = 0 ∧ sgn t' b' = 0) := by
  induction k with
  | zero =>
    have e1 : turn x y 0 = (x, y) := by simp only [turn, canon_num (val_num hx), canon_num (val_num hy)]
    rw [e1]
    refine ⟨?_, s, t, a, b, hx, hy, h0⟩
    rw [quarter_val hx hy]
    have : 0 ≤ qq (sgn s a) (sgn t b) ∧ qq (sgn s a) (sgn t b) ≤ 3 := by unfold qq; split <;> (try split) <;> (try split) <;> (try split) <;> omega
    omega
  | succ k ih =>
    obtain ⟨e, s', t', a', b', h1, h2, h3⟩ := ih
    have hn : Val (fneg (turn x y k).2) (!t') b' := val_neg h2
    have hnn : fnan (fneg (turn x y k).2) = false := val_num hn
    have e1 : turn x y (k + 1) = (fneg (turn x y k).2, (turn x y k).1) := by
      show rot _ = _
      simp only [rot, canon_num hnn, canon_num (val_num h1)]
    rw [e1]
    refine ⟨?_, !t', s', b', a', hn, h1, by rw [sgn_not]; omega⟩
    show quarter (fneg (turn x y k).2) (turn x y k).1 = _
    rw [quarter_val hn h1, sgn_not, qq_rot _ _ h3, ← quarter_val h1 h2, e]
    omega
end Go.Proofs.Ytidmbjgnkodiiaa
