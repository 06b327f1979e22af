/- Plain laws of doubles: finite ones as whole numbers of 2^-1074; sums, products, order, whole numbers. -/
import Derived.Laws.FloatArith
namespace Go.Proofs.Ytidmbjgnkodiiaa
set_option linter.unusedVariables false
set_option linter.unusedSimpArgs false
open Ieee

theorem log2_mul_pow (n k : Nat) (h : n ≠ 0) : (n * 2 ^ k).log2 = n.log2 + k := by
  have h1 : 2 ^ (n.log2 + k) ≤ n * 2 ^ k := by
    rw [Nat.pow_add]; exact Nat.mul_le_mul_right _ (Nat.log2_self_le h)
  have h2 : n * 2 ^ k < 2 ^ (n.log2 + k + 1) := by
    have := Nat.lt_log2_self (n := n)
    calc n * 2 ^ k < 2 ^ (n.log2 + 1) * 2 ^ k := (Nat.mul_lt_mul_right (Nat.two_pow_pos _)).2 this
      _ = 2 ^ (n.log2 + k + 1) := by rw [← Nat.pow_add]; congr 1; omega
  have hne : n * 2 ^ k ≠ 0 := Nat.mul_ne_zero h (Nat.pos_iff_ne_zero.1 (Nat.two_pow_pos _))
  rw [Nat.log2_eq_iff hne]
  exact ⟨h1, h2⟩

theorem cut_zero (neg : Bool) (n : Nat) : Toward.even.cut neg n 0 = n := by
  simp [Toward.cut, Nat.mod_one]

/-- Cutting off digits that are all nought. -/
theorem cut_exact (neg : Bool) (n k : Nat) (h : n ≠ 0) : Toward.even.cut neg (n * 2 ^ k) k = n := by
  have hm : min k ((n * 2 ^ k).log2 + 2) = k := by rw [log2_mul_pow n k h]; omega
  unfold Toward.cut
  rw [hm]
  simp only [Nat.one_shiftLeft]
  rw [Nat.mul_div_cancel _ (Nat.two_pow_pos k), Nat.mul_mod_left]
  have : 0 < 2 ^ k := Nat.two_pow_pos k
  simp

/-- Cutting commutes with scaling. -/
theorem cut_scale (neg : Bool) (n k d : Nat) (h : n ≠ 0) : Toward.even.cut neg (n * 2 ^ k) (d + k) = Toward.even.cut neg n d := by
  have hm : min (d + k) ((n * 2 ^ k).log2 + 2) = min d (n.log2 + 2) + k := by rw [log2_mul_pow n k h]; omega
  unfold Toward.cut
  rw [hm]
  simp only [Nat.one_shiftLeft, Nat.pow_add]
  generalize 2 ^ min d (n.log2 + 2) = g
  have hk : 0 < 2 ^ k := Nat.two_pow_pos k
  generalize 2 ^ k = q at hk
  rw [Nat.mul_div_mul_right _ _ hk, Nat.mul_mod_mul_right]
  have e1 : (decide (g * q < 2 * (n % g * q))) = decide (g < 2 * (n % g)) := by
    rw [← Nat.mul_assoc]
    simp [Nat.mul_lt_mul_right hk]
  have e2 : (g * q == 2 * (n % g * q)) = (g == 2 * (n % g)) := by
    rw [← Nat.mul_assoc, Bool.eq_iff_iff]
    simp [Nat.mul_left_inj (Nat.pos_iff_ne_zero.1 hk)]
  rw [e1, e2]

theorem nearest_shift (f : Format) (neg : Bool) (m k : Nat) (p : Int) : f.nearest neg (m * 2 ^ k) p = f.nearest neg m (p + k) := by
  by_cases h : m = 0
  · subst h; simp [Format.nearest]
  have hne : m * 2 ^ k ≠ 0 := Nat.mul_ne_zero h (Nat.pos_iff_ne_zero.1 (Nat.two_pow_pos _))
  unfold Format.nearest
  rw [if_neg hne, if_neg h, log2_mul_pow m k h]
  have e : p + ((m.log2 + k : Nat) : Int) - f.fractionBits = p + k + (m.log2 : Int) - f.fractionBits := by omega
  rw [e]
  generalize max (p + k + (m.log2 : Int) - f.fractionBits) f.leastPlace = last
  have key : Toward.even.cut neg ((m * 2 ^ k) <<< (p - last).toNat) (last - p).toNat = Toward.even.cut neg (m <<< (p + k - last).toNat) (last - (p + k)).toNat := by
    simp only [Nat.shiftLeft_eq]
    by_cases h1 : last ≤ p
    · rw [show (last - p).toNat = 0 by omega, show (last - (p + k)).toNat = 0 by omega, cut_zero, cut_zero, Nat.mul_assoc, ← Nat.pow_add]
      congr 2; omega
    · rw [show (p - last).toNat = 0 by omega, Nat.pow_zero, Nat.mul_one]
      by_cases h2 : last ≤ p + k
      · rw [show (last - (p + k)).toNat = 0 by omega, cut_zero]
        obtain ⟨d, hd⟩ : ∃ d, (last - p).toNat = d := ⟨_, rfl⟩
        rw [hd, show k = (k - d) + d by omega, Nat.pow_add, ← Nat.mul_assoc, cut_exact _ _ _ (Nat.mul_ne_zero h (Nat.pos_iff_ne_zero.1 (Nat.two_pow_pos _)))]
        congr 2; omega
      · rw [show (p + k - last).toNat = 0 by omega, Nat.pow_zero, Nat.mul_one]
        rw [show (last - p).toNat = (last - (p + k)).toNat + k by omega, cut_scale _ _ _ _ h]
  dsimp only
  rw [key]

/-- What a number of units (of 2^-1074) is rounded to. -/
def nr (neg : Bool) (u : Nat) : Nat := double.nearest neg u (-1074)
theorem write_units (neg : Bool) (m : Nat) (p : Int) (h : -1074 ≤ p) : double.write (.number neg m p) = nr neg (m * 2 ^ (p + 1074).toNat) := by
  show double.nearest neg m p = double.nearest neg _ (-1074)
  rw [nearest_shift]
  congr 1; omega

/-- A finite double as a whole number of units. -/
def sgn (neg : Bool) (u : Nat) : Int := if neg then -(u : Int) else u
def Val (x : Nat) (s : Bool) (u : Nat) : Prop := ∃ m p, double.read x = .number s m p ∧ -1074 ≤ p ∧ u = m * 2 ^ (p + 1074).toNat
theorem read_place {x : Nat} {s : Bool} {m : Nat} {p : Int} (h : double.read x = .number s m p) : -1074 ≤ p := by
  have e : double.leastPlace = -1074 := by decide +kernel
  unfold Format.read at h
  rw [e] at h
  dsimp only at h
  split at h
  · injection h with _ _ h; omega
  · split at h
    · injection h with _ _ h; omega
    · split at h <;> cases h
theorem signed_scale (s : Bool) (m a b : Nat) : signed s m (a + b) = signed s m a * 2 ^ b := by
  unfold signed
  rw [Nat.shiftLeft_add, Nat.shiftLeft_eq (m <<< a)]
  split <;> simp [Int.neg_mul]
theorem signed_units (s : Bool) (m : Nat) (p base : Int) (hb : -1074 ≤ base) (hp : base ≤ p) : signed s m (p - base).toNat * 2 ^ (base + 1074).toNat = sgn s (m * 2 ^ (p + 1074).toNat) := by
  rw [← signed_scale, show (p - base).toNat + (base + 1074).toNat = (p + 1074).toNat by omega]
  unfold signed sgn
  rw [Nat.shiftLeft_eq]
theorem sum_units {x y : Nat} {s t : Bool} {a b : Nat} (hx : Val x s a) (hy : Val y t b) :
    double.add x y = some (nr (if sgn s a + sgn t b = 0 then s && t else sgn s a + sgn t b < 0) (sgn s a + sgn t b).natAbs) := by
  obtain ⟨m, i, hx, hi, rfl⟩ := hx
  obtain ⟨n, j, hy, hj, rfl⟩ := hy
  unfold Format.add
  rw [hx, hy]
  simp only [Datum.sum, Option.map_some]
  rw [write_units _ _ _ (by omega)]
  have e1 := signed_units s m i (min i j) (by omega) (by omega)
  have e2 := signed_units t n j (min i j) (by omega) (by omega)
  generalize signed s m (i - min i j).toNat = A at *
  generalize signed t n (j - min i j).toNat = B at *
  have hq : (0 : Int) < 2 ^ (min i j + 1074).toNat := Int.pow_pos (by decide)
  rw [← e1, ← e2, ← Int.add_mul, Int.natAbs_mul]
  have hq2 : ((2 : Int) ^ (min i j + 1074).toNat).natAbs = 2 ^ (min i j + 1074).toNat := by
    rw [Int.natAbs_pow]; rfl
  rw [hq2]
  have c1 : ((A + B) * 2 ^ (min i j + 1074).toNat = 0) ↔ (A + B = 0) := by
    rw [Int.mul_eq_zero]; constructor
    · rintro (h | h)
      · exact h
      · omega
    · exact Or.inl
  have c2 : ((A + B) * 2 ^ (min i j + 1074).toNat < 0) ↔ (A + B < 0) := by
    constructor
    · intro h
      rcases Int.lt_or_le (A + B) 0 with h' | h'
      · exact h'
      · have := Int.mul_nonneg h' (Int.le_of_lt hq); omega
    · intro h; exact Int.mul_neg_of_neg_of_pos h hq
  by_cases h0 : A + B = 0
  · rw [if_pos h0, if_pos (c1.2 h0)]
  · rw [if_neg h0, if_neg (fun h => h0 (c1.1 h))]
    congr 2
    simp [c2]
theorem order_units {x y : Nat} {s t : Bool} {a b : Nat} (hx : Val x s a) (hy : Val y t b) : double.order x y = some (compare (sgn s a) (sgn t b)) := by
  obtain ⟨m, i, hx, hi, rfl⟩ := hx
  obtain ⟨n, j, hy, hj, rfl⟩ := hy
  unfold Format.order
  rw [hx, hy]
  simp only [Datum.order]
  have e1 := signed_units s m i (min i j) (by omega) (by omega)
  have e2 := signed_units t n j (min i j) (by omega) (by omega)
  generalize signed s m (i - min i j).toNat = A at *
  generalize signed t n (j - min i j).toNat = B at *
  have hq : (0 : Int) < 2 ^ (min i j + 1074).toNat := Int.pow_pos (by decide)
  rw [← e1, ← e2]
  generalize (2 : Int) ^ (min i j + 1074).toNat = q at hq
  congr 1
  have lt : A * q < B * q ↔ A < B := Int.mul_lt_mul_right hq
  have eq : A * q = B * q ↔ A = B := Int.mul_eq_mul_right_iff (by omega)
  simp only [compare, compareOfLessAndEq, lt, eq]

theorem read_word (s : Bool) (r : Nat) (h : r < 2 ^ 63) :
    double.read (double.word s r) = if r < 2 ^ 52 then .number s r (-1074) else if r < 2047 * 2 ^ 52 then .number s (2 ^ 52 + r % 2 ^ 52) (-1074 + (r / 2 ^ 52 - 1 : Nat)) else if r = 2047 * 2 ^ 52 then .infinity s else .nan s (r - 2047 * 2 ^ 52) := by
  have e1 : double.signWeight = 2 ^ 63 := rfl
  have e2 : double.binade = 2 ^ 52 := rfl
  have e3 : double.infRung = 2047 * 2 ^ 52 := by decide +kernel
  have e4 : double.leastPlace = -1074 := by decide +kernel
  have hw : double.word s r / 2 ^ 63 % 2 = s.toNat ∧ double.word s r % 2 ^ 63 = r := by
    unfold Format.word
    rw [e1]
    cases s
    · simp only [Bool.false_eq_true, if_false, Bool.toNat_false]; omega
    · simp only [if_true, Bool.toNat_true]; omega
  have hs : (s.toNat == 1) = s := by cases s <;> rfl
  unfold Format.read
  rw [e1, e2, e3, e4, hw.1, hw.2, hs]

/-- A number of units that a double can bear is borne as it is. -/
theorem val_nr (s : Bool) (a e : Nat) (ha : a < 2 ^ 53) (he : a.log2 + e ≤ 2097) : Val (nr s (a * 2 ^ e)) s (a * 2 ^ e) := by
  have e2 : double.binade = 2 ^ 52 := rfl
  have e3 : double.infRung = 2047 * 2 ^ 52 := by decide +kernel
  have e4 : double.leastPlace = -1074 := by decide +kernel
  have e5 : (double.fractionBits : Int) = 52 := rfl
  unfold nr
  rw [nearest_shift]
  by_cases h0 : a = 0
  · subst h0
    refine ⟨0, -1074, ?_, by omega, by simp⟩
    unfold Format.nearest
    rw [if_pos rfl, read_word _ _ (by omega), if_pos (by omega)]
  have hL : a.log2 < 53 := (Nat.log2_lt h0).2 ha
  have hlo : 2 ^ a.log2 ≤ a := Nat.log2_self_le h0
  have hhi : a < 2 ^ (a.log2 + 1) := Nat.lt_log2_self
  unfold Format.nearest
  rw [if_neg h0, e2, e3, e4, e5]
  dsimp only
  by_cases hn : 52 ≤ a.log2 + e
  · rw [show max (-1074 + (e : Int) + (a.log2 : Int) - 52) (-1074) = -1074 + (e : Int) + (a.log2 : Int) - 52 by omega]
    rw [show (-1074 + (e : Int) - (-1074 + (e : Int) + (a.log2 : Int) - 52)).toNat = 52 - a.log2 by omega]
    rw [show ((-1074 + (e : Int) + (a.log2 : Int) - 52) - (-1074 + (e : Int))).toNat = 0 by omega]
    rw [cut_zero, Nat.shiftLeft_eq]
    rw [show (-1074 + (e : Int) + (a.log2 : Int) - 52 - -1074).toNat = e + a.log2 - 52 by omega]
    have hK1 : 2 ^ 52 ≤ a * 2 ^ (52 - a.log2) := by
      calc 2 ^ 52 = 2 ^ a.log2 * 2 ^ (52 - a.log2) := by rw [← Nat.pow_add]; congr 1; omega
        _ ≤ _ := Nat.mul_le_mul_right _ hlo
    have hK2 : a * 2 ^ (52 - a.log2) < 2 ^ 53 := by
      calc a * 2 ^ (52 - a.log2) < 2 ^ (a.log2 + 1) * 2 ^ (52 - a.log2) := (Nat.mul_lt_mul_right (Nat.two_pow_pos _)).2 hhi
        _ = 2 ^ 53 := by rw [← Nat.pow_add]; congr 1; omega
    have hK3 : a * 2 ^ (52 - a.log2) * 2 ^ (e + a.log2 - 52) = a * 2 ^ e := by
      rw [Nat.mul_assoc, ← Nat.pow_add]; congr 2; omega
    generalize a * 2 ^ (52 - a.log2) = K at *
    obtain ⟨q, hq⟩ : ∃ q, e + a.log2 - 52 = q := ⟨_, rfl⟩
    rw [hq] at hK3 ⊢
    have hq2 : q ≤ 2045 := by omega
    unfold Val
    rw [Nat.min_eq_left (by omega), read_word _ _ (by omega), if_neg (by omega), if_pos (by omega)]
    refine ⟨_, _, rfl, by omega, ?_⟩
    rw [show (q * 2 ^ 52 + K) % 2 ^ 52 = K - 2 ^ 52 by omega, show (q * 2 ^ 52 + K) / 2 ^ 52 - 1 = q by omega]
    rw [show 2 ^ 52 + (K - 2 ^ 52) = K by omega, show (-1074 + (q : Int) + 1074).toNat = q by omega, hK3]
  · rw [show max (-1074 + (e : Int) + (a.log2 : Int) - 52) (-1074) = -1074 by omega]
    rw [show (-1074 + (e : Int) - -1074).toNat = e by omega, show ((-1074 : Int) - (-1074 + (e : Int))).toNat = 0 by omega]
    rw [cut_zero, Nat.shiftLeft_eq]
    have hr : a * 2 ^ e < 2 ^ 52 := by
      calc a * 2 ^ e < 2 ^ (a.log2 + 1) * 2 ^ e := (Nat.mul_lt_mul_right (Nat.two_pow_pos _)).2 hhi
        _ = 2 ^ (a.log2 + 1 + e) := by rw [← Nat.pow_add]
        _ ≤ 2 ^ 52 := Nat.pow_le_pow_right (by decide) (by omega)
    generalize a * 2 ^ e = U at *
    unfold Val
    rw [show ((-1074 : Int) - -1074).toNat * 2 ^ 52 + U = U by simp, Nat.min_eq_left (by omega), read_word _ _ (by omega), if_pos hr]
    exact ⟨U, -1074, rfl, by omega, by simp⟩

/-- How many units are one. -/
def TE : Nat := 1074
def TU : Nat := 2 ^ TE
theorem TU_pos : 0 < TU := Nat.two_pow_pos _
/-- A whole number as a double. -/
def fenc (n : Int) : Nat := Go.floatOfInt .f64 n
theorem fenc_nr (n : Int) : fenc n = nr (n < 0) (n.natAbs * TU) := by
  have h : fenc n = double.write (.number (n < 0) n.natAbs 0) := rfl
  have e : ((0 : Int) + 1074).toNat = TE := rfl
  rw [h, write_units _ _ _ (by omega), e]
  rfl
theorem fenc_val (n : Int) (h : n.natAbs < 2 ^ 53) : Val (fenc n) (n < 0) (n.natAbs * TU) := by
  rw [fenc_nr]
  refine val_nr _ _ TE h ?_
  by_cases h0 : n.natAbs = 0
  · rw [h0]; decide
  · have := (Nat.log2_lt h0).2 h; unfold TE; omega
theorem sgn_fenc (n : Int) : sgn (decide (n < 0)) (n.natAbs * TU) = n * (TU : Int) := by
  unfold sgn
  generalize TU = T
  by_cases h : n < 0
  · simp only [h, decide_true, if_true]
    rw [Int.natCast_mul, Int.ofNat_natAbs_of_nonpos (by omega), Int.neg_mul, Int.neg_neg]
  · simp only [h, decide_false, Bool.false_eq_true, if_false]
    rw [Int.natCast_mul, Int.natAbs_of_nonneg (by omega)]
theorem fenc_add (a b : Int) (ha : a.natAbs < 2 ^ 53) (hb : b.natAbs < 2 ^ 53) : double.add (fenc a) (fenc b) = some (fenc (a + b)) := by
  rw [sum_units (fenc_val a ha) (fenc_val b hb), sgn_fenc, sgn_fenc, ← Int.add_mul, fenc_nr, Int.natAbs_mul, Int.natAbs_natCast]
  have hT := TU_pos
  generalize TU = T at hT
  have hT' : (0 : Int) < T := by omega
  congr 2
  by_cases h0 : a + b = 0
  · rw [h0, Int.zero_mul, if_pos rfl]
    simp
    omega
  · rw [if_neg (by rw [Int.mul_eq_zero]; omega)]
    rw [Bool.eq_iff_iff]
    simp only [decide_eq_true_eq]
    constructor
    · intro h
      rcases Int.lt_or_le (a + b) 0 with h' | h'
      · exact h'
      · have := Int.mul_nonneg h' (Int.le_of_lt hT'); omega
    · intro h; exact Int.mul_neg_of_neg_of_pos h hT'
theorem read_neg (x : Nat) : double.read (x ^^^ 2 ^ 63) = (double.read x).opposite := by
  have e1 : double.signWeight = 2 ^ 63 := rfl
  have hm : (x ^^^ 2 ^ 63) % 2 ^ 63 = x % 2 ^ 63 := by rw [Nat.xor_mod_two_pow]; simp
  have hd : ((x ^^^ 2 ^ 63) / 2 ^ 63 % 2 == 1) = !(x / 2 ^ 63 % 2 == 1) := by
    rw [Nat.xor_div_two_pow, Nat.div_self (by decide)]
    have hx := Nat.xor_mod_two_pow (a := x / 2 ^ 63) (b := 1) (n := 1)
    rw [Nat.pow_one] at hx
    rw [hx]
    rcases Nat.mod_two_eq_zero_or_one (x / 2 ^ 63) with h | h <;> rw [h] <;> rfl
  unfold Format.read
  rw [e1]
  dsimp only
  rw [hm, hd]
  split
  · rfl
  · split
    · rfl
    · split <;> rfl
theorem val_neg {x : Nat} {s : Bool} {u : Nat} (h : Val x s u) : Val (x ^^^ 2 ^ 63) (!s) u := by
  obtain ⟨m, p, h, hp, hu⟩ := h
  exact ⟨m, p, by rw [read_neg, h]; rfl, hp, hu⟩
theorem sgn_not (s : Bool) (u : Nat) : sgn (!s) u = -sgn s u := by cases s <;> simp [sgn]
theorem sub_add (x y : Nat) : double.sub x y = double.add x (y ^^^ 2 ^ 63) := by
  unfold Format.sub Format.add
  rw [read_neg]
theorem fenc_sub (a b : Int) (ha : a.natAbs < 2 ^ 53) (hb : b.natAbs < 2 ^ 53) : double.sub (fenc a) (fenc b) = some (if a - b = 0 then nr (decide (a < 0) && !decide (b < 0)) 0 else fenc (a - b)) := by
  rw [sub_add, sum_units (fenc_val a ha) (val_neg (fenc_val b hb)), sgn_not, sgn_fenc, sgn_fenc, ← Int.neg_mul, ← Int.add_mul, ← Int.sub_eq_add_neg]
  have hT := TU_pos
  rw [fenc_nr, Int.natAbs_mul, Int.natAbs_natCast]
  generalize TU = T at hT
  have hT' : (0 : Int) < T := by omega
  by_cases h0 : a - b = 0
  · rw [h0, Int.zero_mul, if_pos rfl, if_pos rfl]
    simp
  · rw [if_neg (by rw [Int.mul_eq_zero]; omega), if_neg h0]
    congr 2
    rw [Bool.eq_iff_iff]
    simp only [decide_eq_true_eq]
    constructor
    · intro h
      rcases Int.lt_or_le (a - b) 0 with h' | h'
      · exact h'
      · have := Int.mul_nonneg h' (Int.le_of_lt hT'); omega
    · intro h; exact Int.mul_neg_of_neg_of_pos h hT'
theorem fenc_sub' (a b : Int) (ha : a.natAbs < 2 ^ 53) (hb : b.natAbs < 2 ^ 53) : double.sub (fenc a) (fenc b) = some (fenc (a - b)) := by
  rw [fenc_sub a b ha hb]
  split
  · rename_i h
    rw [h]
    have : (decide (a < 0) && !decide (b < 0)) = false := by
      by_cases h1 : a < 0
      · simp [h1]; omega
      · simp [h1]
    rw [this, fenc_nr]
    simp
  · rfl
end Go.Proofs.Ytidmbjgnkodiiaa
