/- A duration's text is read as the duration. -/
import Derived.Test.YtkflhfdpdgnbfaaDoorSt2
import Derived.Test.YtkflhfdpdgnbfaaDoorSt11
namespace Go.Proofs.YtkflhfdpdgnbfaaDoor
open Go Go.RowKit
set_option linter.unusedVariables false
set_option linter.unusedSimpArgs false

def isDig (c : UInt8) : Prop := (48 : Int) ≤ (c.toNat : Int) ∧ (c.toNat : Int) ≤ 57
theorem dig_of {q : Nat} (h : q < 10) : (UInt8.ofNat (48 + q)).toNat = 48 + q := by
  rw [UInt8.toNat_ofNat']; omega
theorem decDigits_head : ∀ (q : Nat), ∃ c r, Lib.decDigits q = c :: r ∧ isDig c := by
  intro q
  induction q using Nat.strongRecOn with
  | _ q ih =>
    rw [Lib.decDigits]
    split
    · rename_i h
      exact ⟨_, [], rfl, by unfold isDig; rw [dig_of h]; omega⟩
    · obtain ⟨c, r, e, hc⟩ := ih (q / 10) (by omega)
      exact ⟨c, r ++ [UInt8.ofNat (48 + q % 10)], by rw [e]; rfl, hc⟩
theorem digs_dec : ∀ (q : Nat) (t : List UInt8) (b : Bool), q ≤ 2251799813685248 → digs (Lib.decDigits q ++ t) 0 b = digs t q true := by
  intro q
  induction q using Nat.strongRecOn with
  | _ q ih =>
    intro t b hq
    rw [Lib.decDigits]
    split
    · rename_i h
      show digs (UInt8.ofNat (48 + q) :: t) 0 b = _
      rw [digs, dig_of h, if_pos (by omega)]
      congr 1
      rw [Int.min_eq_left (by omega)]
      omega
    · rename_i h
      rw [List.append_assoc, ih (q / 10) (by omega) _ _ (by omega)]
      show digs (UInt8.ofNat (48 + q % 10) :: t) _ true = _
      rw [digs, dig_of (Nat.mod_lt _ (by omega)), if_pos (by omega)]
      congr 1
      rw [Int.min_eq_left (by omega)]
      omega

def tl : List (Int × ByteArray) → Int → List UInt8
  | [], _ => []
  | x :: t, d => if 0 < d / x.1 then Lib.decDigits (d / x.1).toNat ++ (x.2.data.toList ++ tl t (d - d / x.1 * x.1)) else tl t d
theorem textFrom_tl : ∀ (us : List (Int × ByteArray)) (d : Int) (out : ByteArray), 0 ≤ d → (∀ x ∈ us, 1 ≤ x.1) → (textFrom us d out).data.toList = out.data.toList ++ tl us d
  | [], d, out, _, _ => by simp [textFrom, tl]
  | x :: t, d, out, hd, hu => by
    have hx := hu x (by simp)
    have hq := quo_fit (d := d) (u := x.1) hx hd
    simp only [textFrom, tl]
    split
    · rename_i h
      rw [textFrom_tl t _ _ (by omega) (fun y hy => hu y (by simp [hy]))]
      rw [ByteArray.data_append, ByteArray.data_append, Array.toList_append, Array.toList_append, List.append_assoc, List.append_assoc]
      congr 2
      unfold itoaB Lib.itoa
      rw [if_neg (by omega)]
    · exact textFrom_tl t d out hd (fun y hy => hu y (by simp [hy]))
theorem tl_zero : ∀ (us : List (Int × ByteArray)), tl us 0 = []
  | [] => rfl
  | x :: t => by simp only [tl]; rw [Int.zero_ediv, if_neg (by omega)]; exact tl_zero t

/-- What a unit's name must be. -/
def UOK (x : Int × ByteArray) : Prop := 1 ≤ x.1 ∧ x.1 ≤ 86400000 ∧ (∃ c r, x.2.data.toList = c :: r ∧ ¬ isDig c) ∧
  ∀ rest : List UInt8, (rest = [] ∨ ∃ c r, rest = c :: r ∧ isDig c) → unitL (x.2.data.toList ++ rest) = (x.1, (x.2.data.toList.length : Int))
def Good (us : List (Int × ByteArray)) (top : Int) : Prop := ∀ (d out last : Int) (k : Nat), 1 ≤ d → 0 ≤ out → out + d ≤ 1125899906842624 → top < last → (tl us d).length < k →
  (∃ c r, tl us d = c :: r ∧ isDig c) ∧ durL k (tl us d) out last = (out + d, 0)
theorem part_one (x : Int × ByteArray) (hx : UOK x) (q : Nat) (rest : List UInt8) (out last : Int) (k : Nat) (hq : 1 ≤ q) (h0 : 0 ≤ out) (ho : out + q * x.1 ≤ 1125899906842624) (hl : x.1 < last) (hr : rest = [] ∨ ∃ c r, rest = c :: r ∧ isDig c) :
    durL (k + 1) (Lib.decDigits q ++ (x.2.data.toList ++ rest)) out last = if rest = [] then fin (out + q * x.1) else durL k rest (out + q * x.1) x.1 := by
  obtain ⟨h1, h2, ⟨c, r, hc, hnd⟩, hun⟩ := hx
  have hqx : (q : Int) ≤ q * x.1 := by
    have := Int.mul_le_mul_of_nonneg_left h1 (show (0 : Int) ≤ q by omega)
    omega
  show durT (durL k) (digs (Lib.decDigits q ++ (x.2.data.toList ++ rest)) 0 false) out last = _
  rw [digs_dec q _ _ (by omega)]
  have hstop : digs (x.2.data.toList ++ rest) q true = ((q : Int), true, x.2.data.toList ++ rest) := by
    rw [hc, List.cons_append, digs]
    exact if_neg hnd
  rw [hstop]
  have hu := hun rest hr
  have hlen : 1 ≤ x.2.data.toList.length := by rw [hc]; simp
  simp only [durT, hu]
  rw [if_neg (by rintro (h | h | h); cases h; omega; omega), Int.toNat_natCast, List.drop_left]
  have hcap : capN q x.1 = q := by
    unfold capN
    rw [if_neg]
    have := (Int.le_ediv_iff_mul_le (a := (q : Int)) (b := 2251799813685248) (show 0 < x.1 by omega)).2 (by omega)
    omega
  rw [hcap, Int.min_eq_left (by omega)]
theorem good_cons (x : Int × ByteArray) (t : List (Int × ByteArray)) (top : Int) (hx : UOK x) (ht : Good t top) (htop : top < x.1) : Good (x :: t) x.1 := by
  intro d out last k hd h0 ho hl hk
  have h1 := hx.1
  have ⟨q1, q2, q3, q4⟩ := quo_fit (d := d) (u := x.1) h1 (by omega)
  simp only [tl] at hk ⊢
  by_cases hz : 0 < d / x.1
  · rw [if_pos hz] at hk ⊢
    obtain ⟨q, hq⟩ : ∃ q : Nat, d / x.1 = q := ⟨(d / x.1).toNat, by omega⟩
    rw [hq] at hk hz q3 q4 ⊢
    rw [Int.toNat_natCast] at hk ⊢
    obtain ⟨c, r, hc, hdig⟩ := decDigits_head q
    refine ⟨⟨c, r ++ (x.2.data.toList ++ tl t (d - q * x.1)), by rw [hc]; rfl, hdig⟩, ?_⟩
    obtain ⟨m, rfl⟩ : ∃ m, k = m + 1 := ⟨k - 1, by omega⟩
    by_cases hr : d - q * x.1 = 0
    · have hrest : tl t (d - q * x.1) = [] := by rw [hr]; exact tl_zero t
      rw [part_one x hx q _ out last m (by omega) h0 (by omega) hl (.inl hrest), if_pos hrest]
      unfold fin
      rw [if_neg (by omega)]
      congr 1
      omega
    · have hlen : (tl t (d - q * x.1)).length < m := by
        rw [List.length_append, List.length_append, hc] at hk
        obtain ⟨c2, r2, hc2, _⟩ := hx.2.2.1
        rw [hc2] at hk
        simp at hk
        omega
      obtain ⟨hh, hv⟩ := ht (d - q * x.1) (out + q * x.1) x.1 m (by omega) (by omega) (by omega) htop hlen
      rw [part_one x hx q _ out last m (by omega) h0 (by omega) hl (.inr hh), if_neg (by obtain ⟨c3, r3, e3, _⟩ := hh; rw [e3]; simp), hv]
      congr 1
      omega
  · rw [if_neg hz] at hk ⊢
    exact ht d out last k hd h0 ho (by omega) hk
theorem good_ms : Good [(1, ⟨#[109, 115]⟩)] 1 := by
  have hx : UOK (1, ⟨#[109, 115]⟩) := by
    refine ⟨by decide, by decide, ⟨109, [115], rfl, by unfold isDig; decide⟩, ?_⟩
    intro rest _
    rfl
  intro d out last k hd h0 ho hl hk
  have e1 : d / 1 = d := Int.ediv_one d
  simp only [tl, e1] at hk ⊢
  rw [if_pos (by omega)] at hk ⊢
  obtain ⟨q, rfl⟩ : ∃ q : Nat, d = q := ⟨d.toNat, by omega⟩
  rw [Int.toNat_natCast] at hk ⊢
  obtain ⟨c, r, hc, hdig⟩ := decDigits_head q
  refine ⟨⟨c, r ++ ([109, 115] ++ []), by rw [hc]; rfl, hdig⟩, ?_⟩
  obtain ⟨m, rfl⟩ : ∃ m, k = m + 1 := ⟨k - 1, by omega⟩
  show durL (m + 1) (Lib.decDigits q ++ ((⟨#[109, 115]⟩ : ByteArray).data.toList ++ [])) out last = _
  rw [part_one (1, ⟨#[109, 115]⟩) hx q [] out last m (by omega) h0 (by simp; omega) hl (.inl rfl), if_pos rfl]
  unfold fin
  simp only [Int.mul_one]
  rw [if_neg (by omega)]
theorem good_all : Good unitsL 86400000 := by
  have h1 : UOK (1000, ⟨#[115]⟩) := by
    refine ⟨by decide, by decide, ⟨115, [], rfl, by unfold isDig; decide⟩, ?_⟩
    intro rest _
    rfl
  have h2 : UOK (60000, ⟨#[109]⟩) := by
    refine ⟨by decide, by decide, ⟨109, [], rfl, by unfold isDig; decide⟩, ?_⟩
    intro rest hr
    rcases hr with rfl | ⟨c, r, rfl, hc⟩
    · rfl
    · have hne : c.toNat ≠ 115 := by unfold isDig at hc; omega
      show unitL (109 :: c :: r) = _
      simp [unitL, hne]
  have h3 : UOK (3600000, ⟨#[104]⟩) := by
    refine ⟨by decide, by decide, ⟨104, [], rfl, by unfold isDig; decide⟩, ?_⟩
    intro rest _
    rfl
  have h4 : UOK (86400000, ⟨#[100]⟩) := by
    refine ⟨by decide, by decide, ⟨100, [], rfl, by unfold isDig; decide⟩, ?_⟩
    intro rest _
    rfl
  exact good_cons _ _ 3600000 h4 (good_cons _ _ 60000 h3 (good_cons _ _ 1000 h2 (good_cons _ _ 1 h1 good_ms (by decide)) (by decide)) (by decide)) (by decide)
theorem dec_len (q : Nat) (h : q ≤ 1125899906842624) : (Lib.decDigits q).length ≤ 16 := decDigits_len 15 q (by omega)
theorem tl_len8 : ∀ (us : List (Int × ByteArray)) (d : Int), 0 ≤ d → d < 100000000 → (∀ x ∈ us, 1 ≤ x.1 ∧ x.2.data.toList.length ≤ 2) → (tl us d).length ≤ 10 * us.length
  | [], _, _, _, _ => by simp [tl]
  | x :: t, d, h0, h1, hu => by
    obtain ⟨hx, hn⟩ := hu x (by simp)
    have hq := quo_fit (d := d) (u := x.1) hx h0
    have hr : ∀ y ∈ t, 1 ≤ y.1 ∧ y.2.data.toList.length ≤ 2 := fun y hy => hu y (by simp [hy])
    simp only [tl]
    split
    · have h2 := tl_len8 t (d - d / x.1 * x.1) (by omega) (by omega) hr
      have h3 := decDigits_len 7 (d / x.1).toNat (by omega)
      simp only [List.length_append, List.length_cons] at *
      omega
    · have h2 := tl_len8 t d h0 h1 hr
      simp only [List.length_cons]
      omega
theorem tl_len (d : Int) (h1 : 1 ≤ d) (h2 : d ≤ 1125899906842624) : (tl unitsL d).length ≤ 64 := by
  have hq := quo_fit (d := d) (u := 86400000) (by omega) (by omega)
  have hall : ∀ x ∈ ([(3600000, ⟨#[104]⟩), (60000, ⟨#[109]⟩), (1000, ⟨#[115]⟩), (1, ⟨#[109, 115]⟩)] : List (Int × ByteArray)), 1 ≤ x.1 ∧ x.2.data.toList.length ≤ 2 := by
    intro x hx; simp at hx; rcases hx with rfl | rfl | rfl | rfl <;> decide
  show (if 0 < d / 86400000 then Lib.decDigits (d / 86400000).toNat ++ ([100] ++ tl [(3600000, ⟨#[104]⟩), (60000, ⟨#[109]⟩), (1000, ⟨#[115]⟩), (1, ⟨#[109, 115]⟩)] (d - d / 86400000 * 86400000)) else tl [(3600000, ⟨#[104]⟩), (60000, ⟨#[109]⟩), (1000, ⟨#[115]⟩), (1, ⟨#[109, 115]⟩)] d).length ≤ 64
  split
  · have h3 := tl_len8 _ (d - d / 86400000 * 86400000) (by omega) (by omega) hall
    have h4 := dec_len (d / 86400000).toNat (by omega)
    simp only [List.length_append, List.length_cons, List.length_nil] at *
    omega
  · have h3 := tl_len8 _ d (by omega) (by omega) hall
    simp only [List.length_cons, List.length_nil] at h3
    omega
theorem dur_text (d : Int) (h1 : 1 ≤ d) (h2 : d ≤ 1125899906842624) : durV (textFrom unitsL d ⟨#[]⟩).data.toList = (d, 0) := by
  have ht := textFrom_tl unitsL d ⟨#[]⟩ (by omega) (by intro x hx; simp [unitsL] at hx; rcases hx with rfl | rfl | rfl | rfl | rfl <;> decide)
  have ht : (textFrom unitsL d ⟨#[]⟩).data.toList = tl unitsL d := by rw [ht]; rfl
  have h64 := tl_len d h1 h2
  rw [ht]
  obtain ⟨⟨c, r, hc, _⟩, hv⟩ := good_all d 0 86400001 ((tl unitsL d).length + 1) h1 (by omega) (by omega) (by omega) (by omega)
  unfold durV
  rw [if_neg (by rintro (h | h); rw [hc] at h; cases h; omega), hv, Int.zero_add]
end Go.Proofs.YtkflhfdpdgnbfaaDoor
