/- Words on float64 bits and the contracts of Canon, Bits, Same. -/
import Derived.Test.YtidmbjgnkodiiaaProg
import Derived.WalkKit
import Derived.WalkLawsBesides
import Derived.Handy
import Derived.Laws.Externs
import Derived.Lib.Hide
import Derived.Deep.Draws
import Derived.BigQuiet
import Derived.Deep.QuietTactic
namespace Go.Proofs.Ytidmbjgnkodiiaa
open Go.RowKit
set_option linter.unusedVariables false
set_option linter.unusedSimpArgs false

theorem ret_i {k : IntKind} {a b : Int} (h : a = b) : Ending.returned (.int k a) = .returned (.int k b) := by rw [h]
theorem ret_b {a b : Bool} (h : a = b) : Ending.returned (.bool a) = .returned (.bool b) := by rw [h]
theorem ret_f {a b : Nat} (h : a = b) : Ending.returned (.float .f64 a) = .returned (.float .f64 b) := by rw [h]

def fneg (b : Nat) : Nat := Op.negFloat .f64 b
@[go_sem] theorem run_neg_float {P : Program} (w : World) (b : Nat) : (Op.unary .neg (.float .f64 b)).run P w = .ok (.float .f64 (fneg b)) w := rfl

/-- The bits of a NaN. -/
def fnan (b : Nat) : Bool := FloatKind.f64.format.order b b != some .eq
def CN : Nat := 9221120237041090561
def canon (b : Nat) : Nat := if fnan b then CN else b

/-- A float operation's bits: of an invalid one those of the NaN that the tape gives. -/
def fop (op : BinOp) (x y : Nat) (w : World) : Nat :=
  match floatBits op .f64 x y with
  | some r => r
  | none => (Question.nanBits .f64 x y).cut (w.tape w.drawn (.nanBits .f64 x y))
def fdr (op : BinOp) (x y : Nat) : Nat := match floatBits op .f64 x y with | some _ => 0 | none => 1
theorem run_float_op {P : Program} (w : World) (op : BinOp) (hop : op = .add ∨ op = .sub ∨ op = .mul ∨ op = .quo) (t : TypeId) (x y : Nat) :
    (binOp op t (.float .f64 x) (.float .f64 y)).run P w = .ok (.float .f64 (fop op x y w)) (w.drewN (fdr op x y)) := by
  cases h : floatBits op .f64 x y with
  | some r => rw [run_float_arith w op t .f64 x y r h]; simp [fop, fdr, h, World.drewN_zero]
  | none =>
    simp only [fop, fdr, h]
    unfold floatBits at h
    rcases hop with rfl | rfl | rfl | rfl <;> simp only at h <;> simp [binOp, Op.floatArith, h, choose, Sem.run, Question.forced, World.drewN]
@[go_sem] theorem run_fadd {P : Program} (w : World) (t : TypeId) (x y : Nat) : (binOp .add t (.float .f64 x) (.float .f64 y)).run P w = .ok (.float .f64 (fop .add x y w)) (w.drewN (fdr .add x y)) := run_float_op w _ (by simp) t x y
@[go_sem] theorem run_fsub {P : Program} (w : World) (t : TypeId) (x y : Nat) : (binOp .sub t (.float .f64 x) (.float .f64 y)).run P w = .ok (.float .f64 (fop .sub x y w)) (w.drewN (fdr .sub x y)) := run_float_op w _ (by simp) t x y
@[go_sem] theorem run_fmul {P : Program} (w : World) (t : TypeId) (x y : Nat) : (binOp .mul t (.float .f64 x) (.float .f64 y)).run P w = .ok (.float .f64 (fop .mul x y w)) (w.drewN (fdr .mul x y)) := run_float_op w _ (by simp) t x y
@[go_sem] theorem run_fquo {P : Program} (w : World) (t : TypeId) (x y : Nat) : (binOp .quo t (.float .f64 x) (.float .f64 y)).run P w = .ok (.float .f64 (fop .quo x y w)) (w.drewN (fdr .quo x y)) := run_float_op w _ (by simp) t x y

/-- A float operation, made canonical: no tape in sight. -/
def cop (op : BinOp) (x y : Nat) : Nat :=
  match floatBits op .f64 x y with
  | some r => canon r
  | none => CN
theorem cut_nan (x y t : Nat) : fnan ((Question.nanBits .f64 x y).cut t) = true := by
  have h : ∃ s f : Nat, s < 2 ∧ f < 4503599627370495 ∧ (Question.nanBits .f64 x y).cut t = s * 9223372036854775808 + 9218868437227405312 + 1 + f :=
    ⟨t % 2, (t / 2) % 4503599627370495, by omega, by omega, rfl⟩
  obtain ⟨s, f, hs, hf, h⟩ := h
  rw [h]
  have e : Ieee.double.signWeight = 9223372036854775808 := rfl
  have e2 : Ieee.double.binade = 4503599627370496 := rfl
  have e3 : Ieee.double.infRung = 9218868437227405312 := rfl
  have hm : (s * 9223372036854775808 + 9218868437227405312 + 1 + f) % 9223372036854775808 = 9218868437227405313 + f := by omega
  have hr : ∃ n q, Ieee.double.read (s * 9223372036854775808 + 9218868437227405312 + 1 + f) = .nan n q := by
    unfold Ieee.Format.read
    rw [e, e2, e3, hm]
    dsimp only
    rw [if_neg (by omega), if_neg (by omega), if_neg (by omega)]
    exact ⟨_, _, rfl⟩
  obtain ⟨n, q, hr⟩ := hr
  unfold fnan
  show (Ieee.double.order _ _ != some .eq) = true
  unfold Ieee.Format.order
  rw [hr]
  rfl
theorem canon_fop (op : BinOp) (x y : Nat) (w : World) : canon (fop op x y w) = cop op x y := by
  unfold fop cop
  cases floatBits op .f64 x y with
  | some r => rfl
  | none => simp only [canon, cut_nan, if_true]

theorem read_nan {b : Nat} (h : fnan b = true) : ∃ n q, Ieee.double.read b = .nan n q := by
  unfold fnan at h
  change (Ieee.double.order b b != some .eq) = true at h
  unfold Ieee.Format.order at h
  cases hr : Ieee.double.read b with
  | nan n q => exact ⟨n, q, rfl⟩
  | infinity s => rw [hr] at h; cases s <;> simp [Ieee.Datum.order] at h
  | number s m i => rw [hr] at h; simp [Ieee.Datum.order] at h
theorem read_number {b : Nat} (h : fnan b = false) : ∀ n q, Ieee.double.read b ≠ .nan n q := by
  intro n q hr
  unfold fnan at h
  change (Ieee.double.order b b != some .eq) = false at h
  unfold Ieee.Format.order at h
  rw [hr] at h
  simp [Ieee.Datum.order] at h
theorem CN_nan : fnan CN = true := by decide +kernel
theorem canon_nan {b : Nat} (h : fnan b = true) : canon b = CN := by simp [canon, h]
theorem canon_num {b : Nat} (h : fnan b = false) : canon b = b := by simp [canon, h]
theorem fnan_canon (b : Nat) : fnan (canon b) = fnan b := by
  cases h : fnan b
  · rw [canon_num h, h]
  · rw [canon_nan h, CN_nan]
theorem canon_canon (b : Nat) : canon (canon b) = canon b := by
  cases h : fnan b
  · rw [canon_num h]; exact canon_num h
  · rw [canon_nan h]; exact canon_nan CN_nan
theorem sum_nan_l (n : Bool) (q : Nat) (d : Ieee.Datum) : Ieee.Datum.sum (.nan n q) d = none := by cases d <;> rfl
theorem sum_nan_r (n : Bool) (q : Nat) (d : Ieee.Datum) : Ieee.Datum.sum d (.nan n q) = none := by cases d <;> rfl
theorem product_nan_l (n : Bool) (q : Nat) (d : Ieee.Datum) : Ieee.Datum.product (.nan n q) d = none := by cases d <;> rfl
theorem product_nan_r (n : Bool) (q : Nat) (d : Ieee.Datum) : Ieee.Datum.product d (.nan n q) = none := by cases d <;> rfl
theorem quotient_nan_l (k : Nat) (n : Bool) (q : Nat) (d : Ieee.Datum) : Ieee.Datum.quotient k (.nan n q) d = none := by cases d <;> rfl
theorem quotient_nan_r (k : Nat) (n : Bool) (q : Nat) (d : Ieee.Datum) : Ieee.Datum.quotient k d (.nan n q) = none := by cases d <;> rfl
theorem order_nan_l (n : Bool) (q : Nat) (d : Ieee.Datum) : Ieee.Datum.order (.nan n q) d = none := by cases d <;> rfl
theorem order_nan_r (n : Bool) (q : Nat) (d : Ieee.Datum) : Ieee.Datum.order d (.nan n q) = none := by cases d <;> rfl
theorem floatBits_nan_l {x : Nat} (op : BinOp) (y : Nat) (h : fnan x = true) : floatBits op .f64 x y = none := by
  obtain ⟨n, q, hr⟩ := read_nan h
  unfold floatBits
  cases op <;> first | rfl | (show Option.map _ _ = none; rw [show FloatKind.f64.format = Ieee.double from rfl, hr]; simp only [sum_nan_l, product_nan_l, quotient_nan_l, Option.map_none])
theorem floatBits_nan_r {y : Nat} (op : BinOp) (x : Nat) (h : fnan y = true) : floatBits op .f64 x y = none := by
  obtain ⟨n, q, hr⟩ := read_nan h
  unfold floatBits
  cases op <;> first | rfl | (show Option.map _ _ = none; rw [show FloatKind.f64.format = Ieee.double from rfl, hr]; simp only [Ieee.Datum.opposite, sum_nan_r, product_nan_r, quotient_nan_r, Option.map_none])
theorem cop_nan_l {x : Nat} (op : BinOp) (y : Nat) (h : fnan x = true) : cop op x y = CN := by simp [cop, floatBits_nan_l op y h]
theorem cop_nan_r {y : Nat} (op : BinOp) (x : Nat) (h : fnan y = true) : cop op x y = CN := by simp [cop, floatBits_nan_r op x h]
/-- A float operation asks its operands only up to which NaN they are. -/
theorem cop_congr (op : BinOp) {x x' y y' : Nat} (hx : canon x = canon x') (hy : canon y = canon y') : cop op x y = cop op x' y' := by
  have nx : fnan x = fnan x' := by rw [← fnan_canon x, hx, fnan_canon]
  have ny : fnan y = fnan y' := by rw [← fnan_canon y, hy, fnan_canon]
  cases h : fnan x
  · rw [canon_num h, canon_num (nx ▸ h)] at hx
    subst hx
    cases h2 : fnan y
    · rw [canon_num h2, canon_num (ny ▸ h2)] at hy
      rw [hy]
    · rw [cop_nan_r op _ h2, cop_nan_r op _ (ny ▸ h2)]
  · rw [cop_nan_l op _ h, cop_nan_l op _ (nx ▸ h)]
theorem canon_cop (op : BinOp) (x y : Nat) : canon (cop op x y) = cop op x y := by
  unfold cop; split
  · exact canon_canon _
  · exact canon_nan CN_nan
theorem cop_canon_l (op : BinOp) (x y : Nat) : cop op (canon x) y = cop op x y := cop_congr op (canon_canon x) rfl
theorem cop_canon_r (op : BinOp) (x y : Nat) : cop op x (canon y) = cop op x y := cop_congr op rfl (canon_canon y)
theorem cop_fop_l (op o : BinOp) (x y z : Nat) (w : World) : cop op (fop o x y w) z = cop op (cop o x y) z := by rw [← cop_canon_l, canon_fop]
theorem cop_fop_r (op o : BinOp) (x y z : Nat) (w : World) : cop op z (fop o x y w) = cop op z (cop o x y) := by rw [← cop_canon_r, canon_fop]
/-- How two floats stand to each other. -/
def fo (a b : Nat) : Option Ordering := FloatKind.f64.format.order a b
theorem fo_nan_l {x : Nat} (y : Nat) (h : fnan x = true) : fo x y = none := by
  obtain ⟨n, q, hr⟩ := read_nan h
  show Ieee.Datum.order _ _ = none
  rw [show FloatKind.f64.format = Ieee.double from rfl, hr, order_nan_l]
theorem fo_nan_r {y : Nat} (x : Nat) (h : fnan y = true) : fo x y = none := by
  obtain ⟨n, q, hr⟩ := read_nan h
  show Ieee.Datum.order _ _ = none
  rw [show FloatKind.f64.format = Ieee.double from rfl, hr, order_nan_r]
theorem fo_congr {x x' y y' : Nat} (hx : canon x = canon x') (hy : canon y = canon y') : fo x y = fo x' y' := by
  have nx : fnan x = fnan x' := by rw [← fnan_canon x, hx, fnan_canon]
  have ny : fnan y = fnan y' := by rw [← fnan_canon y, hy, fnan_canon]
  cases h : fnan x
  · rw [canon_num h, canon_num (nx ▸ h)] at hx
    subst hx
    cases h2 : fnan y
    · rw [canon_num h2, canon_num (ny ▸ h2)] at hy
      rw [hy]
    · rw [fo_nan_r _ h2, fo_nan_r _ (ny ▸ h2)]
  · rw [fo_nan_l _ h, fo_nan_l _ (nx ▸ h)]
theorem fo_canon_l (x y : Nat) : fo (canon x) y = fo x y := fo_congr (canon_canon x) rfl
theorem fo_canon_r (x y : Nat) : fo x (canon y) = fo x y := fo_congr rfl (canon_canon y)

theorem wf_min {k : IntKind} {a : Int} (h : (Lit.int k a).wf = true) : k.min ≤ a ∧ a ≤ k.max := by
  simp only [Lit.wf, Bool.and_eq_true, decide_eq_true_eq] at h
  exact h
theorem i64_in {a : Int} (h : (Lit.int .i64 a).wf = true) : -9223372036854775808 ≤ a ∧ a ≤ 9223372036854775807 := wf_min h
theorem u64_in {a : Int} (h : (Lit.int .u64 a).wf = true) : 0 ≤ a ∧ a ≤ 18446744073709551615 := wf_min h
theorem i16_in {a : Int} (h : (Lit.int .i16 a).wf = true) : -32768 ≤ a ∧ a ≤ 32767 := wf_min h
theorem i8_in {a : Int} (h : (Lit.int .i8 a).wf = true) : -128 ≤ a ∧ a ≤ 127 := wf_min h
theorem u8_in {a : Int} (h : (Lit.int .u8 a).wf = true) : 0 ≤ a ∧ a ≤ 255 := wf_min h
theorem u64_nat {a : Int} (h : (Lit.int .u64 a).wf = true) : ∃ x : Nat, a = x ∧ x < 18446744073709551616 := by
  have hb := u64_in h
  exact ⟨a.toNat, by omega, by omega⟩

theorem quiet_same {P : Program} {f : FuncId} {args : Array Value} {w : World} {n : Nat} {v : Value}
    (h : Calls P f args (w.drewN n) fun e w' => e = .returned v ∧ w.drewN n = w') : Calls P f args (w.drewN n) fun e w'' => e = .returned v ∧ ∃ m, w'' = w.drewN m :=
  h.mono fun _ _ ⟨he, hm⟩ => ⟨he, n, hm.symm⟩
/-- The same behind a quiet region: a callee that draws (qd), a callee that leaves the world alone (qs). -/
theorem qd {P : Program} {f : FuncId} {args : Array Value} {w : World} {a n : Nat} {v : Value}
    (h : Calls P f args (w.drewN (a + n)) fun e w' => e = .returned v ∧ ∃ m, w' = (w.drewN (a + n)).drewN m) :
    Calls P f args (w.drewN (a + n)) fun e w'' => e = .returned v ∧ ∃ m, w'' = w.drewN (a + m) :=
  h.mono fun _ _ ⟨he, m, hm⟩ => ⟨he, n + m, by rw [hm, World.drewN_drewN, Nat.add_assoc]⟩
theorem qs {P : Program} {f : FuncId} {args : Array Value} {w : World} {a n : Nat} {v : Value}
    (h : Calls P f args (w.drewN (a + n)) fun e w' => e = .returned v ∧ w.drewN (a + n) = w') :
    Calls P f args (w.drewN (a + n)) fun e w'' => e = .returned v ∧ ∃ m, w'' = w.drewN (a + m) :=
  h.mono fun _ _ ⟨he, hm⟩ => ⟨he, n, hm.symm⟩
theorem below_drewN {B : Nat} {a w : World} (h : Below B a w) (n : Nat) : Below B a (w.drewN n) := h.trans ⟨rfl, rfl, rfl, Nat.le_refl _, fun _ _ => rfl⟩
/-- A row of floats in memory. -/
def FRow (w : World) (a : Option Addr) (xs : List Nat) : Prop :=
  xs.length ≤ 140737488351232 ∧ (xs ≠ [] → ∃ b off, a = some ⟨b, off, none⟩ ∧ ∀ k, k < xs.length → w.cell? ⟨b, off + k, none⟩ = some (.float .f64 (xs.getD k 0)))
theorem FRow.below {w w' : World} {B : Nat} {a : Option Addr} {xs : List Nat} (h : FRow w a xs) (hb : Below B w w') (hB : w.heap.size ≤ B) : FRow w' a xs := by
  refine ⟨h.1, fun hx => ?_⟩
  obtain ⟨b, off, rfl, hc⟩ := h.2 hx
  refine ⟨b, off, rfl, fun k hk => ?_⟩
  have := hc k hk
  rw [hb.cell (by have := World.block_lt_of_cell? w _ this; simp only at this ⊢; omega)]
  exact this
theorem FRow.drewN {w : World} {a : Option Addr} {xs : List Nat} (h : FRow w a xs) (n : Nat) : FRow (w.drewN n) a xs := h
/-- The k-th float of a list. -/
def fx (xs : List Nat) (k : Nat) : Nat := xs.getD k 0

theorem call_frombits (n : Int) (w : World) : (callFunc 40 #[.int .u64 n]).run Try.prog w = .ok (.value (.float .f64 n.toNat)) w := by
  rw [run_callFunc_extern (e := Extern.MathFloatBits.float64frombits) Try.func40 (by kernel_rfl) (by kernel_rfl) (by kernel_rfl) (by kernel_rfl)]
  rfl
theorem call_bits (b : Nat) (w : World) : (callFunc 8 #[.float .f64 b]).run Try.prog w = .ok (.value (.int .u64 b)) w := by
  rw [run_callFunc_extern (e := Extern.MathFloatBits.float64bits) Try.func8 (by kernel_rfl) (by kernel_rfl) (by kernel_rfl) (by kernel_rfl)]
  rfl

theorem canon_any (b : Nat) (w : World) : Calls Try.prog 24 #[.float .f64 b] w fun e w' => e = .returned (.float .f64 (canon b)) ∧ w = w' := by
  have hf := call_frombits
  cases h : (FloatKind.f64.format.order b b != some .eq)
  · go_enter Try.func24, Try.ntmps24
    go_wp2
    go_ret
    exact ⟨by simp [canon, fnan, h], rfl⟩
  · go_enter Try.func24, Try.ntmps24
    go_wp2
    go_ret
    exact ⟨by simp [canon, fnan, h, CN], rfl⟩

theorem bits_any (b : Nat) (w : World) : Calls Try.prog 50 #[.float .f64 b] w fun e w' => e = .returned (.int .u64 (canon b)) ∧ w = w' := by
  have hf := call_bits
  go_enter Try.func50, Try.ntmps50
  go_wp2_with (go_at_call 24; refine (canon_any _ _).mono ?_; rintro e w' ⟨rfl, rfl⟩)
  go_ret
  exact ⟨rfl, rfl⟩

def fsame (a b : Nat) : Bool := canon a == canon b
theorem natbeq (a b : Nat) : ((a : Int) == (b : Int)) = (a == b) := by
  rw [Bool.eq_iff_iff]; simp; omega

theorem same_any (a b : Nat) (w : World) : Calls Try.prog 26 #[.float .f64 a, .float .f64 b] w fun e w' => e = .returned (.bool (fsame a b)) ∧ w = w' := by
  go_enter Try.func26, Try.ntmps26
  go_wp2_with (go_at_call 50; refine (bits_any _ _).mono ?_; rintro e w' ⟨rfl, rfl⟩)
  go_ret
  refine ⟨?_, rfl⟩
  unfold fsame
  rw [← natbeq]
  rfl

theorem rcanon_any (b : Nat) (w : World) : Calls Try.prog 23 #[.float .f64 b] w fun e w' => e = .returned (.float .f64 (canon b)) ∧ w = w' := by
  have hf := call_frombits
  cases h : (FloatKind.f64.format.order b b != some .eq)
  · go_enter Try.func23, Try.ntmps23
    go_wp2
    go_ret
    exact ⟨by simp [canon, fnan, h], rfl⟩
  · go_enter Try.func23, Try.ntmps23
    go_wp2
    go_ret
    exact ⟨by simp [canon, fnan, h, CN], rfl⟩
end Go.Proofs.Ytidmbjgnkodiiaa
