/- Words for walks, of no program: appending, slices in memory, worlds below a block. Words on float64 bits and the contracts of Canon, Bits, Same (beside Base). Floats: sums, the least and the greatest, both sides (beside Base). Plain laws of doubles: finite ones as whole numbers of 2^-1074; sums, products, order, whole numbers. The order of floats in which one comes ahead of another: plain law. The order of floats: walks, both sides. (Several texts in one file, by merge.py.) -/
import Derived.Test.YtogjcaakfnfapaaGreatDoorProg
import Derived.WalkKit
import Derived.WalkLawsBesides
import Derived.WalkSpells
import Derived.Handy
import Derived.Laws.Externs
import Derived.Laws.AppendOwn
import Derived.Laws.AppendOwnNone
import Derived.Laws.Rows
import Derived.Lib.Hide
import Derived.Deep.Draws
import Derived.Deep.Strs
import Derived.Deep.RegionLaw
import Derived.Deep.RegionHeld3
import Derived.BigQuiet
import Derived.Deep.QuietTactic
import Derived.Deep.Light
import Derived.Laws.FloatArith
import Derived.Sort.LotA
namespace Go.Proofs.YtogjcaakfnfapaaGreatDoor
open Go.RowKit
set_option linter.unusedVariables false
set_option linter.unusedSimpArgs false

theorem ret_i {k : IntKind} {a b : Int} (h : a = b) : Ending.returned (.int k a) = .returned (.int k b) := by rw [h]
theorem ret_b {a b : Bool} (h : a = b) : Ending.returned (.bool a) = .returned (.bool b) := by rw [h]
theorem quiet_same {P : Program} {f : FuncId} {args : Array Value} {w : World} {n : Nat} {v : Value}
    (h : Calls P f args (w.drewN n) fun e w' => e = .returned v ∧ w.drewN n = w') : Calls P f args (w.drewN n) fun e w'' => e = .returned v ∧ ∃ m, w'' = w.drewN m :=
  h.mono fun _ _ ⟨he, hm⟩ => ⟨he, n, hm.symm⟩
theorem qs {P : Program} {f : FuncId} {args : Array Value} {w : World} {a n : Nat} {v : Value}
    (h : Calls P f args (w.drewN (a + n)) fun e w' => e = .returned v ∧ w.drewN (a + n) = w') :
    Calls P f args (w.drewN (a + n)) fun e w'' => e = .returned v ∧ ∃ m, w'' = w.drewN (a + m) :=
  h.mono fun _ _ ⟨he, hm⟩ => ⟨he, n, hm.symm⟩
theorem below_drewN {B : Nat} {a w : World} (h : Below B a w) (n : Nat) : Below B a (w.drewN n) := h.trans ⟨rfl, rfl, rfl, Nat.le_refl _, fun _ _ => rfl⟩
theorem cell_below {w w' : World} {B : Nat} {p : Addr} {u : Value} (hb : Below B w w') (hB : w.heap.size ≤ B) (h : w.cell? p = some u) : w'.cell? p = some u := by
  rw [hb.cell (by have := World.block_lt_of_cell? w _ h; omega)]; exact h
theorem below_frozen {W w1 : World} {B : Nat} (hb : Below B W w1) : ∀ b o, b < B → w1.frozen? ⟨b, o, none⟩ = W.frozen? ⟨b, o, none⟩ := fun b o h => hb.frozen (p := ⟨b, o, none⟩) h
theorem wpList_append_rd {P : Program} {w : World} {ops : Array Oper} {rest : List Oper} {o : Oper} {a : Act} {Q : Exit → Act → World → Prop} (hgd : o.guard = none) (s x : Operand) (t : TypeId)
    (ho : o.op = .call { callee := .builtin .append, args := #[s, x], argTypes := #[t, t] })
    (base : Nat) (e : TypeId) (i : TypeInfo) (z : Value) (size bytes : Nat) (ht : P.underlying t = some (.slice e)) (hi : P.info? e = some i) (hz : i.zero = some z)
    (hsize : i.size = size) (hby : i.bytes = bytes) (hzs : z.cells.size = size) (hsz : 0 < size)
    (v : Value) (n : Nat) (xs : List Value) (hs : a.eval s = v) (hown : w.ownsRow base e size v n xs)
    (sa : Option Addr) (m c : Nat) (news : List Value) (hx : a.eval x = .slice sa m c) (hnone : sa = none → m = 0 ∧ c = 0 ∧ news = [])
    (hl : news.length = m * size) (hnews : ∀ ad, sa = some ad → ∀ j u, news[j]? = some u → w.cell? (ad.add j) = some u) (h1 : ∀ u ∈ news, u.oneCell' = true)
    (h63 : n + m ≤ maxLen) (hbytes : (n + m) * bytes ≤ 140737488355328) (hbase : base ≤ w.heap.size)
    (h : ∀ v' w', w'.ownsRow base e size v' (n + m) (xs ++ news) → w.grownBy w' v.ownBlock → wpList P ops Q rest (a.put o.dst v') w') : wpList P ops Q (o :: rest) a w := by
  cases sa with
  | none =>
    obtain ⟨rfl, rfl, rfl⟩ := hnone rfl
    refine wpList_append_own_none hgd s x t ho base e i size ht hi v n xs hs hown hx (h v w ?_ ⟨rfl, rfl, rfl, Nat.le_refl _, fun _ _ _ => rfl⟩)
    simpa using hown
  | some ad =>
    exact wpList_append_own w hgd s x t ho base e i z size bytes ht hi hz hsize hby hzs hsz v n xs hs hown ad m c news hx hl (hnews ad rfl) h1 h63 hbytes hbase fun v' w' h2 h3 _ => h v' w' h2 h3

/-- The same at a step of a region that draws its order. -/
theorem step_append_rd {P : Program} {w : World} {ops : Array Oper} {o : Oper} {a : Act} {K : Act → World → Prop} {Q : Exit → Act → World → Prop} {E : Prop} (hgd : o.guard = none) (s x : Operand) (t : TypeId)
    (ho : o.op = .call { callee := .builtin .append, args := #[s, x], argTypes := #[t, t] })
    (base : Nat) (e : TypeId) (i : TypeInfo) (z : Value) (size bytes : Nat) (ht : P.underlying t = some (.slice e)) (hi : P.info? e = some i) (hz : i.zero = some z)
    (hsize : i.size = size) (hby : i.bytes = bytes) (hzs : z.cells.size = size) (hsz : 0 < size)
    (v : Value) (n : Nat) (xs : List Value) (hs : a.eval s = v) (hown : w.ownsRow base e size v n xs)
    (sa : Option Addr) (m c : Nat) (news : List Value) (hx : a.eval x = .slice sa m c) (hnone : sa = none → m = 0 ∧ c = 0 ∧ news = [])
    (hl : news.length = m * size) (hnews : ∀ ad, sa = some ad → ∀ j u, news[j]? = some u → w.cell? (ad.add j) = some u) (h1 : ∀ u ∈ news, u.oneCell' = true)
    (h63 : n + m ≤ maxLen) (hbytes : (n + m) * bytes ≤ 140737488355328) (hbase : base ≤ w.heap.size)
    (h : ∀ v' w', w'.ownsRow base e size v' (n + m) (xs ++ news) → w.grownBy w' v.ownBlock → K (a.put o.dst v') w') :
    if Region.wanted o (yielded ops a.tmps) = true then Oper.wp P o a w K Q else E := by
  have hw : Region.wanted o (yielded ops a.tmps) = true := by simp [Region.wanted, hgd]
  rw [if_pos hw]
  cases sa with
  | none =>
    obtain ⟨rfl, rfl, rfl⟩ := hnone rfl
    have hrun := run_append_owned_none (P := P) (w := w) base t o.type e i size ht hi v n xs hown
    unfold Oper.wp
    simp [execOp, ho, resolve, invoke, builtin, hs, hx, hrun, Result.andThen]
    exact h v w (by simpa using hown) ⟨rfl, rfl, rfl, Nat.le_refl _, fun _ _ _ => rfl⟩
  | some ad =>
    exact wp_append_own w s x t ho base e i z size bytes ht hi hz hsize hby hzs hsz v n xs hs hown ad m c news hx hl (hnews ad rfl) h1 h63 hbytes hbase fun v' w' h2 h3 _ => h v' w' h2 h3
theorem owns_lit {w : World} {base g : Nat} {e : TypeId} {size : Nat} (hg : w.heap[g]? = some (.cells #[] e (0, 0))) (hb : base ≤ g) : w.ownsRow base e size (.slice (some ⟨g, 0, none⟩) 0 0) 0 [] :=
  ⟨by simp, .inr ⟨g, 0, #[], rfl, hb, hg, Nat.le_refl _, by unfold maxLen; omega, by simp, by simp⟩⟩
section
variable {α : Type} {enc : α → List Value} {sz : Nat}

/-- The slice v reads as the list xs. -/
def Sl (enc : α → List Value) (w : World) (v : Value) (xs : List α) : Prop :=
  ∃ a cap, v = .slice a xs.length cap ∧ (xs.length ≤ cap ∧ cap ≤ 9223372036854775807) ∧ (a = none → cap = 0 ∧ xs = []) ∧
    (xs ≠ [] → ∃ b off, a = some ⟨b, off, none⟩ ∧ ∀ j u, (xs.flatMap enc)[j]? = some u → w.cell? ⟨b, off + j, none⟩ = some u)

theorem flat_length (hsz : ∀ x, (enc x).length = sz) (xs : List α) : (xs.flatMap enc).length = xs.length * sz := by
  induction xs with
  | nil => simp
  | cons x xs ih => rw [List.flatMap_cons, List.length_append, ih, hsz, List.length_cons, Nat.succ_mul]; omega
theorem flat_get (hsz : ∀ x, (enc x).length = sz) (xs : List α) (k i : Nat) (hi : i < sz) (h : k < xs.length) : (xs.flatMap enc)[k * sz + i]? = (enc xs[k])[i]? := by
  induction xs generalizing k with
  | nil => simp at h
  | cons x xs ih =>
    rw [List.flatMap_cons]
    cases k with
    | zero => rw [Nat.zero_mul, Nat.zero_add, List.getElem?_append_left (by rw [hsz]; exact hi)]; rfl
    | succ k =>
      rw [List.getElem?_append_right (by rw [hsz, Nat.succ_mul]; omega), hsz, show (k + 1) * sz + i - sz = k * sz + i by rw [Nat.succ_mul]; omega]
      exact ih k (by simpa using h)

theorem Sl.below {w w' : World} {B : Nat} {v : Value} {xs : List α} (h : Sl enc w v xs) (hb : Below B w w') (hB : w.heap.size ≤ B) : Sl enc w' v xs := by
  obtain ⟨a, cap, rfl, hm, hn, hc⟩ := h
  refine ⟨a, cap, rfl, hm, hn, fun hx => ?_⟩
  obtain ⟨b, off, rfl, hd⟩ := hc hx
  refine ⟨b, off, rfl, fun j u hu => ?_⟩
  have := hd j u hu
  rw [hb.cell (by have := World.block_lt_of_cell? w _ this; omega)]; exact this
theorem Sl.drewN {w : World} {v : Value} {xs : List α} (h : Sl enc w v xs) (n : Nat) : Sl enc (w.drewN n) v xs := h
theorem Sl.nil (w : World) : Sl enc w (.slice none 0 0) [] := ⟨none, 0, rfl, by simp, fun _ => ⟨rfl, rfl⟩, fun e => (e rfl).elim⟩
/-- Its cells, element by element. -/
theorem Sl.split {w : World} {v : Value} {xs : List α} (hsz : ∀ x, (enc x).length = sz) (h : Sl enc w v xs) :
    ∃ a cap, v = .slice a xs.length cap ∧ (xs.length ≤ cap ∧ cap ≤ 9223372036854775807) ∧ (a = none → cap = 0 ∧ xs = []) ∧
      ∀ k (hk : k < xs.length), ∃ b off, a = some ⟨b, off, none⟩ ∧ ∀ i u, (enc xs[k])[i]? = some u → w.cell? ⟨b, off + (k * sz + i), none⟩ = some u := by
  obtain ⟨a, cap, rfl, hm, hn, hc⟩ := h
  refine ⟨a, cap, rfl, hm, hn, fun k hk => ?_⟩
  obtain ⟨b, off, rfl, hd⟩ := hc (by intro e; simp [e] at hk)
  refine ⟨b, off, rfl, fun i u hu => hd _ u ?_⟩
  rw [flat_get hsz xs k i (by rw [← hsz xs[k]]; exact (List.getElem?_eq_some_iff.1 hu).1) hk]; exact hu
theorem Sl.len {w : World} {v : Value} {xs : List α} (h : Sl enc w v xs) (h0 : ∀ x, 0 < (enc x).length) : ∃ a cap, v = .slice a xs.length cap ∧ (xs.length ≤ cap ∧ cap ≤ 9223372036854775807) ∧ (a = none → cap = 0 ∧ xs = []) ∧ (∀ ad, a = some ad → ∀ j u, (xs.flatMap enc)[j]? = some u → w.cell? (ad.add j) = some u) := by
  obtain ⟨a, cap, rfl, hm, hn, hc⟩ := h
  refine ⟨a, cap, rfl, hm, hn, fun ad e j u hu => ?_⟩
  obtain ⟨b, off, e2, hd⟩ := hc (by intro e; subst e; simp at hu)
  rw [e] at e2; injection e2 with e2; subst e2
  rw [Addr.add_lit]; exact hd j u hu
/-- Of a row that the call owns. -/
theorem Sl.own {w : World} {base : Nat} {e : TypeId} {v : Value} {n : Nat} {xs : List α} (hsz : ∀ x, (enc x).length = sz) (h0 : 0 < sz) (h : w.ownsRow base e sz v n (xs.flatMap enc)) : Sl enc w v xs := by
  have hn : n = xs.length := by
    have := h.1
    rw [flat_length hsz] at this
    exact (Nat.eq_of_mul_eq_mul_right h0 this).symm
  subst hn
  rcases h.2 with ⟨rfl, h0⟩ | ⟨g, cap, cur, rfl, _, _, hle, hcap, _⟩
  · have hx : xs = [] := List.eq_nil_of_length_eq_zero h0
    subst hx
    exact Sl.nil w
  · refine ⟨_, cap, rfl, ⟨hle, by unfold maxLen at hcap; omega⟩, (fun e => by cases e), fun _ => ⟨g, 0, rfl, fun j u hu => ?_⟩⟩
    have := h.cells (g := g) rfl j u hu
    rw [Addr.add_lit] at this
    exact this
/-- A literal. -/
theorem Sl.lit {w : World} {b : Nat} {t : TypeId} {xs : List α} {cap : Nat} {cs : Array Value} {n : Nat} {fr : Nat × Nat} (hb : w.heap[b]? = some (.cells cs t fr)) (hcs : cs.toList = xs.flatMap enc) (hn : n = xs.length) (hm : n ≤ cap ∧ cap ≤ 9223372036854775807) : Sl enc w (.slice (some ⟨b, 0, none⟩) n cap) xs := by
  subst hn
  refine ⟨_, cap, rfl, hm, (fun e => by cases e), fun _ => ⟨b, 0, rfl, fun j u hu => ?_⟩⟩
  rw [Nat.zero_add, cell_of_row w b j cs t fr hb, ← Array.getElem?_toList, hcs]; exact hu
theorem heap_new (w : World) (o : Obj) : (w.alloc o).heap[w.heap.size]? = some o := by
  show (w.heap.push o)[w.heap.size]? = some o
  simp
theorem lit1 (w : World) (o : Obj) : (w.alloc o).drew.heap[w.heap.size]? = some o := heap_new w o
theorem lit2 (w : World) (o p : Obj) : ((w.alloc o).alloc p).drew.heap[w.heap.size]? = some o := (Below.heap_alloc (w.alloc o) p _ (by simp)).trans (heap_new w o)
theorem lit3 (w : World) (o p : Obj) : ((w.alloc p).alloc o).drew.heap[w.heap.size + 1]? = some o := by
  have := heap_new (w.alloc p) o
  rw [show (w.alloc p).heap.size = w.heap.size + 1 by simp] at this
  exact this
theorem heap_keep {w w' : World} {B b : Nat} {o : Obj} (hb : Below B w w') (hB : b < B) (h : w.heap[b]? = some o) : w'.heap[b]? = some o := by rw [hb.block b hB]; exact h
theorem flat_snoc (xs : List α) (x : α) : (xs ++ [x]).flatMap enc = xs.flatMap enc ++ enc x := by simp
end
/-- One cell an element. -/
def fenc1 (x : Nat) : List Value := [.float .f64 x]
def ienc1 (k : IntKind) (x : Int) : List Value := [.int k x]
def senc1 (x : ByteArray) : List Value := [.string x]
def benc1 (x : Bool) : List Value := [.bool x]
theorem senc1_len (x : ByteArray) : (senc1 x).length = 1 := rfl
/-- A slice of strings: its cells one by one. -/
theorem Sl.strings {w : World} {v : Value} {xs : List ByteArray} (h : Sl senc1 w v xs) : ∃ a cap, v = .slice a xs.length cap ∧ (xs.length ≤ cap ∧ cap ≤ 9223372036854775807) ∧
    ∀ k, k < xs.length → ∃ b off, a = some ⟨b, off, none⟩ ∧ ∀ j (hj : j < xs.length), w.cell? ⟨b, off + j, none⟩ = some (.string xs[j]) := by
  obtain ⟨a, cap, rfl, hm, hn, hc⟩ := h
  refine ⟨a, cap, rfl, hm, fun k hk => ?_⟩
  obtain ⟨b, off, rfl, hd⟩ := hc (by intro e; simp [e] at hk)
  refine ⟨b, off, rfl, fun j hj => hd j _ ?_⟩
  have : xs.flatMap senc1 = xs.map Value.string := by
    clear hd hc hm hn hk hj
    induction xs with
    | nil => rfl
    | cons x xs ih => rw [List.flatMap_cons, ih]; rfl
  rw [this]; simp [hj]

theorem two_new (w : World) (u v : Value) (t : TypeId) : ∀ j x, [u, v][j]? = some x → (w.alloc (.cells #[u, v] t)).cell? ((⟨w.heap.size, 0, none⟩ : Addr).add j) = some x := by
  intro j x hj
  match j, hj with
  | 0, hj => simp at hj; subst hj; exact World.cell?_alloc_at _ _ _ _ rfl
  | 1, hj => simp at hj; subst hj; exact World.cell?_alloc_at _ _ _ _ rfl
end Go.Proofs.YtogjcaakfnfapaaGreatDoor
namespace Go.Proofs.YtogjcaakfnfapaaGreatDoor
open Go.RowKit
set_option linter.unusedVariables false
set_option linter.unusedSimpArgs false

theorem ret_f {a b : Nat} (h : a = b) : Ending.returned (.float .f64 a) = .returned (.float .f64 b) := by rw [h]

def fneg (b : Nat) : Nat := Op.negFloat .f64 b
@[go_sem] theorem run_neg_float {P : Program} (w : World) (b : Nat) : (Op.unary .neg (.float .f64 b)).run P w = .ok (.float .f64 (fneg b)) w := rfl

/-- The bits of a NaN. -/
def fnan (b : Nat) : Bool := FloatKind.f64.format.order b b != some .eq
def CN : Nat := 9221120237041090561
def canon (b : Nat) : Nat := if fnan b then CN else b

/-- A float operation's bits: of an invalid one those of the NaN that the tape gives. -/
def fop (op : BinOp) (x y : Nat) (w : World) : Nat :=
  match floatBits op .f64 x y with
  | some r => r
  | none => (Question.nanBits .f64 x y).cut (w.tape w.drawn (.nanBits .f64 x y))
def fdr (op : BinOp) (x y : Nat) : Nat := match floatBits op .f64 x y with | some _ => 0 | none => 1
theorem run_float_op {P : Program} (w : World) (op : BinOp) (hop : op = .add ∨ op = .sub ∨ op = .mul ∨ op = .quo) (t : TypeId) (x y : Nat) :
    (binOp op t (.float .f64 x) (.float .f64 y)).run P w = .ok (.float .f64 (fop op x y w)) (w.drewN (fdr op x y)) := by
  cases h : floatBits op .f64 x y with
  | some r => rw [run_float_arith w op t .f64 x y r h]; simp [fop, fdr, h, World.drewN_zero]
  | none =>
    simp only [fop, fdr, h]
    unfold floatBits at h
    rcases hop with rfl | rfl | rfl | rfl <;> simp only at h <;> simp [binOp, Op.floatArith, h, choose, Sem.run, Question.forced, World.drewN]
@[go_sem] theorem run_fadd {P : Program} (w : World) (t : TypeId) (x y : Nat) : (binOp .add t (.float .f64 x) (.float .f64 y)).run P w = .ok (.float .f64 (fop .add x y w)) (w.drewN (fdr .add x y)) := run_float_op w _ (by simp) t x y
@[go_sem] theorem run_fsub {P : Program} (w : World) (t : TypeId) (x y : Nat) : (binOp .sub t (.float .f64 x) (.float .f64 y)).run P w = .ok (.float .f64 (fop .sub x y w)) (w.drewN (fdr .sub x y)) := run_float_op w _ (by simp) t x y
@[go_sem] theorem run_fmul {P : Program} (w : World) (t : TypeId) (x y : Nat) : (binOp .mul t (.float .f64 x) (.float .f64 y)).run P w = .ok (.float .f64 (fop .mul x y w)) (w.drewN (fdr .mul x y)) := run_float_op w _ (by simp) t x y
@[go_sem] theorem run_fquo {P : Program} (w : World) (t : TypeId) (x y : Nat) : (binOp .quo t (.float .f64 x) (.float .f64 y)).run P w = .ok (.float .f64 (fop .quo x y w)) (w.drewN (fdr .quo x y)) := run_float_op w _ (by simp) t x y

/-- A float operation, made canonical: no tape in sight. -/
def cop (op : BinOp) (x y : Nat) : Nat :=
  match floatBits op .f64 x y with
  | some r => canon r
  | none => CN
theorem cut_nan (x y t : Nat) : fnan ((Question.nanBits .f64 x y).cut t) = true := by
  have h : ∃ s f : Nat, s < 2 ∧ f < 4503599627370495 ∧ (Question.nanBits .f64 x y).cut t = s * 9223372036854775808 + 9218868437227405312 + 1 + f :=
    ⟨t % 2, (t / 2) % 4503599627370495, by omega, by omega, rfl⟩
  obtain ⟨s, f, hs, hf, h⟩ := h
  rw [h]
  have e : Ieee.double.signWeight = 9223372036854775808 := rfl
  have e2 : Ieee.double.binade = 4503599627370496 := rfl
  have e3 : Ieee.double.infRung = 9218868437227405312 := rfl
  have hm : (s * 9223372036854775808 + 9218868437227405312 + 1 + f) % 9223372036854775808 = 9218868437227405313 + f := by omega
  have hr : ∃ n q, Ieee.double.read (s * 9223372036854775808 + 9218868437227405312 + 1 + f) = .nan n q := by
    unfold Ieee.Format.read
    rw [e, e2, e3, hm]
    dsimp only
    rw [if_neg (by omega), if_neg (by omega), if_neg (by omega)]
    exact ⟨_, _, rfl⟩
  obtain ⟨n, q, hr⟩ := hr
  unfold fnan
  show (Ieee.double.order _ _ != some .eq) = true
  unfold Ieee.Format.order
  rw [hr]
  rfl
theorem canon_fop (op : BinOp) (x y : Nat) (w : World) : canon (fop op x y w) = cop op x y := by
  unfold fop cop
  cases floatBits op .f64 x y with
  | some r => rfl
  | none => simp only [canon, cut_nan, if_true]

theorem read_nan {b : Nat} (h : fnan b = true) : ∃ n q, Ieee.double.read b = .nan n q := by
  unfold fnan at h
  change (Ieee.double.order b b != some .eq) = true at h
  unfold Ieee.Format.order at h
  cases hr : Ieee.double.read b with
  | nan n q => exact ⟨n, q, rfl⟩
  | infinity s => rw [hr] at h; cases s <;> simp [Ieee.Datum.order] at h
  | number s m i => rw [hr] at h; simp [Ieee.Datum.order] at h
theorem read_number {b : Nat} (h : fnan b = false) : ∀ n q, Ieee.double.read b ≠ .nan n q := by
  intro n q hr
  unfold fnan at h
  change (Ieee.double.order b b != some .eq) = false at h
  unfold Ieee.Format.order at h
  rw [hr] at h
  simp [Ieee.Datum.order] at h
theorem CN_nan : fnan CN = true := by decide +kernel
theorem canon_nan {b : Nat} (h : fnan b = true) : canon b = CN := by simp [canon, h]
theorem canon_num {b : Nat} (h : fnan b = false) : canon b = b := by simp [canon, h]
theorem fnan_canon (b : Nat) : fnan (canon b) = fnan b := by
  cases h : fnan b
  · rw [canon_num h, h]
  · rw [canon_nan h, CN_nan]
theorem canon_canon (b : Nat) : canon (canon b) = canon b := by
  cases h : fnan b
  · rw [canon_num h]; exact canon_num h
  · rw [canon_nan h]; exact canon_nan CN_nan
theorem sum_nan_l (n : Bool) (q : Nat) (d : Ieee.Datum) : Ieee.Datum.sum (.nan n q) d = none := by cases d <;> rfl
theorem sum_nan_r (n : Bool) (q : Nat) (d : Ieee.Datum) : Ieee.Datum.sum d (.nan n q) = none := by cases d <;> rfl
theorem product_nan_l (n : Bool) (q : Nat) (d : Ieee.Datum) : Ieee.Datum.product (.nan n q) d = none := by cases d <;> rfl
theorem product_nan_r (n : Bool) (q : Nat) (d : Ieee.Datum) : Ieee.Datum.product d (.nan n q) = none := by cases d <;> rfl
theorem quotient_nan_l (k : Nat) (n : Bool) (q : Nat) (d : Ieee.Datum) : Ieee.Datum.quotient k (.nan n q) d = none := by cases d <;> rfl
theorem quotient_nan_r (k : Nat) (n : Bool) (q : Nat) (d : Ieee.Datum) : Ieee.Datum.quotient k d (.nan n q) = none := by cases d <;> rfl
theorem order_nan_l (n : Bool) (q : Nat) (d : Ieee.Datum) : Ieee.Datum.order (.nan n q) d = none := by cases d <;> rfl
theorem order_nan_r (n : Bool) (q : Nat) (d : Ieee.Datum) : Ieee.Datum.order d (.nan n q) = none := by cases d <;> rfl
theorem floatBits_nan_l {x : Nat} (op : BinOp) (y : Nat) (h : fnan x = true) : floatBits op .f64 x y = none := by
  obtain ⟨n, q, hr⟩ := read_nan h
  unfold floatBits
  cases op <;> first | rfl | (show Option.map _ _ = none; rw [show FloatKind.f64.format = Ieee.double from rfl, hr]; simp only [sum_nan_l, product_nan_l, quotient_nan_l, Option.map_none])
theorem floatBits_nan_r {y : Nat} (op : BinOp) (x : Nat) (h : fnan y = true) : floatBits op .f64 x y = none := by
  obtain ⟨n, q, hr⟩ := read_nan h
  unfold floatBits
  cases op <;> first | rfl | (show Option.map _ _ = none; rw [show FloatKind.f64.format = Ieee.double from rfl, hr]; simp only [Ieee.Datum.opposite, sum_nan_r, product_nan_r, quotient_nan_r, Option.map_none])
theorem cop_nan_l {x : Nat} (op : BinOp) (y : Nat) (h : fnan x = true) : cop op x y = CN := by simp [cop, floatBits_nan_l op y h]
theorem cop_nan_r {y : Nat} (op : BinOp) (x : Nat) (h : fnan y = true) : cop op x y = CN := by simp [cop, floatBits_nan_r op x h]
/-- A float operation asks its operands only up to which NaN they are. -/
theorem cop_congr (op : BinOp) {x x' y y' : Nat} (hx : canon x = canon x') (hy : canon y = canon y') : cop op x y = cop op x' y' := by
  have nx : fnan x = fnan x' := by rw [← fnan_canon x, hx, fnan_canon]
  have ny : fnan y = fnan y' := by rw [← fnan_canon y, hy, fnan_canon]
  cases h : fnan x
  · rw [canon_num h, canon_num (nx ▸ h)] at hx
    subst hx
    cases h2 : fnan y
    · rw [canon_num h2, canon_num (ny ▸ h2)] at hy
      rw [hy]
    · rw [cop_nan_r op _ h2, cop_nan_r op _ (ny ▸ h2)]
  · rw [cop_nan_l op _ h, cop_nan_l op _ (nx ▸ h)]
theorem canon_cop (op : BinOp) (x y : Nat) : canon (cop op x y) = cop op x y := by
  unfold cop; split
  · exact canon_canon _
  · exact canon_nan CN_nan
theorem cop_canon_l (op : BinOp) (x y : Nat) : cop op (canon x) y = cop op x y := cop_congr op (canon_canon x) rfl
theorem cop_canon_r (op : BinOp) (x y : Nat) : cop op x (canon y) = cop op x y := cop_congr op rfl (canon_canon y)
theorem cop_fop_l (op o : BinOp) (x y z : Nat) (w : World) : cop op (fop o x y w) z = cop op (cop o x y) z := by rw [← cop_canon_l, canon_fop]
theorem cop_fop_r (op o : BinOp) (x y z : Nat) (w : World) : cop op z (fop o x y w) = cop op z (cop o x y) := by rw [← cop_canon_r, canon_fop]
/-- How two floats stand to each other. -/
def fo (a b : Nat) : Option Ordering := FloatKind.f64.format.order a b
theorem fo_nan_l {x : Nat} (y : Nat) (h : fnan x = true) : fo x y = none := by
  obtain ⟨n, q, hr⟩ := read_nan h
  show Ieee.Datum.order _ _ = none
  rw [show FloatKind.f64.format = Ieee.double from rfl, hr, order_nan_l]
theorem fo_nan_r {y : Nat} (x : Nat) (h : fnan y = true) : fo x y = none := by
  obtain ⟨n, q, hr⟩ := read_nan h
  show Ieee.Datum.order _ _ = none
  rw [show FloatKind.f64.format = Ieee.double from rfl, hr, order_nan_r]
theorem fo_congr {x x' y y' : Nat} (hx : canon x = canon x') (hy : canon y = canon y') : fo x y = fo x' y' := by
  have nx : fnan x = fnan x' := by rw [← fnan_canon x, hx, fnan_canon]
  have ny : fnan y = fnan y' := by rw [← fnan_canon y, hy, fnan_canon]
  cases h : fnan x
  · rw [canon_num h, canon_num (nx ▸ h)] at hx
    subst hx
    cases h2 : fnan y
    · rw [canon_num h2, canon_num (ny ▸ h2)] at hy
      rw [hy]
    · rw [fo_nan_r _ h2, fo_nan_r _ (ny ▸ h2)]
  · rw [fo_nan_l _ h, fo_nan_l _ (nx ▸ h)]
theorem fo_canon_l (x y : Nat) : fo (canon x) y = fo x y := fo_congr (canon_canon x) rfl
theorem fo_canon_r (x y : Nat) : fo x (canon y) = fo x y := fo_congr rfl (canon_canon y)

theorem wf_min {k : IntKind} {a : Int} (h : (Lit.int k a).wf = true) : k.min ≤ a ∧ a ≤ k.max := by
  simp only [Lit.wf, Bool.and_eq_true, decide_eq_true_eq] at h
  exact h
theorem i64_in {a : Int} (h : (Lit.int .i64 a).wf = true) : -9223372036854775808 ≤ a ∧ a ≤ 9223372036854775807 := wf_min h
theorem u64_in {a : Int} (h : (Lit.int .u64 a).wf = true) : 0 ≤ a ∧ a ≤ 18446744073709551615 := wf_min h
theorem i16_in {a : Int} (h : (Lit.int .i16 a).wf = true) : -32768 ≤ a ∧ a ≤ 32767 := wf_min h
theorem i8_in {a : Int} (h : (Lit.int .i8 a).wf = true) : -128 ≤ a ∧ a ≤ 127 := wf_min h
theorem u8_in {a : Int} (h : (Lit.int .u8 a).wf = true) : 0 ≤ a ∧ a ≤ 255 := wf_min h
theorem u64_nat {a : Int} (h : (Lit.int .u64 a).wf = true) : ∃ x : Nat, a = x ∧ x < 18446744073709551616 := by
  have hb := u64_in h
  exact ⟨a.toNat, by omega, by omega⟩

/-- The same behind a quiet region: a callee that draws (qd), a callee that leaves the world alone (qs). -/
theorem qd {P : Program} {f : FuncId} {args : Array Value} {w : World} {a n : Nat} {v : Value}
    (h : Calls P f args (w.drewN (a + n)) fun e w' => e = .returned v ∧ ∃ m, w' = (w.drewN (a + n)).drewN m) :
    Calls P f args (w.drewN (a + n)) fun e w'' => e = .returned v ∧ ∃ m, w'' = w.drewN (a + m) :=
  h.mono fun _ _ ⟨he, m, hm⟩ => ⟨he, n + m, by rw [hm, World.drewN_drewN, Nat.add_assoc]⟩
/-- A row of floats in memory. -/
def FRow (w : World) (a : Option Addr) (xs : List Nat) : Prop :=
  xs.length ≤ 140737488351232 ∧ (xs ≠ [] → ∃ b off, a = some ⟨b, off, none⟩ ∧ ∀ k, k < xs.length → w.cell? ⟨b, off + k, none⟩ = some (.float .f64 (xs.getD k 0)))
theorem FRow.below {w w' : World} {B : Nat} {a : Option Addr} {xs : List Nat} (h : FRow w a xs) (hb : Below B w w') (hB : w.heap.size ≤ B) : FRow w' a xs := by
  refine ⟨h.1, fun hx => ?_⟩
  obtain ⟨b, off, rfl, hc⟩ := h.2 hx
  refine ⟨b, off, rfl, fun k hk => ?_⟩
  have := hc k hk
  rw [hb.cell (by have := World.block_lt_of_cell? w _ this; simp only at this ⊢; omega)]
  exact this
theorem FRow.drewN {w : World} {a : Option Addr} {xs : List Nat} (h : FRow w a xs) (n : Nat) : FRow (w.drewN n) a xs := h
/-- The k-th float of a list. -/
def fx (xs : List Nat) (k : Nat) : Nat := xs.getD k 0

theorem call_frombits (n : Int) (w : World) : (callFunc 70 #[.int .u64 n]).run Tryz.prog w = .ok (.value (.float .f64 n.toNat)) w := by
  rw [run_callFunc_extern (e := Extern.MathFloatBits.float64frombits) Tryz.func70 (by kernel_rfl) (by kernel_rfl) (by kernel_rfl) (by kernel_rfl)]
  rfl
theorem call_bits (b : Nat) (w : World) : (callFunc 84 #[.float .f64 b]).run Tryz.prog w = .ok (.value (.int .u64 b)) w := by
  rw [run_callFunc_extern (e := Extern.MathFloatBits.float64bits) Tryz.func84 (by kernel_rfl) (by kernel_rfl) (by kernel_rfl) (by kernel_rfl)]
  rfl

theorem canon_any (b : Nat) (w : World) : Calls Tryz.prog 46 #[.float .f64 b] w fun e w' => e = .returned (.float .f64 (canon b)) ∧ w = w' := by
  have hf := call_frombits
  cases h : (FloatKind.f64.format.order b b != some .eq)
  · go_enter Tryz.func46, Tryz.ntmps46
    go_wp2
    go_ret
    exact ⟨by simp [canon, fnan, h], rfl⟩
  · go_enter Tryz.func46, Tryz.ntmps46
    go_wp2
    go_ret
    exact ⟨by simp [canon, fnan, h, CN], rfl⟩

def fsame (a b : Nat) : Bool := canon a == canon b
theorem natbeq (a b : Nat) : ((a : Int) == (b : Int)) = (a == b) := by
  rw [Bool.eq_iff_iff]; simp; omega

theorem rcanon_any (b : Nat) (w : World) : Calls Tryz.prog 63 #[.float .f64 b] w fun e w' => e = .returned (.float .f64 (canon b)) ∧ w = w' := by
  have hf := call_frombits
  cases h : (FloatKind.f64.format.order b b != some .eq)
  · go_enter Tryz.func63, Tryz.ntmps63
    go_wp2
    go_ret
    exact ⟨by simp [canon, fnan, h], rfl⟩
  · go_enter Tryz.func63, Tryz.ntmps63
    go_wp2
    go_ret
    exact ⟨by simp [canon, fnan, h, CN], rfl⟩
theorem rbits_any (b : Nat) (w : World) : Calls Tryz.prog 64 #[.float .f64 b] w fun e w' => e = .returned (.int .u64 (canon b)) ∧ w = w' := by
  have hf := call_bits
  go_enter Tryz.func64, Tryz.ntmps64
  go_wp2_with (go_at_call 63; refine (rcanon_any _ _).mono ?_; rintro e w' ⟨rfl, rfl⟩)
  go_ret
  exact ⟨rfl, rfl⟩
theorem rfsame_any (a b : Nat) (w : World) : Calls Tryz.prog 34 #[.float .f64 a, .float .f64 b] w fun e w' => e = .returned (.bool (fsame a b)) ∧ w = w' := by
  go_enter Tryz.func34, Tryz.ntmps34
  go_wp2_with (go_at_call 64; refine (rbits_any _ _).mono ?_; rintro e w' ⟨rfl, rfl⟩)
  go_ret
  refine ⟨?_, rfl⟩
  unfold fsame
  rw [← natbeq]
  rfl
end Go.Proofs.YtogjcaakfnfapaaGreatDoor
namespace Go.Proofs.YtogjcaakfnfapaaGreatDoor
open Go.RowKit
set_option linter.unusedVariables false
set_option linter.unusedSimpArgs false

theorem fenc1_len (x : Nat) : (fenc1 x).length = 1 := rfl
theorem flat1 (xs : List Nat) : xs.flatMap fenc1 = xs.map (Value.float .f64) := by
  induction xs with
  | nil => rfl
  | cons x xs ih => rw [List.flatMap_cons, ih]; rfl
theorem fx_at {xs : List Nat} {k : Nat} (h : k < xs.length) : fx xs k = xs[k] := by simp [fx, h]
/-- A slice of floats: its cells one by one. -/
theorem Sl.floats {w : World} {v : Value} {xs : List Nat} (h : Sl fenc1 w v xs) : ∃ a cap, v = .slice a xs.length cap ∧ (xs.length ≤ cap ∧ cap ≤ 9223372036854775807) ∧
    ∀ k, k < xs.length → ∃ b off, a = some ⟨b, off, none⟩ ∧ ∀ j, j < xs.length → w.cell? ⟨b, off + j, none⟩ = some (.float .f64 (fx xs j)) := by
  obtain ⟨a, cap, rfl, hm, hn, hc⟩ := h
  refine ⟨a, cap, rfl, hm, fun k hk => ?_⟩
  obtain ⟨b, off, rfl, hd⟩ := hc (by intro e; simp [e] at hk)
  refine ⟨b, off, rfl, fun j hj => hd j _ ?_⟩
  rw [flat1, fx_at hj]; simp [hj]
/-- The sum from the first on. -/
def fsum : List Nat → Nat
  | [] => 0
  | x :: l => l.foldl (cop .add) (canon x)
theorem foldl_snoc {α β : Type} (f : β → α → β) (b : β) (l : List α) (k : Nat) (h : k < l.length) : (l.take (k + 1)).foldl f b = f ((l.take k).foldl f b) l[k] := by
  rw [List.take_succ_eq_append_getElem h, List.foldl_append]; rfl

/-- The least, or the greatest, that is no NaN. -/
def lstep (most : Bool) (o x : Nat) : Nat := if fnan o || (!most && fo x o == some .lt) || (most && fo x o == some .gt) then x else o
def least (most : Bool) : List Nat → Nat
  | [] => 0
  | x :: l => l.foldl (lstep most) x

theorem fo_some {x y : Nat} (hx : fnan x = false) (hy : fnan y = false) : ∃ o, fo x y = some o := by
  have h1 := read_number hx
  have h2 := read_number hy
  show ∃ o, Ieee.Datum.order (Ieee.double.read x) (Ieee.double.read y) = some o
  cases e1 : Ieee.double.read x with
  | nan n q => exact (h1 n q e1).elim
  | number s m p => cases e2 : Ieee.double.read y with
    | nan n q => exact (h2 n q e2).elim
    | number t n q => exact ⟨_, rfl⟩
    | infinity t => exact ⟨_, rfl⟩
  | infinity s => cases e2 : Ieee.double.read y with
    | nan n q => exact (h2 n q e2).elim
    | number t n q => exact ⟨_, rfl⟩
    | infinity t => exact ⟨_, rfl⟩
theorem fo_self {x : Nat} (hx : fnan x = false) : FloatKind.f64.format.order x x = some .eq := by unfold fnan at hx; simpa using hx
theorem fo_self_nan {x : Nat} (hx : fnan x = true) : FloatKind.f64.format.order x x = none := fo_nan_l x hx
/-- The five ways two floats stand to each other. -/
theorem fsum_congr {xs ys : List Nat} (h : xs.map canon = ys.map canon) : fsum xs = fsum ys := by
  have key : ∀ (l m : List Nat) (a : Nat), l.map canon = m.map canon → l.foldl (cop .add) a = m.foldl (cop .add) a := by
    intro l
    induction l with
    | nil => intro m a h; cases m with | nil => rfl | cons => simp at h
    | cons x l ih =>
      intro m a h
      cases m with
      | nil => simp at h
      | cons y m =>
        simp only [List.map_cons, List.cons.injEq] at h
        simp only [List.foldl_cons]
        rw [cop_congr .add (rfl : canon a = canon a) h.1]
        exact ih m _ h.2
  cases xs with
  | nil => cases ys with | nil => rfl | cons => simp at h
  | cons x l =>
    cases ys with
    | nil => simp at h
    | cons y m =>
      simp only [List.map_cons, List.cons.injEq] at h
      show l.foldl _ (canon x) = m.foldl _ (canon y)
      rw [h.1]; exact key l m _ h.2
end Go.Proofs.YtogjcaakfnfapaaGreatDoor
namespace Go.Proofs.YtogjcaakfnfapaaGreatDoor
set_option linter.unusedVariables false
set_option linter.unusedSimpArgs false
open Ieee

theorem log2_mul_pow (n k : Nat) (h : n ≠ 0) : (n * 2 ^ k).log2 = n.log2 + k := by
  have h1 : 2 ^ (n.log2 + k) ≤ n * 2 ^ k := by
    rw [Nat.pow_add]; exact Nat.mul_le_mul_right _ (Nat.log2_self_le h)
  have h2 : n * 2 ^ k < 2 ^ (n.log2 + k + 1) := by
    have := Nat.lt_log2_self (n := n)
    calc n * 2 ^ k < 2 ^ (n.log2 + 1) * 2 ^ k := (Nat.mul_lt_mul_right (Nat.two_pow_pos _)).2 this
      _ = 2 ^ (n.log2 + k + 1) := by rw [← Nat.pow_add]; congr 1; omega
  have hne : n * 2 ^ k ≠ 0 := Nat.mul_ne_zero h (Nat.pos_iff_ne_zero.1 (Nat.two_pow_pos _))
  rw [Nat.log2_eq_iff hne]
  exact ⟨h1, h2⟩

theorem cut_zero (neg : Bool) (n : Nat) : Toward.even.cut neg n 0 = n := by
  simp [Toward.cut, Nat.mod_one]

/-- Cutting off digits that are all nought. -/
theorem cut_exact (neg : Bool) (n k : Nat) (h : n ≠ 0) : Toward.even.cut neg (n * 2 ^ k) k = n := by
  have hm : min k ((n * 2 ^ k).log2 + 2) = k := by rw [log2_mul_pow n k h]; omega
  unfold Toward.cut
  rw [hm]
  simp only [Nat.one_shiftLeft]
  rw [Nat.mul_div_cancel _ (Nat.two_pow_pos k), Nat.mul_mod_left]
  have : 0 < 2 ^ k := Nat.two_pow_pos k
  simp

/-- Cutting commutes with scaling. -/
theorem cut_scale (neg : Bool) (n k d : Nat) (h : n ≠ 0) : Toward.even.cut neg (n * 2 ^ k) (d + k) = Toward.even.cut neg n d := by
  have hm : min (d + k) ((n * 2 ^ k).log2 + 2) = min d (n.log2 + 2) + k := by rw [log2_mul_pow n k h]; omega
  unfold Toward.cut
  rw [hm]
  simp only [Nat.one_shiftLeft, Nat.pow_add]
  generalize 2 ^ min d (n.log2 + 2) = g
  have hk : 0 < 2 ^ k := Nat.two_pow_pos k
  generalize 2 ^ k = q at hk
  rw [Nat.mul_div_mul_right _ _ hk, Nat.mul_mod_mul_right]
  have e1 : (decide (g * q < 2 * (n % g * q))) = decide (g < 2 * (n % g)) := by
    rw [← Nat.mul_assoc]
    simp [Nat.mul_lt_mul_right hk]
  have e2 : (g * q == 2 * (n % g * q)) = (g == 2 * (n % g)) := by
    rw [← Nat.mul_assoc, Bool.eq_iff_iff]
    simp [Nat.mul_left_inj (Nat.pos_iff_ne_zero.1 hk)]
  rw [e1, e2]

theorem nearest_shift (f : Format) (neg : Bool) (m k : Nat) (p : Int) : f.nearest neg (m * 2 ^ k) p = f.nearest neg m (p + k) := by
  by_cases h : m = 0
  · subst h; simp [Format.nearest]
  have hne : m * 2 ^ k ≠ 0 := Nat.mul_ne_zero h (Nat.pos_iff_ne_zero.1 (Nat.two_pow_pos _))
  unfold Format.nearest
  rw [if_neg hne, if_neg h, log2_mul_pow m k h]
  have e : p + ((m.log2 + k : Nat) : Int) - f.fractionBits = p + k + (m.log2 : Int) - f.fractionBits := by omega
  rw [e]
  generalize max (p + k + (m.log2 : Int) - f.fractionBits) f.leastPlace = last
  have key : Toward.even.cut neg ((m * 2 ^ k) <<< (p - last).toNat) (last - p).toNat = Toward.even.cut neg (m <<< (p + k - last).toNat) (last - (p + k)).toNat := by
    simp only [Nat.shiftLeft_eq]
    by_cases h1 : last ≤ p
    · rw [show (last - p).toNat = 0 by omega, show (last - (p + k)).toNat = 0 by omega, cut_zero, cut_zero, Nat.mul_assoc, ← Nat.pow_add]
      congr 2; omega
    · rw [show (p - last).toNat = 0 by omega, Nat.pow_zero, Nat.mul_one]
      by_cases h2 : last ≤ p + k
      · rw [show (last - (p + k)).toNat = 0 by omega, cut_zero]
        obtain ⟨d, hd⟩ : ∃ d, (last - p).toNat = d := ⟨_, rfl⟩
        rw [hd, show k = (k - d) + d by omega, Nat.pow_add, ← Nat.mul_assoc, cut_exact _ _ _ (Nat.mul_ne_zero h (Nat.pos_iff_ne_zero.1 (Nat.two_pow_pos _)))]
        congr 2; omega
      · rw [show (p + k - last).toNat = 0 by omega, Nat.pow_zero, Nat.mul_one]
        rw [show (last - p).toNat = (last - (p + k)).toNat + k by omega, cut_scale _ _ _ _ h]
  dsimp only
  rw [key]

/-- What a number of units (of 2^-1074) is rounded to. -/
def nr (neg : Bool) (u : Nat) : Nat := double.nearest neg u (-1074)
theorem write_units (neg : Bool) (m : Nat) (p : Int) (h : -1074 ≤ p) : double.write (.number neg m p) = nr neg (m * 2 ^ (p + 1074).toNat) := by
  show double.nearest neg m p = double.nearest neg _ (-1074)
  rw [nearest_shift]
  congr 1; omega

/-- A finite double as a whole number of units. -/
def sgn (neg : Bool) (u : Nat) : Int := if neg then -(u : Int) else u
def Val (x : Nat) (s : Bool) (u : Nat) : Prop := ∃ m p, double.read x = .number s m p ∧ -1074 ≤ p ∧ u = m * 2 ^ (p + 1074).toNat
theorem read_place {x : Nat} {s : Bool} {m : Nat} {p : Int} (h : double.read x = .number s m p) : -1074 ≤ p := by
  have e : double.leastPlace = -1074 := by decide +kernel
  unfold Format.read at h
  rw [e] at h
  dsimp only at h
  split at h
  · injection h with _ _ h; omega
  · split at h
    · injection h with _ _ h; omega
    · split at h <;> cases h
theorem signed_scale (s : Bool) (m a b : Nat) : signed s m (a + b) = signed s m a * 2 ^ b := by
  unfold signed
  rw [Nat.shiftLeft_add, Nat.shiftLeft_eq (m <<< a)]
  split <;> simp [Int.neg_mul]
theorem signed_units (s : Bool) (m : Nat) (p base : Int) (hb : -1074 ≤ base) (hp : base ≤ p) : signed s m (p - base).toNat * 2 ^ (base + 1074).toNat = sgn s (m * 2 ^ (p + 1074).toNat) := by
  rw [← signed_scale, show (p - base).toNat + (base + 1074).toNat = (p + 1074).toNat by omega]
  unfold signed sgn
  rw [Nat.shiftLeft_eq]
theorem sum_units {x y : Nat} {s t : Bool} {a b : Nat} (hx : Val x s a) (hy : Val y t b) :
    double.add x y = some (nr (if sgn s a + sgn t b = 0 then s && t else sgn s a + sgn t b < 0) (sgn s a + sgn t b).natAbs) := by
  obtain ⟨m, i, hx, hi, rfl⟩ := hx
  obtain ⟨n, j, hy, hj, rfl⟩ := hy
  unfold Format.add
  rw [hx, hy]
  simp only [Datum.sum, Option.map_some]
  rw [write_units _ _ _ (by omega)]
  have e1 := signed_units s m i (min i j) (by omega) (by omega)
  have e2 := signed_units t n j (min i j) (by omega) (by omega)
  generalize signed s m (i - min i j).toNat = A at *
  generalize signed t n (j - min i j).toNat = B at *
  have hq : (0 : Int) < 2 ^ (min i j + 1074).toNat := Int.pow_pos (by decide)
  rw [← e1, ← e2, ← Int.add_mul, Int.natAbs_mul]
  have hq2 : ((2 : Int) ^ (min i j + 1074).toNat).natAbs = 2 ^ (min i j + 1074).toNat := by
    rw [Int.natAbs_pow]; rfl
  rw [hq2]
  have c1 : ((A + B) * 2 ^ (min i j + 1074).toNat = 0) ↔ (A + B = 0) := by
    rw [Int.mul_eq_zero]; constructor
    · rintro (h | h)
      · exact h
      · omega
    · exact Or.inl
  have c2 : ((A + B) * 2 ^ (min i j + 1074).toNat < 0) ↔ (A + B < 0) := by
    constructor
    · intro h
      rcases Int.lt_or_le (A + B) 0 with h' | h'
      · exact h'
      · have := Int.mul_nonneg h' (Int.le_of_lt hq); omega
    · intro h; exact Int.mul_neg_of_neg_of_pos h hq
  by_cases h0 : A + B = 0
  · rw [if_pos h0, if_pos (c1.2 h0)]
  · rw [if_neg h0, if_neg (fun h => h0 (c1.1 h))]
    congr 2
    simp [c2]
theorem order_units {x y : Nat} {s t : Bool} {a b : Nat} (hx : Val x s a) (hy : Val y t b) : double.order x y = some (compare (sgn s a) (sgn t b)) := by
  obtain ⟨m, i, hx, hi, rfl⟩ := hx
  obtain ⟨n, j, hy, hj, rfl⟩ := hy
  unfold Format.order
  rw [hx, hy]
  simp only [Datum.order]
  have e1 := signed_units s m i (min i j) (by omega) (by omega)
  have e2 := signed_units t n j (min i j) (by omega) (by omega)
  generalize signed s m (i - min i j).toNat = A at *
  generalize signed t n (j - min i j).toNat = B at *
  have hq : (0 : Int) < 2 ^ (min i j + 1074).toNat := Int.pow_pos (by decide)
  rw [← e1, ← e2]
  generalize (2 : Int) ^ (min i j + 1074).toNat = q at hq
  congr 1
  have lt : A * q < B * q ↔ A < B := Int.mul_lt_mul_right hq
  have eq : A * q = B * q ↔ A = B := Int.mul_eq_mul_right_iff (by omega)
  simp only [compare, compareOfLessAndEq, lt, eq]

theorem read_word (s : Bool) (r : Nat) (h : r < 2 ^ 63) :
    double.read (double.word s r) = if r < 2 ^ 52 then .number s r (-1074) else if r < 2047 * 2 ^ 52 then .number s (2 ^ 52 + r % 2 ^ 52) (-1074 + (r / 2 ^ 52 - 1 : Nat)) else if r = 2047 * 2 ^ 52 then .infinity s else .nan s (r - 2047 * 2 ^ 52) := by
  have e1 : double.signWeight = 2 ^ 63 := rfl
  have e2 : double.binade = 2 ^ 52 := rfl
  have e3 : double.infRung = 2047 * 2 ^ 52 := by decide +kernel
  have e4 : double.leastPlace = -1074 := by decide +kernel
  have hw : double.word s r / 2 ^ 63 % 2 = s.toNat ∧ double.word s r % 2 ^ 63 = r := by
    unfold Format.word
    rw [e1]
    cases s
    · simp only [Bool.false_eq_true, if_false, Bool.toNat_false]; omega
    · simp only [if_true, Bool.toNat_true]; omega
  have hs : (s.toNat == 1) = s := by cases s <;> rfl
  unfold Format.read
  rw [e1, e2, e3, e4, hw.1, hw.2, hs]

/-- A number of units that a double can bear is borne as it is. -/
theorem val_nr (s : Bool) (a e : Nat) (ha : a < 2 ^ 53) (he : a.log2 + e ≤ 2097) : Val (nr s (a * 2 ^ e)) s (a * 2 ^ e) := by
  have e2 : double.binade = 2 ^ 52 := rfl
  have e3 : double.infRung = 2047 * 2 ^ 52 := by decide +kernel
  have e4 : double.leastPlace = -1074 := by decide +kernel
  have e5 : (double.fractionBits : Int) = 52 := rfl
  unfold nr
  rw [nearest_shift]
  by_cases h0 : a = 0
  · subst h0
    refine ⟨0, -1074, ?_, by omega, by simp⟩
    unfold Format.nearest
    rw [if_pos rfl, read_word _ _ (by omega), if_pos (by omega)]
  have hL : a.log2 < 53 := (Nat.log2_lt h0).2 ha
  have hlo : 2 ^ a.log2 ≤ a := Nat.log2_self_le h0
  have hhi : a < 2 ^ (a.log2 + 1) := Nat.lt_log2_self
  unfold Format.nearest
  rw [if_neg h0, e2, e3, e4, e5]
  dsimp only
  by_cases hn : 52 ≤ a.log2 + e
  · rw [show max (-1074 + (e : Int) + (a.log2 : Int) - 52) (-1074) = -1074 + (e : Int) + (a.log2 : Int) - 52 by omega]
    rw [show (-1074 + (e : Int) - (-1074 + (e : Int) + (a.log2 : Int) - 52)).toNat = 52 - a.log2 by omega]
    rw [show ((-1074 + (e : Int) + (a.log2 : Int) - 52) - (-1074 + (e : Int))).toNat = 0 by omega]
    rw [cut_zero, Nat.shiftLeft_eq]
    rw [show (-1074 + (e : Int) + (a.log2 : Int) - 52 - -1074).toNat = e + a.log2 - 52 by omega]
    have hK1 : 2 ^ 52 ≤ a * 2 ^ (52 - a.log2) := by
      calc 2 ^ 52 = 2 ^ a.log2 * 2 ^ (52 - a.log2) := by rw [← Nat.pow_add]; congr 1; omega
        _ ≤ _ := Nat.mul_le_mul_right _ hlo
    have hK2 : a * 2 ^ (52 - a.log2) < 2 ^ 53 := by
      calc a * 2 ^ (52 - a.log2) < 2 ^ (a.log2 + 1) * 2 ^ (52 - a.log2) := (Nat.mul_lt_mul_right (Nat.two_pow_pos _)).2 hhi
        _ = 2 ^ 53 := by rw [← Nat.pow_add]; congr 1; omega
    have hK3 : a * 2 ^ (52 - a.log2) * 2 ^ (e + a.log2 - 52) = a * 2 ^ e := by
      rw [Nat.mul_assoc, ← Nat.pow_add]; congr 2; omega
    generalize a * 2 ^ (52 - a.log2) = K at *
    obtain ⟨q, hq⟩ : ∃ q, e + a.log2 - 52 = q := ⟨_, rfl⟩
    rw [hq] at hK3 ⊢
    have hq2 : q ≤ 2045 := by omega
    unfold Val
    rw [Nat.min_eq_left (by omega), read_word _ _ (by omega), if_neg (by omega), if_pos (by omega)]
    refine ⟨_, _, rfl, by omega, ?_⟩
    rw [show (q * 2 ^ 52 + K) % 2 ^ 52 = K - 2 ^ 52 by omega, show (q * 2 ^ 52 + K) / 2 ^ 52 - 1 = q by omega]
    rw [show 2 ^ 52 + (K - 2 ^ 52) = K by omega, show (-1074 + (q : Int) + 1074).toNat = q by omega, hK3]
  · rw [show max (-1074 + (e : Int) + (a.log2 : Int) - 52) (-1074) = -1074 by omega]
    rw [show (-1074 + (e : Int) - -1074).toNat = e by omega, show ((-1074 : Int) - (-1074 + (e : Int))).toNat = 0 by omega]
    rw [cut_zero, Nat.shiftLeft_eq]
    have hr : a * 2 ^ e < 2 ^ 52 := by
      calc a * 2 ^ e < 2 ^ (a.log2 + 1) * 2 ^ e := (Nat.mul_lt_mul_right (Nat.two_pow_pos _)).2 hhi
        _ = 2 ^ (a.log2 + 1 + e) := by rw [← Nat.pow_add]
        _ ≤ 2 ^ 52 := Nat.pow_le_pow_right (by decide) (by omega)
    generalize a * 2 ^ e = U at *
    unfold Val
    rw [show ((-1074 : Int) - -1074).toNat * 2 ^ 52 + U = U by simp, Nat.min_eq_left (by omega), read_word _ _ (by omega), if_pos hr]
    exact ⟨U, -1074, rfl, by omega, by simp⟩

/-- How many units are one. -/
def TE : Nat := 1074
def TU : Nat := 2 ^ TE
theorem TU_pos : 0 < TU := Nat.two_pow_pos _
/-- A whole number as a double. -/
def fenc (n : Int) : Nat := Go.floatOfInt .f64 n
theorem fenc_nr (n : Int) : fenc n = nr (n < 0) (n.natAbs * TU) := by
  have h : fenc n = double.write (.number (n < 0) n.natAbs 0) := rfl
  have e : ((0 : Int) + 1074).toNat = TE := rfl
  rw [h, write_units _ _ _ (by omega), e]
  rfl
theorem fenc_val (n : Int) (h : n.natAbs < 2 ^ 53) : Val (fenc n) (n < 0) (n.natAbs * TU) := by
  rw [fenc_nr]
  refine val_nr _ _ TE h ?_
  by_cases h0 : n.natAbs = 0
  · rw [h0]; decide
  · have := (Nat.log2_lt h0).2 h; unfold TE; omega
theorem sgn_fenc (n : Int) : sgn (decide (n < 0)) (n.natAbs * TU) = n * (TU : Int) := by
  unfold sgn
  generalize TU = T
  by_cases h : n < 0
  · simp only [h, decide_true, if_true]
    rw [Int.natCast_mul, Int.ofNat_natAbs_of_nonpos (by omega), Int.neg_mul, Int.neg_neg]
  · simp only [h, decide_false, Bool.false_eq_true, if_false]
    rw [Int.natCast_mul, Int.natAbs_of_nonneg (by omega)]
theorem fenc_add (a b : Int) (ha : a.natAbs < 2 ^ 53) (hb : b.natAbs < 2 ^ 53) : double.add (fenc a) (fenc b) = some (fenc (a + b)) := by
  rw [sum_units (fenc_val a ha) (fenc_val b hb), sgn_fenc, sgn_fenc, ← Int.add_mul, fenc_nr, Int.natAbs_mul, Int.natAbs_natCast]
  have hT := TU_pos
  generalize TU = T at hT
  have hT' : (0 : Int) < T := by omega
  congr 2
  by_cases h0 : a + b = 0
  · rw [h0, Int.zero_mul, if_pos rfl]
    simp
    omega
  · rw [if_neg (by rw [Int.mul_eq_zero]; omega)]
    rw [Bool.eq_iff_iff]
    simp only [decide_eq_true_eq]
    constructor
    · intro h
      rcases Int.lt_or_le (a + b) 0 with h' | h'
      · exact h'
      · have := Int.mul_nonneg h' (Int.le_of_lt hT'); omega
    · intro h; exact Int.mul_neg_of_neg_of_pos h hT'
theorem read_neg (x : Nat) : double.read (x ^^^ 2 ^ 63) = (double.read x).opposite := by
  have e1 : double.signWeight = 2 ^ 63 := rfl
  have hm : (x ^^^ 2 ^ 63) % 2 ^ 63 = x % 2 ^ 63 := by rw [Nat.xor_mod_two_pow]; simp
  have hd : ((x ^^^ 2 ^ 63) / 2 ^ 63 % 2 == 1) = !(x / 2 ^ 63 % 2 == 1) := by
    rw [Nat.xor_div_two_pow, Nat.div_self (by decide)]
    have hx := Nat.xor_mod_two_pow (a := x / 2 ^ 63) (b := 1) (n := 1)
    rw [Nat.pow_one] at hx
    rw [hx]
    rcases Nat.mod_two_eq_zero_or_one (x / 2 ^ 63) with h | h <;> rw [h] <;> rfl
  unfold Format.read
  rw [e1]
  dsimp only
  rw [hm, hd]
  split
  · rfl
  · split
    · rfl
    · split <;> rfl
theorem val_neg {x : Nat} {s : Bool} {u : Nat} (h : Val x s u) : Val (x ^^^ 2 ^ 63) (!s) u := by
  obtain ⟨m, p, h, hp, hu⟩ := h
  exact ⟨m, p, by rw [read_neg, h]; rfl, hp, hu⟩
theorem sgn_not (s : Bool) (u : Nat) : sgn (!s) u = -sgn s u := by cases s <;> simp [sgn]
theorem sub_add (x y : Nat) : double.sub x y = double.add x (y ^^^ 2 ^ 63) := by
  unfold Format.sub Format.add
  rw [read_neg]
theorem fenc_sub (a b : Int) (ha : a.natAbs < 2 ^ 53) (hb : b.natAbs < 2 ^ 53) : double.sub (fenc a) (fenc b) = some (if a - b = 0 then nr (decide (a < 0) && !decide (b < 0)) 0 else fenc (a - b)) := by
  rw [sub_add, sum_units (fenc_val a ha) (val_neg (fenc_val b hb)), sgn_not, sgn_fenc, sgn_fenc, ← Int.neg_mul, ← Int.add_mul, ← Int.sub_eq_add_neg]
  have hT := TU_pos
  rw [fenc_nr, Int.natAbs_mul, Int.natAbs_natCast]
  generalize TU = T at hT
  have hT' : (0 : Int) < T := by omega
  by_cases h0 : a - b = 0
  · rw [h0, Int.zero_mul, if_pos rfl, if_pos rfl]
    simp
  · rw [if_neg (by rw [Int.mul_eq_zero]; omega), if_neg h0]
    congr 2
    rw [Bool.eq_iff_iff]
    simp only [decide_eq_true_eq]
    constructor
    · intro h
      rcases Int.lt_or_le (a - b) 0 with h' | h'
      · exact h'
      · have := Int.mul_nonneg h' (Int.le_of_lt hT'); omega
    · intro h; exact Int.mul_neg_of_neg_of_pos h hT'
theorem fenc_sub' (a b : Int) (ha : a.natAbs < 2 ^ 53) (hb : b.natAbs < 2 ^ 53) : double.sub (fenc a) (fenc b) = some (fenc (a - b)) := by
  rw [fenc_sub a b ha hb]
  split
  · rename_i h
    rw [h]
    have : (decide (a < 0) && !decide (b < 0)) = false := by
      by_cases h1 : a < 0
      · simp [h1]; omega
      · simp [h1]
    rw [this, fenc_nr]
    simp
  · rfl
end Go.Proofs.YtogjcaakfnfapaaGreatDoor
namespace Go.Proofs.YtogjcaakfnfapaaGreatDoor
open Go Go.RowKit
set_option linter.unusedVariables false
set_option linter.unusedSimpArgs false
/-- A float's kind, its value. -/
def fcls (b : Nat) : Int := match Ieee.double.read b with | .nan _ _ => -2 | .infinity true => -1 | .number _ _ _ => 0 | .infinity false => 1
def fvl (b : Nat) : Int := match Ieee.double.read b with | .number s m p => sgn s (m * 2 ^ (p + 1074).toNat) | _ => 0
def lexlt (a b : Nat) : Bool := decide (fcls a < fcls b ∨ (fcls a = fcls b ∧ fvl a < fvl b))
def lexeq (a b : Nat) : Bool := decide (fcls a = fcls b ∧ fvl a = fvl b)
theorem fcls_nan {b : Nat} (h : fnan b = true) : fcls b = -2 ∧ fvl b = 0 := by
  obtain ⟨n, q, e⟩ := read_nan h
  unfold fcls fvl
  rw [e]; exact ⟨rfl, rfl⟩
theorem fcls_num {b : Nat} (h : fnan b = false) : -1 ≤ fcls b := by
  have h1 := read_number h
  unfold fcls
  cases e : Ieee.double.read b with
  | nan n q => exact (h1 n q e).elim
  | number s m p => simp
  | infinity s => cases s <;> simp
theorem fo_lex {a b : Nat} (ha : fnan a = false) (hb : fnan b = false) : fo a b = some (if lexlt a b then .lt else if lexeq a b then .eq else .gt) := by
  have h1 := read_number ha
  have h2 := read_number hb
  show Ieee.double.order a b = _
  cases e1 : Ieee.double.read a with
  | nan n q => exact (h1 n q e1).elim
  | number s m p =>
    cases e2 : Ieee.double.read b with
    | nan n q => exact (h2 n q e2).elim
    | number t n q =>
      have hv := order_units (x := a) (y := b) ⟨m, p, e1, read_place e1, rfl⟩ ⟨n, q, e2, read_place e2, rfl⟩
      rw [hv]
      unfold lexlt lexeq fcls fvl
      rw [e1, e2]
      simp only [compare, compareOfLessAndEq, Int.lt_irrefl, false_or, true_and]
      congr 1
      by_cases c1 : sgn s (m * 2 ^ (p + 1074).toNat) < sgn t (n * 2 ^ (q + 1074).toNat)
      · simp [c1]
      · by_cases c2 : sgn s (m * 2 ^ (p + 1074).toNat) = sgn t (n * 2 ^ (q + 1074).toNat) <;> simp [c1, c2]
    | infinity t =>
      unfold Ieee.Format.order lexlt lexeq fcls fvl
      rw [e1, e2]
      cases t <;> rfl
  | infinity s =>
    cases e2 : Ieee.double.read b with
    | nan n q => exact (h2 n q e2).elim
    | number t n q =>
      unfold Ieee.Format.order lexlt lexeq fcls fvl
      rw [e1, e2]
      cases s <;> rfl
    | infinity t =>
      unfold Ieee.Format.order lexlt lexeq fcls fvl
      rw [e1, e2]
      cases s <;> cases t <;> rfl
theorem fo_lt {a b : Nat} (ha : fnan a = false) (hb : fnan b = false) : (fo a b == some .lt) = lexlt a b := by
  rw [fo_lex ha hb]
  cases h1 : lexlt a b <;> cases h2 : lexeq a b <;> simp
theorem fo_eq {a b : Nat} (ha : fnan a = false) (hb : fnan b = false) : (fo a b == some .eq) = lexeq a b := by
  rw [fo_lex ha hb]
  cases h1 : lexlt a b
  · cases h2 : lexeq a b <;> simp
  · have : lexeq a b = false := by
      unfold lexlt at h1; unfold lexeq
      have h1 := of_decide_eq_true h1
      exact decide_eq_false (by omega)
    simp [this]
/-- The sign's bit. -/
def sb (b : Nat) : Bool := decide (9223372036854775808 ≤ b)
def zer (b : Nat) : Bool := fo b 0 == some .eq
def beforeF (a b : Nat) : Bool := if fnan a || fnan b then (fnan a && !fnan b) else if zer a && zer b then (sb a && !sb b) else fo a b == some .lt
def fz (b : Nat) : Int := if zer b && !sb b then 1 else 0
theorem zero_num : fnan 0 = false := by decide +kernel
theorem zer_lex {b : Nat} (h : fnan b = false) : zer b = lexeq b 0 := fo_eq h zero_num
theorem before_key (a b : Nat) : beforeF a b = decide (fcls a < fcls b ∨ (fcls a = fcls b ∧ (fvl a < fvl b ∨ (fvl a = fvl b ∧ fz a < fz b)))) := by
  unfold beforeF
  cases ha : fnan a with
  | true =>
    obtain ⟨a1, a2⟩ := fcls_nan ha
    have az : fz a = 0 := by unfold fz zer; rw [fo_nan_l 0 ha]; rfl
    cases hb : fnan b with
    | true =>
      obtain ⟨b1, b2⟩ := fcls_nan hb
      have bz : fz b = 0 := by unfold fz zer; rw [fo_nan_l 0 hb]; rfl
      simp [a1, a2, b1, b2, az, bz]
    | false =>
      have := fcls_num hb
      simp
      omega
  | false =>
    have a0 := fcls_num ha
    cases hb : fnan b with
    | true =>
      obtain ⟨b1, b2⟩ := fcls_nan hb
      simp
      omega
    | false =>
      simp only [Bool.or_self, Bool.false_eq_true, if_false]
      unfold fz
      rw [fo_lt ha hb, zer_lex ha, zer_lex hb]
      unfold lexlt lexeq
      by_cases ca : fcls a = fcls 0 ∧ fvl a = fvl 0
      · by_cases cb : fcls b = fcls 0 ∧ fvl b = fvl 0
        · rw [decide_eq_true ca, decide_eq_true cb]
          have e1 : fcls a = fcls b := by omega
          have e2 : fvl a = fvl b := by omega
          simp only [e1, e2, Int.lt_irrefl]
          cases sb a <;> cases sb b <;> simp
        · rw [decide_eq_true ca, decide_eq_false cb]
          simp only [Bool.and_false, Bool.false_and, Bool.true_and, Bool.false_eq_true, if_false]
          rw [decide_eq_decide]
          split <;> omega
      · rw [decide_eq_false ca]
        simp only [Bool.and_false, Bool.false_and, Bool.true_and, Bool.false_eq_true, if_false]
        rw [decide_eq_decide]
        constructor
        · rintro (h | h)
          · exact .inl h
          · exact .inr ⟨h.1, .inl h.2⟩
        · rintro (h | ⟨h, h2 | ⟨h2, h3⟩⟩)
          · exact .inl h
          · exact .inr ⟨h, h2⟩
          · exfalso
            split at h3
            · rename_i hz
              simp only [Bool.and_eq_true, decide_eq_true_eq] at hz
              omega
            · omega
/-- Whether a value comes ahead of another, of topk (6), bottomk. -/
def aheadF (op : Int) (a b : Nat) : Bool := if op = 6 then beforeF b a else if fnan a || fnan b then (!fnan a && fnan b) else beforeF a b
/-- Where a value stands. -/
def akey (op : Int) (b : Nat) : Int × Int × Int := if op = 6 then (-fcls b, -fvl b, -fz b) else (if fnan b then 2 else fcls b, fvl b, fz b)
def keylt (x y : Int × Int × Int) : Bool := decide (x.1 < y.1 ∨ (x.1 = y.1 ∧ (x.2.1 < y.2.1 ∨ (x.2.1 = y.2.1 ∧ x.2.2 < y.2.2))))
theorem fcls_le (b : Nat) : fcls b ≤ 1 := by
  unfold fcls
  cases Ieee.double.read b with
  | nan n q => simp
  | number s m p => simp
  | infinity s => cases s <;> simp
theorem ahead_key (op : Int) (a b : Nat) : aheadF op a b = keylt (akey op a) (akey op b) := by
  unfold aheadF akey keylt
  by_cases h : op = 6
  · simp only [h, if_true]
    rw [before_key]
    congr 1
    apply propext
    omega
  · simp only [h, if_false]
    cases ha : fnan a with
    | true =>
      obtain ⟨a1, a2⟩ := fcls_nan ha
      have az : fz a = 0 := by unfold fz zer; rw [fo_nan_l 0 ha]; rfl
      cases hb : fnan b with
      | true =>
        obtain ⟨b1, b2⟩ := fcls_nan hb
        have bz : fz b = 0 := by unfold fz zer; rw [fo_nan_l 0 hb]; rfl
        simp [a2, b2, az, bz]
      | false =>
        have := fcls_le b
        simp
        omega
    | false =>
      cases hb : fnan b with
      | true =>
        have := fcls_le a
        simp
        omega
      | false => simp [before_key]
theorem keylt_swo {α : Type} (f : α → Int × Int × Int) : Sort.SWO (fun x y => keylt (f x) (f y)) := by
  refine ⟨fun x => ?_, fun x y z h1 h2 => ?_, fun x y z h1 h2 => ?_⟩
  · unfold keylt; exact decide_eq_false (by omega)
  · unfold keylt at *
    have h1 := of_decide_eq_true h1
    have h2 := of_decide_eq_true h2
    exact decide_eq_true (by omega)
  · unfold keylt at *
    have h1 := of_decide_eq_false h1
    have h2 := of_decide_eq_false h2
    exact decide_eq_false (by omega)
end Go.Proofs.YtogjcaakfnfapaaGreatDoor
namespace Go.Proofs.YtogjcaakfnfapaaGreatDoor
open Go Go.RowKit
set_option linter.unusedVariables false
set_option linter.unusedSimpArgs false
set_option maxRecDepth 100000
def FB (b : Nat) : Prop := b < 18446744073709551616
/-- What the walk wants of two floats: each test's fact. -/
theorem before_nan {a b : Nat} (h : (fnan a || fnan b) = true) : beforeF a b = (fnan a && !fnan b) := by unfold beforeF; rw [if_pos h]
theorem before_zero {a b : Nat} (h : (fnan a || fnan b) = false) (h2 : (zer a && zer b) = true) : beforeF a b = (sb a && !sb b) := by unfold beforeF; rw [if_neg (by rw [h]; decide), if_pos h2]
theorem before_num {a b : Nat} (h : (fnan a || fnan b) = false) (h2 : (zer a && zer b) = false) : beforeF a b = (fo a b == some .lt) := by unfold beforeF; rw [if_neg (by rw [h]; decide), if_neg (by rw [h2]; decide)]
theorem fnan_t {b : Nat} (h : fnan b = true) : FloatKind.f64.format.order b b = none := fo_nan_l b h
theorem ahead_top {op : Int} {a b : Nat} (h : op = 6) : aheadF op a b = beforeF b a := if_pos h
theorem ahead_nan {op : Int} {a b : Nat} (h : op ≠ 6) (h2 : (fnan a || fnan b) = true) : aheadF op a b = (!fnan a && fnan b) := by unfold aheadF; rw [if_neg h, if_pos h2]
theorem ahead_num {op : Int} {a b : Nat} (h : op ≠ 6) (h2 : (fnan a || fnan b) = false) : aheadF op a b = beforeF a b := by unfold aheadF; rw [if_neg h, if_neg (by rw [h2]; decide)]
end Go.Proofs.YtogjcaakfnfapaaGreatDoor
