/- Words for walks, of no program: appending, slices in memory, worlds below a block. -/
import Derived.Test.YtkflhfdpdgnbfaaProg
import Derived.WalkKit
import Derived.WalkLawsBesides
import Derived.WalkSpells
import Derived.Handy
import Derived.Laws.Externs
import Derived.Laws.AppendOwn
import Derived.Laws.AppendOwnNone
import Derived.Laws.Rows
import Derived.Lib.Hide
import Derived.Deep.Draws
import Derived.Deep.Strs
import Derived.Deep.RegionLaw
import Derived.Deep.RegionHeld3
import Derived.BigQuiet
import Derived.Deep.QuietTactic
namespace Go.Proofs.Ytkflhfdpdgnbfaa
open Go.RowKit
set_option linter.unusedVariables false
set_option linter.unusedSimpArgs false

theorem ret_i {k : IntKind} {a b : Int} (h : a = b) : Ending.returned (.int k a) = .returned (.int k b) := by rw [h]
theorem ret_b {a b : Bool} (h : a = b) : Ending.returned (.bool a) = .returned (.bool b) := by rw [h]
theorem quiet_same {P : Program} {f : FuncId} {args : Array Value} {w : World} {n : Nat} {v : Value}
    (h : Calls P f args (w.drewN n) fun e w' => e = .returned v ∧ w.drewN n = w') : Calls P f args (w.drewN n) fun e w'' => e = .returned v ∧ ∃ m, w'' = w.drewN m :=
  h.mono fun _ _ ⟨he, hm⟩ => ⟨he, n, hm.symm⟩
theorem qs {P : Program} {f : FuncId} {args : Array Value} {w : World} {a n : Nat} {v : Value}
    (h : Calls P f args (w.drewN (a + n)) fun e w' => e = .returned v ∧ w.drewN (a + n) = w') :
    Calls P f args (w.drewN (a + n)) fun e w'' => e = .returned v ∧ ∃ m, w'' = w.drewN (a + m) :=
  h.mono fun _ _ ⟨he, hm⟩ => ⟨he, n, hm.symm⟩
theorem below_drewN {B : Nat} {a w : World} (h : Below B a w) (n : Nat) : Below B a (w.drewN n) := h.trans ⟨rfl, rfl, rfl, Nat.le_refl _, fun _ _ => rfl⟩
theorem cell_below {w w' : World} {B : Nat} {p : Addr} {u : Value} (hb : Below B w w') (hB : w.heap.size ≤ B) (h : w.cell? p = some u) : w'.cell? p = some u := by
  rw [hb.cell (by have := World.block_lt_of_cell? w _ h; omega)]; exact h
theorem below_frozen {W w1 : World} {B : Nat} (hb : Below B W w1) : ∀ b o, b < B → w1.frozen? ⟨b, o, none⟩ = W.frozen? ⟨b, o, none⟩ := fun b o h => hb.frozen (p := ⟨b, o, none⟩) h
theorem wpList_append_rd {P : Program} {w : World} {ops : Array Oper} {rest : List Oper} {o : Oper} {a : Act} {Q : Exit → Act → World → Prop} (hgd : o.guard = none) (s x : Operand) (t : TypeId)
    (ho : o.op = .call { callee := .builtin .append, args := #[s, x], argTypes := #[t, t] })
    (base : Nat) (e : TypeId) (i : TypeInfo) (z : Value) (size bytes : Nat) (ht : P.underlying t = some (.slice e)) (hi : P.info? e = some i) (hz : i.zero = some z)
    (hsize : i.size = size) (hby : i.bytes = bytes) (hzs : z.cells.size = size) (hsz : 0 < size)
    (v : Value) (n : Nat) (xs : List Value) (hs : a.eval s = v) (hown : w.ownsRow base e size v n xs)
    (sa : Option Addr) (m c : Nat) (news : List Value) (hx : a.eval x = .slice sa m c) (hnone : sa = none → m = 0 ∧ c = 0 ∧ news = [])
    (hl : news.length = m * size) (hnews : ∀ ad, sa = some ad → ∀ j u, news[j]? = some u → w.cell? (ad.add j) = some u) (h1 : ∀ u ∈ news, u.oneCell' = true)
    (h63 : n + m ≤ maxLen) (hbytes : (n + m) * bytes ≤ 140737488355328) (hbase : base ≤ w.heap.size)
    (h : ∀ v' w', w'.ownsRow base e size v' (n + m) (xs ++ news) → w.grownBy w' v.ownBlock → wpList P ops Q rest (a.put o.dst v') w') : wpList P ops Q (o :: rest) a w := by
  cases sa with
  | none =>
    obtain ⟨rfl, rfl, rfl⟩ := hnone rfl
    refine wpList_append_own_none hgd s x t ho base e i size ht hi v n xs hs hown hx (h v w ?_ ⟨rfl, rfl, rfl, Nat.le_refl _, fun _ _ _ => rfl⟩)
    simpa using hown
  | some ad =>
    exact wpList_append_own w hgd s x t ho base e i z size bytes ht hi hz hsize hby hzs hsz v n xs hs hown ad m c news hx hl (hnews ad rfl) h1 h63 hbytes hbase fun v' w' h2 h3 _ => h v' w' h2 h3

/-- The same at a step of a region that draws its order. -/
theorem step_append_rd {P : Program} {w : World} {ops : Array Oper} {o : Oper} {a : Act} {K : Act → World → Prop} {Q : Exit → Act → World → Prop} {E : Prop} (hgd : o.guard = none) (s x : Operand) (t : TypeId)
    (ho : o.op = .call { callee := .builtin .append, args := #[s, x], argTypes := #[t, t] })
    (base : Nat) (e : TypeId) (i : TypeInfo) (z : Value) (size bytes : Nat) (ht : P.underlying t = some (.slice e)) (hi : P.info? e = some i) (hz : i.zero = some z)
    (hsize : i.size = size) (hby : i.bytes = bytes) (hzs : z.cells.size = size) (hsz : 0 < size)
    (v : Value) (n : Nat) (xs : List Value) (hs : a.eval s = v) (hown : w.ownsRow base e size v n xs)
    (sa : Option Addr) (m c : Nat) (news : List Value) (hx : a.eval x = .slice sa m c) (hnone : sa = none → m = 0 ∧ c = 0 ∧ news = [])
    (hl : news.length = m * size) (hnews : ∀ ad, sa = some ad → ∀ j u, news[j]? = some u → w.cell? (ad.add j) = some u) (h1 : ∀ u ∈ news, u.oneCell' = true)
    (h63 : n + m ≤ maxLen) (hbytes : (n + m) * bytes ≤ 140737488355328) (hbase : base ≤ w.heap.size)
    (h : ∀ v' w', w'.ownsRow base e size v' (n + m) (xs ++ news) → w.grownBy w' v.ownBlock → K (a.put o.dst v') w') :
    if Region.wanted o (yielded ops a.tmps) = true then Oper.wp P o a w K Q else E := by
  have hw : Region.wanted o (yielded ops a.tmps) = true := by simp [Region.wanted, hgd]
  rw [if_pos hw]
  cases sa with
  | none =>
    obtain ⟨rfl, rfl, rfl⟩ := hnone rfl
    have hrun := run_append_owned_none (P := P) (w := w) base t o.type e i size ht hi v n xs hown
    unfold Oper.wp
    simp [execOp, ho, resolve, invoke, builtin, hs, hx, hrun, Result.andThen]
    exact h v w (by simpa using hown) ⟨rfl, rfl, rfl, Nat.le_refl _, fun _ _ _ => rfl⟩
  | some ad =>
    exact wp_append_own w s x t ho base e i z size bytes ht hi hz hsize hby hzs hsz v n xs hs hown ad m c news hx hl (hnews ad rfl) h1 h63 hbytes hbase fun v' w' h2 h3 _ => h v' w' h2 h3
theorem owns_lit {w : World} {base g : Nat} {e : TypeId} {size : Nat} (hg : w.heap[g]? = some (.cells #[] e (0, 0))) (hb : base ≤ g) : w.ownsRow base e size (.slice (some ⟨g, 0, none⟩) 0 0) 0 [] :=
  ⟨by simp, .inr ⟨g, 0, #[], rfl, hb, hg, Nat.le_refl _, by unfold maxLen; omega, by simp, by simp⟩⟩
section
variable {α : Type} {enc : α → List Value} {sz : Nat}

/-- The slice v reads as the list xs. -/
def Sl (enc : α → List Value) (w : World) (v : Value) (xs : List α) : Prop :=
  ∃ a cap, v = .slice a xs.length cap ∧ (xs.length ≤ cap ∧ cap ≤ 9223372036854775807) ∧ (a = none → cap = 0 ∧ xs = []) ∧
    (xs ≠ [] → ∃ b off, a = some ⟨b, off, none⟩ ∧ ∀ j u, (xs.flatMap enc)[j]? = some u → w.cell? ⟨b, off + j, none⟩ = some u)

theorem flat_length (hsz : ∀ x, (enc x).length = sz) (xs : List α) : (xs.flatMap enc).length = xs.length * sz := by
  induction xs with
  | nil => simp
  | cons x xs ih => rw [List.flatMap_cons, List.length_append, ih, hsz, List.length_cons, Nat.succ_mul]; omega
theorem flat_get (hsz : ∀ x, (enc x).length = sz) (xs : List α) (k i : Nat) (hi : i < sz) (h : k < xs.length) : (xs.flatMap enc)[k * sz + i]? = (enc xs[k])[i]? := by
  induction xs generalizing k with
  | nil => simp at h
  | cons x xs ih =>
    rw [List.flatMap_cons]
    cases k with
    | zero => rw [Nat.zero_mul, Nat.zero_add, List.getElem?_append_left (by rw [hsz]; exact hi)]; rfl
    | succ k =>
      rw [List.getElem?_append_right (by rw [hsz, Nat.succ_mul]; omega), hsz, show (k + 1) * sz + i - sz = k * sz + i by rw [Nat.succ_mul]; omega]
      exact ih k (by simpa using h)

theorem Sl.below {w w' : World} {B : Nat} {v : Value} {xs : List α} (h : Sl enc w v xs) (hb : Below B w w') (hB : w.heap.size ≤ B) : Sl enc w' v xs := by
  obtain ⟨a, cap, rfl, hm, hn, hc⟩ := h
  refine ⟨a, cap, rfl, hm, hn, fun hx => ?_⟩
  obtain ⟨b, off, rfl, hd⟩ := hc hx
  refine ⟨b, off, rfl, fun j u hu => ?_⟩
  have := hd j u hu
  rw [hb.cell (by have := World.block_lt_of_cell? w _ this; omega)]; exact this
theorem Sl.drewN {w : World} {v : Value} {xs : List α} (h : Sl enc w v xs) (n : Nat) : Sl enc (w.drewN n) v xs := h
theorem Sl.nil (w : World) : Sl enc w (.slice none 0 0) [] := ⟨none, 0, rfl, by simp, fun _ => ⟨rfl, rfl⟩, fun e => (e rfl).elim⟩
/-- Its cells, element by element. -/
theorem Sl.split {w : World} {v : Value} {xs : List α} (hsz : ∀ x, (enc x).length = sz) (h : Sl enc w v xs) :
    ∃ a cap, v = .slice a xs.length cap ∧ (xs.length ≤ cap ∧ cap ≤ 9223372036854775807) ∧ (a = none → cap = 0 ∧ xs = []) ∧
      ∀ k (hk : k < xs.length), ∃ b off, a = some ⟨b, off, none⟩ ∧ ∀ i u, (enc xs[k])[i]? = some u → w.cell? ⟨b, off + (k * sz + i), none⟩ = some u := by
  obtain ⟨a, cap, rfl, hm, hn, hc⟩ := h
  refine ⟨a, cap, rfl, hm, hn, fun k hk => ?_⟩
  obtain ⟨b, off, rfl, hd⟩ := hc (by intro e; simp [e] at hk)
  refine ⟨b, off, rfl, fun i u hu => hd _ u ?_⟩
  rw [flat_get hsz xs k i (by rw [← hsz xs[k]]; exact (List.getElem?_eq_some_iff.1 hu).1) hk]; exact hu
theorem Sl.len {w : World} {v : Value} {xs : List α} (h : Sl enc w v xs) (h0 : ∀ x, 0 < (enc x).length) : ∃ a cap, v = .slice a xs.length cap ∧ (xs.length ≤ cap ∧ cap ≤ 9223372036854775807) ∧ (a = none → cap = 0 ∧ xs = []) ∧ (∀ ad, a = some ad → ∀ j u, (xs.flatMap enc)[j]? = some u → w.cell? (ad.add j) = some u) := by
  obtain ⟨a, cap, rfl, hm, hn, hc⟩ := h
  refine ⟨a, cap, rfl, hm, hn, fun ad e j u hu => ?_⟩
  obtain ⟨b, off, e2, hd⟩ := hc (by intro e; subst e; simp at hu)
  rw [e] at e2; injection e2 with e2; subst e2
  rw [Addr.add_lit]; exact hd j u hu
/-- Of a row that the call owns. -/
theorem Sl.own {w : World} {base : Nat} {e : TypeId} {v : Value} {n : Nat} {xs : List α} (hsz : ∀ x, (enc x).length = sz) (h0 : 0 < sz) (h : w.ownsRow base e sz v n (xs.flatMap enc)) : Sl enc w v xs := by
  have hn : n = xs.length := by
    have := h.1
    rw [flat_length hsz] at this
    exact (Nat.eq_of_mul_eq_mul_right h0 this).symm
  subst hn
  rcases h.2 with ⟨rfl, h0⟩ | ⟨g, cap, cur, rfl, _, _, hle, hcap, _⟩
  · have hx : xs = [] := List.eq_nil_of_length_eq_zero h0
    subst hx
    exact Sl.nil w
  · refine ⟨_, cap, rfl, ⟨hle, by unfold maxLen at hcap; omega⟩, (fun e => by cases e), fun _ => ⟨g, 0, rfl, fun j u hu => ?_⟩⟩
    have := h.cells (g := g) rfl j u hu
    rw [Addr.add_lit] at this
    exact this
/-- A literal. -/
theorem Sl.lit {w : World} {b : Nat} {t : TypeId} {xs : List α} {cap : Nat} {cs : Array Value} {n : Nat} {fr : Nat × Nat} (hb : w.heap[b]? = some (.cells cs t fr)) (hcs : cs.toList = xs.flatMap enc) (hn : n = xs.length) (hm : n ≤ cap ∧ cap ≤ 9223372036854775807) : Sl enc w (.slice (some ⟨b, 0, none⟩) n cap) xs := by
  subst hn
  refine ⟨_, cap, rfl, hm, (fun e => by cases e), fun _ => ⟨b, 0, rfl, fun j u hu => ?_⟩⟩
  rw [Nat.zero_add, cell_of_row w b j cs t fr hb, ← Array.getElem?_toList, hcs]; exact hu
theorem heap_new (w : World) (o : Obj) : (w.alloc o).heap[w.heap.size]? = some o := by
  show (w.heap.push o)[w.heap.size]? = some o
  simp
theorem lit1 (w : World) (o : Obj) : (w.alloc o).drew.heap[w.heap.size]? = some o := heap_new w o
theorem lit2 (w : World) (o p : Obj) : ((w.alloc o).alloc p).drew.heap[w.heap.size]? = some o := (Below.heap_alloc (w.alloc o) p _ (by simp)).trans (heap_new w o)
theorem lit3 (w : World) (o p : Obj) : ((w.alloc p).alloc o).drew.heap[w.heap.size + 1]? = some o := by
  have := heap_new (w.alloc p) o
  rw [show (w.alloc p).heap.size = w.heap.size + 1 by simp] at this
  exact this
theorem heap_keep {w w' : World} {B b : Nat} {o : Obj} (hb : Below B w w') (hB : b < B) (h : w.heap[b]? = some o) : w'.heap[b]? = some o := by rw [hb.block b hB]; exact h
theorem flat_snoc (xs : List α) (x : α) : (xs ++ [x]).flatMap enc = xs.flatMap enc ++ enc x := by simp
end
/-- One cell an element. -/
def fenc1 (x : Nat) : List Value := [.float .f64 x]
def ienc1 (k : IntKind) (x : Int) : List Value := [.int k x]
def senc1 (x : ByteArray) : List Value := [.string x]
def benc1 (x : Bool) : List Value := [.bool x]
theorem senc1_len (x : ByteArray) : (senc1 x).length = 1 := rfl
/-- A slice of strings: its cells one by one. -/
theorem Sl.strings {w : World} {v : Value} {xs : List ByteArray} (h : Sl senc1 w v xs) : ∃ a cap, v = .slice a xs.length cap ∧ (xs.length ≤ cap ∧ cap ≤ 9223372036854775807) ∧
    ∀ k, k < xs.length → ∃ b off, a = some ⟨b, off, none⟩ ∧ ∀ j (hj : j < xs.length), w.cell? ⟨b, off + j, none⟩ = some (.string xs[j]) := by
  obtain ⟨a, cap, rfl, hm, hn, hc⟩ := h
  refine ⟨a, cap, rfl, hm, fun k hk => ?_⟩
  obtain ⟨b, off, rfl, hd⟩ := hc (by intro e; simp [e] at hk)
  refine ⟨b, off, rfl, fun j hj => hd j _ ?_⟩
  have : xs.flatMap senc1 = xs.map Value.string := by
    clear hd hc hm hn hk hj
    induction xs with
    | nil => rfl
    | cons x xs ih => rw [List.flatMap_cons, ih]; rfl
  rw [this]; simp [hj]

theorem two_new (w : World) (u v : Value) (t : TypeId) : ∀ j x, [u, v][j]? = some x → (w.alloc (.cells #[u, v] t)).cell? ((⟨w.heap.size, 0, none⟩ : Addr).add j) = some x := by
  intro j x hj
  match j, hj with
  | 0, hj => simp at hj; subst hj; exact World.cell?_alloc_at _ _ _ _ rfl
  | 1, hj => simp at hj; subst hj; exact World.cell?_alloc_at _ _ _ _ rfl
end Go.Proofs.Ytkflhfdpdgnbfaa
