/- Words for walks, of no program: appending, slices in memory, worlds below a block. Plain law of paths: nodes, pieces, what they match. Plain words of patterns: how they are read. Bytes and names of labels: the code's and the document's. Whether a path's node may have a byte: the code. Pieces of patterns in memory, and worlds that keep all blocks but some: words for walks. The reader of patterns: the next byte; where it is none. (Several texts in one file, by merge.py.) -/
import Derived.Test.YtnnfhcbopchodaaDoorProg
import Derived.WalkKit
import Derived.WalkLawsBesides
import Derived.WalkSpells
import Derived.Handy
import Derived.Laws.Externs
import Derived.Laws.AppendOwn
import Derived.Laws.AppendOwnNone
import Derived.Laws.Rows
import Derived.Lib.Hide
import Derived.Deep.Draws
import Derived.Deep.Strs
import Derived.Deep.RegionLaw
import Derived.Deep.RegionHeld3
import Derived.BigQuiet
import Derived.Deep.QuietTactic
import Derived.Shelf.SlSortCmp.QuietGrown
import Derived.Deep.MidRow
import Derived.Maps.AppendAt
import Derived.Great.Walk
import Derived.IntWalk
namespace Go.Proofs.YtnnfhcbopchodaaDoor
open Go.RowKit
set_option linter.unusedVariables false
set_option linter.unusedSimpArgs false

theorem ret_i {k : IntKind} {a b : Int} (h : a = b) : Ending.returned (.int k a) = .returned (.int k b) := by rw [h]
theorem ret_b {a b : Bool} (h : a = b) : Ending.returned (.bool a) = .returned (.bool b) := by rw [h]
theorem quiet_same {P : Program} {f : FuncId} {args : Array Value} {w : World} {n : Nat} {v : Value}
    (h : Calls P f args (w.drewN n) fun e w' => e = .returned v ∧ w.drewN n = w') : Calls P f args (w.drewN n) fun e w'' => e = .returned v ∧ ∃ m, w'' = w.drewN m :=
  h.mono fun _ _ ⟨he, hm⟩ => ⟨he, n, hm.symm⟩
theorem qs {P : Program} {f : FuncId} {args : Array Value} {w : World} {a n : Nat} {v : Value}
    (h : Calls P f args (w.drewN (a + n)) fun e w' => e = .returned v ∧ w.drewN (a + n) = w') :
    Calls P f args (w.drewN (a + n)) fun e w'' => e = .returned v ∧ ∃ m, w'' = w.drewN (a + m) :=
  h.mono fun _ _ ⟨he, hm⟩ => ⟨he, n, hm.symm⟩
theorem below_drewN {B : Nat} {a w : World} (h : Below B a w) (n : Nat) : Below B a (w.drewN n) := h.trans ⟨rfl, rfl, rfl, Nat.le_refl _, fun _ _ => rfl⟩
theorem cell_below {w w' : World} {B : Nat} {p : Addr} {u : Value} (hb : Below B w w') (hB : w.heap.size ≤ B) (h : w.cell? p = some u) : w'.cell? p = some u := by
  rw [hb.cell (by have := World.block_lt_of_cell? w _ h; omega)]; exact h
theorem below_frozen {W w1 : World} {B : Nat} (hb : Below B W w1) : ∀ b o, b < B → w1.frozen? ⟨b, o, none⟩ = W.frozen? ⟨b, o, none⟩ := fun b o h => hb.frozen (p := ⟨b, o, none⟩) h
theorem wpList_append_rd {P : Program} {w : World} {ops : Array Oper} {rest : List Oper} {o : Oper} {a : Act} {Q : Exit → Act → World → Prop} (hgd : o.guard = none) (s x : Operand) (t : TypeId)
    (ho : o.op = .call { callee := .builtin .append, args := #[s, x], argTypes := #[t, t] })
    (base : Nat) (e : TypeId) (i : TypeInfo) (z : Value) (size bytes : Nat) (ht : P.underlying t = some (.slice e)) (hi : P.info? e = some i) (hz : i.zero = some z)
    (hsize : i.size = size) (hby : i.bytes = bytes) (hzs : z.cells.size = size) (hsz : 0 < size)
    (v : Value) (n : Nat) (xs : List Value) (hs : a.eval s = v) (hown : w.ownsRow base e size v n xs)
    (sa : Option Addr) (m c : Nat) (news : List Value) (hx : a.eval x = .slice sa m c) (hnone : sa = none → m = 0 ∧ c = 0 ∧ news = [])
    (hl : news.length = m * size) (hnews : ∀ ad, sa = some ad → ∀ j u, news[j]? = some u → w.cell? (ad.add j) = some u) (h1 : ∀ u ∈ news, u.oneCell' = true)
    (h63 : n + m ≤ maxLen) (hbytes : (n + m) * bytes ≤ 140737488355328) (hbase : base ≤ w.heap.size)
    (h : ∀ v' w', w'.ownsRow base e size v' (n + m) (xs ++ news) → w.grownBy w' v.ownBlock → wpList P ops Q rest (a.put o.dst v') w') : wpList P ops Q (o :: rest) a w := by
  cases sa with
  | none =>
    obtain ⟨rfl, rfl, rfl⟩ := hnone rfl
    refine wpList_append_own_none hgd s x t ho base e i size ht hi v n xs hs hown hx (h v w ?_ ⟨rfl, rfl, rfl, Nat.le_refl _, fun _ _ _ => rfl⟩)
    simpa using hown
  | some ad =>
    exact wpList_append_own w hgd s x t ho base e i z size bytes ht hi hz hsize hby hzs hsz v n xs hs hown ad m c news hx hl (hnews ad rfl) h1 h63 hbytes hbase fun v' w' h2 h3 _ => h v' w' h2 h3

/-- The same at a step of a region that draws its order. -/
theorem step_append_rd {P : Program} {w : World} {ops : Array Oper} {o : Oper} {a : Act} {K : Act → World → Prop} {Q : Exit → Act → World → Prop} {E : Prop} (hgd : o.guard = none) (s x : Operand) (t : TypeId)
    (ho : o.op = .call { callee := .builtin .append, args := #[s, x], argTypes := #[t, t] })
    (base : Nat) (e : TypeId) (i : TypeInfo) (z : Value) (size bytes : Nat) (ht : P.underlying t = some (.slice e)) (hi : P.info? e = some i) (hz : i.zero = some z)
    (hsize : i.size = size) (hby : i.bytes = bytes) (hzs : z.cells.size = size) (hsz : 0 < size)
    (v : Value) (n : Nat) (xs : List Value) (hs : a.eval s = v) (hown : w.ownsRow base e size v n xs)
    (sa : Option Addr) (m c : Nat) (news : List Value) (hx : a.eval x = .slice sa m c) (hnone : sa = none → m = 0 ∧ c = 0 ∧ news = [])
    (hl : news.length = m * size) (hnews : ∀ ad, sa = some ad → ∀ j u, news[j]? = some u → w.cell? (ad.add j) = some u) (h1 : ∀ u ∈ news, u.oneCell' = true)
    (h63 : n + m ≤ maxLen) (hbytes : (n + m) * bytes ≤ 140737488355328) (hbase : base ≤ w.heap.size)
    (h : ∀ v' w', w'.ownsRow base e size v' (n + m) (xs ++ news) → w.grownBy w' v.ownBlock → K (a.put o.dst v') w') :
    if Region.wanted o (yielded ops a.tmps) = true then Oper.wp P o a w K Q else E := by
  have hw : Region.wanted o (yielded ops a.tmps) = true := by simp [Region.wanted, hgd]
  rw [if_pos hw]
  cases sa with
  | none =>
    obtain ⟨rfl, rfl, rfl⟩ := hnone rfl
    have hrun := run_append_owned_none (P := P) (w := w) base t o.type e i size ht hi v n xs hown
    unfold Oper.wp
    simp [execOp, ho, resolve, invoke, builtin, hs, hx, hrun, Result.andThen]
    exact h v w (by simpa using hown) ⟨rfl, rfl, rfl, Nat.le_refl _, fun _ _ _ => rfl⟩
  | some ad =>
    exact wp_append_own w s x t ho base e i z size bytes ht hi hz hsize hby hzs hsz v n xs hs hown ad m c news hx hl (hnews ad rfl) h1 h63 hbytes hbase fun v' w' h2 h3 _ => h v' w' h2 h3
theorem owns_lit {w : World} {base g : Nat} {e : TypeId} {size : Nat} (hg : w.heap[g]? = some (.cells #[] e (0, 0))) (hb : base ≤ g) : w.ownsRow base e size (.slice (some ⟨g, 0, none⟩) 0 0) 0 [] :=
  ⟨by simp, .inr ⟨g, 0, #[], rfl, hb, hg, Nat.le_refl _, by unfold maxLen; omega, by simp, by simp⟩⟩
section
variable {α : Type} {enc : α → List Value} {sz : Nat}

/-- The slice v reads as the list xs. -/
def Sl (enc : α → List Value) (w : World) (v : Value) (xs : List α) : Prop :=
  ∃ a cap, v = .slice a xs.length cap ∧ (xs.length ≤ cap ∧ cap ≤ 9223372036854775807) ∧ (a = none → cap = 0 ∧ xs = []) ∧
    (xs ≠ [] → ∃ b off, a = some ⟨b, off, none⟩ ∧ ∀ j u, (xs.flatMap enc)[j]? = some u → w.cell? ⟨b, off + j, none⟩ = some u)

theorem flat_length (hsz : ∀ x, (enc x).length = sz) (xs : List α) : (xs.flatMap enc).length = xs.length * sz := by
  induction xs with
  | nil => simp
  | cons x xs ih => rw [List.flatMap_cons, List.length_append, ih, hsz, List.length_cons, Nat.succ_mul]; omega
theorem flat_get (hsz : ∀ x, (enc x).length = sz) (xs : List α) (k i : Nat) (hi : i < sz) (h : k < xs.length) : (xs.flatMap enc)[k * sz + i]? = (enc xs[k])[i]? := by
  induction xs generalizing k with
  | nil => simp at h
  | cons x xs ih =>
    rw [List.flatMap_cons]
    cases k with
    | zero => rw [Nat.zero_mul, Nat.zero_add, List.getElem?_append_left (by rw [hsz]; exact hi)]; rfl
    | succ k =>
      rw [List.getElem?_append_right (by rw [hsz, Nat.succ_mul]; omega), hsz, show (k + 1) * sz + i - sz = k * sz + i by rw [Nat.succ_mul]; omega]
      exact ih k (by simpa using h)

theorem Sl.below {w w' : World} {B : Nat} {v : Value} {xs : List α} (h : Sl enc w v xs) (hb : Below B w w') (hB : w.heap.size ≤ B) : Sl enc w' v xs := by
  obtain ⟨a, cap, rfl, hm, hn, hc⟩ := h
  refine ⟨a, cap, rfl, hm, hn, fun hx => ?_⟩
  obtain ⟨b, off, rfl, hd⟩ := hc hx
  refine ⟨b, off, rfl, fun j u hu => ?_⟩
  have := hd j u hu
  rw [hb.cell (by have := World.block_lt_of_cell? w _ this; omega)]; exact this
theorem Sl.drewN {w : World} {v : Value} {xs : List α} (h : Sl enc w v xs) (n : Nat) : Sl enc (w.drewN n) v xs := h
theorem Sl.nil (w : World) : Sl enc w (.slice none 0 0) [] := ⟨none, 0, rfl, by simp, fun _ => ⟨rfl, rfl⟩, fun e => (e rfl).elim⟩
/-- Its cells, element by element. -/
theorem Sl.split {w : World} {v : Value} {xs : List α} (hsz : ∀ x, (enc x).length = sz) (h : Sl enc w v xs) :
    ∃ a cap, v = .slice a xs.length cap ∧ (xs.length ≤ cap ∧ cap ≤ 9223372036854775807) ∧ (a = none → cap = 0 ∧ xs = []) ∧
      ∀ k (hk : k < xs.length), ∃ b off, a = some ⟨b, off, none⟩ ∧ ∀ i u, (enc xs[k])[i]? = some u → w.cell? ⟨b, off + (k * sz + i), none⟩ = some u := by
  obtain ⟨a, cap, rfl, hm, hn, hc⟩ := h
  refine ⟨a, cap, rfl, hm, hn, fun k hk => ?_⟩
  obtain ⟨b, off, rfl, hd⟩ := hc (by intro e; simp [e] at hk)
  refine ⟨b, off, rfl, fun i u hu => hd _ u ?_⟩
  rw [flat_get hsz xs k i (by rw [← hsz xs[k]]; exact (List.getElem?_eq_some_iff.1 hu).1) hk]; exact hu
theorem Sl.len {w : World} {v : Value} {xs : List α} (h : Sl enc w v xs) (h0 : ∀ x, 0 < (enc x).length) : ∃ a cap, v = .slice a xs.length cap ∧ (xs.length ≤ cap ∧ cap ≤ 9223372036854775807) ∧ (a = none → cap = 0 ∧ xs = []) ∧ (∀ ad, a = some ad → ∀ j u, (xs.flatMap enc)[j]? = some u → w.cell? (ad.add j) = some u) := by
  obtain ⟨a, cap, rfl, hm, hn, hc⟩ := h
  refine ⟨a, cap, rfl, hm, hn, fun ad e j u hu => ?_⟩
  obtain ⟨b, off, e2, hd⟩ := hc (by intro e; subst e; simp at hu)
  rw [e] at e2; injection e2 with e2; subst e2
  rw [Addr.add_lit]; exact hd j u hu
/-- Of a row that the call owns. -/
theorem Sl.own {w : World} {base : Nat} {e : TypeId} {v : Value} {n : Nat} {xs : List α} (hsz : ∀ x, (enc x).length = sz) (h0 : 0 < sz) (h : w.ownsRow base e sz v n (xs.flatMap enc)) : Sl enc w v xs := by
  have hn : n = xs.length := by
    have := h.1
    rw [flat_length hsz] at this
    exact (Nat.eq_of_mul_eq_mul_right h0 this).symm
  subst hn
  rcases h.2 with ⟨rfl, h0⟩ | ⟨g, cap, cur, rfl, _, _, hle, hcap, _⟩
  · have hx : xs = [] := List.eq_nil_of_length_eq_zero h0
    subst hx
    exact Sl.nil w
  · refine ⟨_, cap, rfl, ⟨hle, by unfold maxLen at hcap; omega⟩, (fun e => by cases e), fun _ => ⟨g, 0, rfl, fun j u hu => ?_⟩⟩
    have := h.cells (g := g) rfl j u hu
    rw [Addr.add_lit] at this
    exact this
/-- A literal. -/
theorem Sl.lit {w : World} {b : Nat} {t : TypeId} {xs : List α} {cap : Nat} {cs : Array Value} {n : Nat} {fr : Nat × Nat} (hb : w.heap[b]? = some (.cells cs t fr)) (hcs : cs.toList = xs.flatMap enc) (hn : n = xs.length) (hm : n ≤ cap ∧ cap ≤ 9223372036854775807) : Sl enc w (.slice (some ⟨b, 0, none⟩) n cap) xs := by
  subst hn
  refine ⟨_, cap, rfl, hm, (fun e => by cases e), fun _ => ⟨b, 0, rfl, fun j u hu => ?_⟩⟩
  rw [Nat.zero_add, cell_of_row w b j cs t fr hb, ← Array.getElem?_toList, hcs]; exact hu
theorem heap_new (w : World) (o : Obj) : (w.alloc o).heap[w.heap.size]? = some o := by
  show (w.heap.push o)[w.heap.size]? = some o
  simp
theorem lit1 (w : World) (o : Obj) : (w.alloc o).drew.heap[w.heap.size]? = some o := heap_new w o
theorem lit2 (w : World) (o p : Obj) : ((w.alloc o).alloc p).drew.heap[w.heap.size]? = some o := (Below.heap_alloc (w.alloc o) p _ (by simp)).trans (heap_new w o)
theorem lit3 (w : World) (o p : Obj) : ((w.alloc p).alloc o).drew.heap[w.heap.size + 1]? = some o := by
  have := heap_new (w.alloc p) o
  rw [show (w.alloc p).heap.size = w.heap.size + 1 by simp] at this
  exact this
theorem heap_keep {w w' : World} {B b : Nat} {o : Obj} (hb : Below B w w') (hB : b < B) (h : w.heap[b]? = some o) : w'.heap[b]? = some o := by rw [hb.block b hB]; exact h
theorem flat_snoc (xs : List α) (x : α) : (xs ++ [x]).flatMap enc = xs.flatMap enc ++ enc x := by simp
end
/-- One cell an element. -/
def fenc1 (x : Nat) : List Value := [.float .f64 x]
def ienc1 (k : IntKind) (x : Int) : List Value := [.int k x]
def senc1 (x : ByteArray) : List Value := [.string x]
def benc1 (x : Bool) : List Value := [.bool x]
theorem senc1_len (x : ByteArray) : (senc1 x).length = 1 := rfl
/-- A slice of strings: its cells one by one. -/
theorem Sl.strings {w : World} {v : Value} {xs : List ByteArray} (h : Sl senc1 w v xs) : ∃ a cap, v = .slice a xs.length cap ∧ (xs.length ≤ cap ∧ cap ≤ 9223372036854775807) ∧
    ∀ k, k < xs.length → ∃ b off, a = some ⟨b, off, none⟩ ∧ ∀ j (hj : j < xs.length), w.cell? ⟨b, off + j, none⟩ = some (.string xs[j]) := by
  obtain ⟨a, cap, rfl, hm, hn, hc⟩ := h
  refine ⟨a, cap, rfl, hm, fun k hk => ?_⟩
  obtain ⟨b, off, rfl, hd⟩ := hc (by intro e; simp [e] at hk)
  refine ⟨b, off, rfl, fun j hj => hd j _ ?_⟩
  have : xs.flatMap senc1 = xs.map Value.string := by
    clear hd hc hm hn hk hj
    induction xs with
    | nil => rfl
    | cons x xs ih => rw [List.flatMap_cons, ih]; rfl
  rw [this]; simp [hj]

theorem two_new (w : World) (u v : Value) (t : TypeId) : ∀ j x, [u, v][j]? = some x → (w.alloc (.cells #[u, v] t)).cell? ((⟨w.heap.size, 0, none⟩ : Addr).add j) = some x := by
  intro j x hj
  match j, hj with
  | 0, hj => simp at hj; subst hj; exact World.cell?_alloc_at _ _ _ _ rfl
  | 1, hj => simp at hj; subst hj; exact World.cell?_alloc_at _ _ _ _ rfl
end Go.Proofs.YtnnfhcbopchodaaDoor
namespace Go.Proofs.YtnnfhcbopchodaaDoor
open Go Go.RowKit
set_option linter.unusedVariables false
set_option linter.unusedSimpArgs false
/-- A text's parts between dots. -/
def splitD : List UInt8 → List (List UInt8)
  | [] => [[]]
  | c :: r => if c = 46 then [] :: splitD r else match splitD r with
    | [] => [[c]]
    | n :: ns => (c :: n) :: ns
theorem splitD_ne (s : List UInt8) : splitD s ≠ [] := by
  cases s with
  | nil => simp [splitD]
  | cons c r =>
    unfold splitD
    split
    · simp
    · split <;> simp
def joinD : List (List UInt8) → List UInt8
  | [] => []
  | [n] => n
  | n :: m :: ns => n ++ 46 :: joinD (m :: ns)
theorem join_split : ∀ s : List UInt8, joinD (splitD s) = s
  | [] => rfl
  | c :: r => by
    have ih := join_split r
    have hne := splitD_ne r
    unfold splitD
    split
    · rename_i h
      subst h
      cases hs : splitD r with
      | nil => exact absurd hs hne
      | cons n ns => rw [hs] at ih; show [] ++ 46 :: joinD (n :: ns) = _; rw [ih]; rfl
    · cases hs : splitD r with
      | nil => exact absurd hs hne
      | cons n ns =>
        rw [hs] at ih
        cases ns with
        | nil => show c :: n = _; rw [show n = r from ih]
        | cons m ns => show (c :: n) ++ 46 :: joinD (m :: ns) = _; rw [← ih]; rfl
theorem split_inj {s t : List UInt8} (h : splitD s = splitD t) : s = t := by rw [← join_split s, h, join_split]
/-- A byte that a node may have. -/
def isG (c : UInt8) : Bool := (65 ≤ c && c ≤ 90) || (97 ≤ c && c ≤ 122) || c == 95 || (48 ≤ c && c ≤ 57) || c == 45
theorem isG_dot : isG 46 = false := by decide
def nodeOk (n : List UInt8) : Bool := !n.isEmpty && decide (n.length ≤ 256) && n.all isG
def okG (s : List UInt8) : Bool := (splitD s).all nodeOk && decide ((splitD s).length ≤ 31)
/-- One of a node's pattern. kind: 0 the byte itself, 1 one of some, 2 any byte, 3 any bytes, 4 one of some words. -/
structure Pc where
  kind : Nat
  text : UInt8
  set : UInt8 → Bool
  words : List (List UInt8)
def byteOk (p : Pc) (c : UInt8) : Bool := p.kind == 2 || (p.kind == 1 && p.set c) || (p.kind == 0 && p.text == c)
/-- The places in a text that are come to behind a piece. -/
def stepB (p : Pc) (s : List UInt8) (now : Nat → Bool) (j : Nat) : Bool :=
  if p.kind = 3 then (List.range (j + 1)).any now
  else if p.kind = 4 then p.words.any fun w => decide (w.length ≤ j) && now (j - w.length) && (w.isPrefixOf (s.drop (j - w.length)))
  else match j with
    | 0 => false
    | k + 1 => now k && (match s[k]? with | some c => byteOk p c | none => false)
def startB (j : Nat) : Bool := j == 0
def nowB (ps : List Pc) (s : List UInt8) : Nat → Bool := ps.foldl (fun now p => stepB p s now) startB
/-- Whether a node is meant. -/
def matchN (ps : List Pc) (s : List UInt8) : Bool := nowB ps s s.length
def itselfP (c : UInt8) : Pc := ⟨0, c, fun _ => false, []⟩
def manyP : Pc := ⟨3, 42, fun _ => false, []⟩
theorem nowB_snoc (ps : List Pc) (p : Pc) (s : List UInt8) (j : Nat) : nowB (ps ++ [p]) s j = stepB p s (nowB ps s) j := by
  unfold nowB; rw [List.foldl_append]; rfl
theorem now_itself (t s : List UInt8) : ∀ k, k ≤ t.length → ∀ j, nowB ((t.take k).map itselfP) s j = (j == k && decide (s.take k = t.take k) && decide (k ≤ s.length))
  | 0, _, j => by
    show startB j = _
    simp [startB]
  | k + 1, hk, j => by
    have ih := now_itself t s k (by omega)
    rw [List.take_succ_eq_append_getElem (by omega), List.map_append, List.map_singleton, nowB_snoc]
    unfold stepB
    rw [if_neg (show ¬ (itselfP t[k]).kind = 3 from Nat.noConfusion), if_neg (show ¬ (itselfP t[k]).kind = 4 from Nat.noConfusion)]
    cases j with
    | zero => simp
    | succ i =>
      simp only [ih i]
      by_cases hi : i = k
      · subst hi
        cases hs : s[i]? with
        | none =>
          have hl : s.length ≤ i := List.getElem?_eq_none_iff.1 hs
          have : ¬ i + 1 ≤ s.length := by omega
          simp [this]
        | some c =>
          obtain ⟨hl, rfl⟩ := List.getElem?_eq_some_iff.1 hs
          have h1 : i + 1 ≤ s.length := by omega
          have h2 : i ≤ s.length := by omega
          rw [List.take_succ_eq_append_getElem hl]
          simp only [beq_self_eq_true, Bool.true_and, h1, h2, decide_true, Bool.and_true]
          rw [Bool.eq_iff_iff]
          simp only [Bool.and_eq_true, decide_eq_true_eq]
          have hb : byteOk (itselfP t[i]) s[i] = (t[i] == s[i]) := by simp [byteOk, itselfP]
          rw [hb]
          constructor
          · rintro ⟨e1, e2⟩
            rw [e1, beq_iff_eq.1 e2]
          · intro e
            have h3 : (s.take i).length = (t.take i).length := by rw [List.length_take, List.length_take]; omega
            obtain ⟨e1, e2⟩ := List.append_inj e h3
            injection e2 with e2
            exact ⟨e1, by rw [e2]; simp⟩
      · have h1 : (i == k) = false := by simpa using hi
        have h2 : (i + 1 == k + 1) = false := by simpa using hi
        rw [h1, h2]
        simp
/-- A text of itself is matched by itself alone. -/
theorem match_itself (t s : List UInt8) : matchN (t.map itselfP) s = decide (s = t) := by
  have h := now_itself t s t.length (Nat.le_refl _) s.length
  rw [List.take_length] at h
  unfold matchN
  rw [h, Bool.eq_iff_iff]
  simp only [Bool.and_eq_true, beq_iff_eq, decide_eq_true_eq]
  constructor
  · rintro ⟨⟨h1, h2⟩, -⟩
    rw [← h1, List.take_length] at h2
    exact h2
  · rintro rfl
    exact ⟨⟨rfl, List.take_length⟩, Nat.le_refl _⟩
/-- A star matches any. -/
theorem match_many (s : List UInt8) : matchN [manyP] s = true := by
  show stepB manyP s startB s.length = true
  unfold stepB
  rw [if_pos (show manyP.kind = 3 from rfl), List.any_eq_true]
  exact ⟨0, by simp, rfl⟩
/-- Whether a path is meant. -/
def matchG (g : List (List Pc)) (s : List UInt8) : Bool := okG s && decide ((splitD s).length = g.length) && (List.range g.length).all fun i => matchN (g.getD i []) ((splitD s).getD i [])
def pathG (s : List UInt8) : List (List Pc) := (splitD s).map fun n => n.map itselfP
def starsG (n : Nat) : List (List Pc) := List.replicate n [manyP]
theorem match_path {s : List UInt8} (h : okG s = true) (t : List UInt8) : matchG (pathG s) t = decide (s = t) := by
  unfold matchG pathG
  rw [Bool.eq_iff_iff]
  simp only [Bool.and_eq_true, decide_eq_true_eq, List.length_map, List.all_eq_true, List.mem_range]
  constructor
  · rintro ⟨⟨-, hl⟩, hm⟩
    refine split_inj (List.ext_getElem hl.symm fun i h1 h2 => ?_)
    have := hm i h1
    rw [List.getD_eq_getElem?_getD, List.getD_eq_getElem?_getD, List.getElem?_eq_getElem (by simpa using h1), List.getElem?_eq_getElem h2, Option.getD_some, Option.getD_some, List.getElem_map, match_itself, decide_eq_true_eq] at this
    exact this.symm
  · rintro rfl
    refine ⟨⟨h, rfl⟩, fun i hi => ?_⟩
    rw [List.getD_eq_getElem?_getD, List.getD_eq_getElem?_getD, List.getElem?_eq_getElem (by simpa using hi), List.getElem?_eq_getElem hi, Option.getD_some, Option.getD_some, List.getElem_map, match_itself, decide_eq_true_eq]
theorem match_stars (n : Nat) (t : List UInt8) : matchG (starsG n) t = (okG t && decide ((splitD t).length = n)) := by
  unfold matchG starsG
  rw [List.length_replicate]
  have : ((List.range n).all fun i => matchN ((List.replicate n [manyP]).getD i []) ((splitD t).getD i [])) = true := by
    rw [List.all_eq_true]
    intro i hi
    have hi : i < n := by simpa using hi
    rw [List.getD_eq_getElem?_getD, List.getElem?_replicate_of_lt hi, Option.getD_some]
    exact match_many _
  rw [this, Bool.and_true]
end Go.Proofs.YtnnfhcbopchodaaDoor
namespace Go.Proofs.YtnnfhcbopchodaaDoor
open Go Go.RowKit
set_option linter.unusedVariables false
set_option linter.unusedSimpArgs false
def everyP : Pc := ⟨2, 63, fun _ => false, []⟩
def wordsP (ws : List (List UInt8)) : Pc := ⟨4, 0, fun _ => false, ws⟩
/-- Words in braces, from a place on: the words and the place behind, or where it is none. -/
def bracesG (s : List UInt8) : (fuel fr at' : Nat) → List (List UInt8) → Except Nat (List (List UInt8) × Nat)
  | 0, _, _, _ => .error s.length
  | fuel + 1, fr, at', ws => match s[at']? with
    | none => .error s.length
    | some c => if c = 125 then .ok (ws ++ [(s.take at').drop fr], at' + 1)
      else if c = 44 then bracesG s fuel (at' + 1) (at' + 1) (ws ++ [(s.take at').drop fr])
      else if isG c = true then bracesG s fuel fr (at' + 1) ws
      else .error at'
/-- One of some bytes. -/
def setP (f : UInt8 → Bool) : Pc := ⟨1, 0, f, []⟩
def rangeS (f : UInt8 → Bool) (lo hi : UInt8) : UInt8 → Bool := fun y => if lo ≤ y ∧ y ≤ hi then isG y else f y
/-- Bytes in brackets, from a place on: the set and the place behind, or where it is none. -/
def classG (s : List UInt8) : (fuel at' : Nat) → Bool → (UInt8 → Bool) → Except Nat ((UInt8 → Bool) × Nat)
  | 0, _, _, _ => .error s.length
  | fuel + 1, a, first, f => match s[a]? with
    | none => .error s.length
    | some c => if c = 93 ∧ first = false then .ok (f, a + 1)
      else if isG c = false ∨ (c = 45 ∧ first = false ∧ s[a + 1]? ≠ some 93) then .error a
      else if s[a + 1]? = some 45 then (match s[a + 2]? with
        | none => .error s.length
        | some p => if p = 93 then classG s fuel (a + 1) false (rangeS f c c)
          else if isG p = false ∨ p < c then .error (a + 2)
          else classG s fuel (a + 3) false (rangeS f c p))
      else classG s fuel (a + 1) false (rangeS f c c)
def clG (s : List UInt8) (f a : Nat) (first : Bool) (g : UInt8 → Bool) : Except Nat (Pc × Nat) := match classG s f a first g with | .ok (h, a) => .ok (setP h, a) | .error b => .error b
def brG (s : List UInt8) (f fr a : Nat) (ws : List (List UInt8)) : Except Nat (Pc × Nat) := match bracesG s f fr a ws with | .ok (ws, a) => .ok (wordsP ws, a) | .error b => .error b
/-- One piece. -/
def pieceG (s : List UInt8) (at' : Nat) (c : UInt8) : Except Nat (Pc × Nat) :=
  if c = 42 then .ok (manyP, at' + 1) else if c = 63 then .ok (everyP, at' + 1)
  else if c = 123 then brG s (s.length + 1) (at' + 1) (at' + 1) []
  else if c = 91 then clG s (s.length + 1) (at' + 1) true (fun _ => false)
  else if isG c = true then .ok (itselfP c, at' + 1) else .error at'
/-- A node's pieces, behind those that were read. -/
def nodeG (s : List UInt8) : (fuel at' : Nat) → List Pc → Except Nat (List Pc × Nat)
  | 0, at', ps => .ok (ps, at')
  | fuel + 1, at', ps => match s[at']? with
    | none => if ps.isEmpty then .error at' else .ok (ps, at')
    | some c => if c = 46 then (if ps.isEmpty then .error at' else .ok (ps, at'))
      else match pieceG s at' c with
        | .ok (p, a) => nodeG s fuel a (ps ++ [p])
        | .error b => .error b
/-- The nodes behind those that were read: the pattern, or where it is none, and the error. -/
def nodesG (s : List UInt8) : (fuel at' : Nat) → List (List Pc) → Except (Nat × Int) (List (List Pc))
  | 0, _, g => .ok g
  | fuel + 1, at', g => match nodeG s (s.length + 1) at' [] with
    | .error b => .error (b, 2)
    | .ok (ps, a) => match s[a]? with
      | none => .ok (g ++ [ps])
      | some _ => if (g ++ [ps]).length = 31 then .error (a + 1, 6) else nodesG s fuel (a + 1) (g ++ [ps])
def compG (s : List UInt8) : Except (Nat × Int) (List (List Pc)) := if 4096 < s.length then .error (0, 6) else nodesG s (s.length + 2) 0 []
/-- A node of a path is read as itself. -/
theorem node_path (s : List UInt8) : ∀ (n : List UInt8) (fuel at' : Nat) (ps : List Pc), (∀ c ∈ n, isG c = true) → n ≠ [] ∨ ps ≠ [] → n.length < fuel → (∀ k (h : k < n.length), s[at' + k]? = some n[k]) → (s[at' + n.length]? = none ∨ s[at' + n.length]? = some 46) →
    nodeG s fuel at' ps = .ok (ps ++ n.map itselfP, at' + n.length)
  | [], fuel, at', ps, _, hne, hf, _, he => by
    obtain ⟨f, rfl⟩ : ∃ f, fuel = f + 1 := ⟨fuel - 1, by simp at hf; omega⟩
    have hp : ps.isEmpty = false := by cases ps with | nil => simp at hne | cons a l => rfl
    simp only [List.length_nil, Nat.add_zero] at he
    unfold nodeG
    rcases he with he | he
    · rw [he]; simp [hp]
    · rw [he]; simp [hp]
  | c :: n, fuel, at', ps, hg, hne, hf, hs, he => by
    obtain ⟨f, rfl⟩ : ∃ f, fuel = f + 1 := ⟨fuel - 1, by simp at hf; omega⟩
    have h0 : s[at']? = some c := hs 0 (Nat.succ_pos _)
    have hc : isG c = true := hg c (by simp)
    have hne46 : c ≠ 46 := fun e => by rw [e] at hc; revert hc; decide
    have hne42 : c ≠ 42 := fun e => by rw [e] at hc; revert hc; decide
    have hne63 : c ≠ 63 := fun e => by rw [e] at hc; revert hc; decide
    have hne123 : c ≠ 123 := fun e => by rw [e] at hc; revert hc; decide
    have hne91 : c ≠ 91 := fun e => by rw [e] at hc; revert hc; decide
    unfold nodeG
    rw [h0]
    simp only [hne46, if_false]
    rw [show pieceG s at' c = .ok (itselfP c, at' + 1) by unfold pieceG; rw [if_neg hne42, if_neg hne63, if_neg hne123, if_neg hne91, if_pos hc]]
    simp only
    rw [node_path s n f (at' + 1) (ps ++ [itselfP c]) (fun d hd => hg d (by simp [hd])) (.inr (by simp)) (by simp at hf; omega) (fun k h => by
      have := hs (k + 1) (by simpa using h)
      rw [List.getElem_cons_succ] at this
      rw [← this]; congr 1; omega) (by
      have e : at' + 1 + n.length = at' + (c :: n).length := by simp; omega
      rw [e]; exact he)]
    rw [List.append_assoc, List.map_cons, List.length_cons]
    congr 2
    omega
end Go.Proofs.YtnnfhcbopchodaaDoor
namespace Go.Proofs.YtnnfhcbopchodaaDoor
open Go.RowKit
set_option linter.unusedVariables false
set_option linter.unusedSimpArgs false
set_option maxRecDepth 100000

def letterB (c : Int) : Bool := (decide (65 ≤ c) && decide (c ≤ 90)) || (decide (97 ≤ c) && decide (c ≤ 122)) || decide (c = 95)
def digitB (c : Int) : Bool := decide (48 ≤ c) && decide (c ≤ 57)
theorem letter_any (c : Int) (w : World) : Calls Tryd.prog 70 #[.int .u8 c] w fun e w' => e = .returned (.bool (letterB c)) ∧ w' = w := by
  by_cases h1 : 65 ≤ c <;> by_cases h2 : c ≤ 90 <;> by_cases h3 : 97 ≤ c <;> by_cases h4 : c ≤ 122 <;> by_cases h5 : c = 95
  all_goals first | (exfalso; omega) | skip
  all_goals first | have h6 : (c == 95) = false := by simp; omega | have h6 : (c == 95) = true := by simp; omega
  all_goals
    go_enter Tryd.func70, Tryd.ntmps70
    go_wp2_with fail
    go_ret
    exact ⟨by first | (simp [letterB, *]; done) | (simp [letterB, *]; omega), rfl⟩
theorem rletter_any (c : Int) (w : World) : Calls Tryd.prog 58 #[.int .u8 c] w fun e w' => e = .returned (.bool (letterB c)) ∧ w' = w := by
  by_cases h1 : 65 ≤ c <;> by_cases h2 : c ≤ 90 <;> by_cases h3 : 97 ≤ c <;> by_cases h4 : c ≤ 122 <;> by_cases h5 : c = 95
  all_goals first | (exfalso; omega) | skip
  all_goals first | have h6 : (c == 95) = false := by simp; omega | have h6 : (c == 95) = true := by simp; omega
  all_goals
    go_enter Tryd.func58, Tryd.ntmps58
    go_wp2_with fail
    go_ret
    exact ⟨by first | (simp [letterB, *]; done) | (simp [letterB, *]; omega), rfl⟩
theorem digit_any (c : Int) (w : World) : Calls Tryd.prog 71 #[.int .u8 c] w fun e w' => e = .returned (.bool (digitB c)) ∧ w' = w := by
  by_cases h1 : 48 ≤ c <;> by_cases h2 : c ≤ 57
  all_goals
    go_enter Tryd.func71, Tryd.ntmps71
    go_wp2_with fail
    go_ret
    exact ⟨by simp [digitB, *], rfl⟩
theorem rdigit_any (c : Int) (w : World) : Calls Tryd.prog 22 #[.int .u8 c] w fun e w' => e = .returned (.bool (digitB c)) ∧ w' = w := by
  by_cases h1 : 48 ≤ c <;> by_cases h2 : c ≤ 57
  all_goals
    go_enter Tryd.func22, Tryd.ntmps22
    go_wp2_with fail
    go_ret
    exact ⟨by simp [digitB, *], rfl⟩

/-- A label's name: a letter ahead, letters and digits behind. -/
def bt (s : ByteArray) (i : Nat) : Int := ((s.data[i]?).getD 0).toNat
theorem bt_eq (s : ByteArray) (i : Nat) (h : i < s.size) : (s[i].toNat : Int) = bt s i := by
  have h' : i < s.data.size := h
  unfold bt
  rw [Array.getElem?_eq_getElem h']
  rfl
def partB (c : Int) : Bool := letterB c || digitB c
def nameB (s : ByteArray) : Bool := decide (0 < s.size) && decide (s.size ≤ 64) && letterB (bt s 0) && (List.range s.size).all fun j => partB (bt s j)
theorem nameB_true {s : ByteArray} (h0 : 0 < s.size) (h1 : s.size ≤ 64) (h2 : letterB (bt s 0) = true) (h3 : ∀ j, j < s.size → partB (bt s j) = true) : nameB s = true := by
  unfold nameB
  simp [h0, h1, h2]
  exact h3
theorem nameB_false {s : ByteArray} (h : s.size = 0 ∨ 64 < s.size ∨ letterB (bt s 0) = false ∨ ∃ j, j < s.size ∧ partB (bt s j) = false) : nameB s = false := by
  unfold nameB
  rcases h with h | h | h | ⟨j, h1, h2⟩
  · simp [h]
  · simp; intros; omega
  · simp [h]
  · have : (List.range s.size).all (fun j => partB (bt s j)) = false := by
      rw [List.all_eq_false]
      exact ⟨j, List.mem_range.mpr h1, by simp [h2]⟩
    rw [this, Bool.and_false]

theorem empty_of {s : ByteArray} (h : s.size = 0) : s.toList = [] := by
  rw [ByteArray.toList_eq]
  have : s.data.toList.length = 0 := h
  exact List.length_eq_zero_iff.mp this
theorem not_empty_of {s : ByteArray} (h : 0 < s.size) : ¬ s.toList = [] := by
  rw [ByteArray.toList_eq]
  intro he
  have h2 : 0 < s.data.toList.length := h
  rw [he] at h2
  simp at h2
set_option maxHeartbeats 2000000 in
theorem rname_any (s : ByteArray) (w : World) : Calls Tryd.prog 35 #[.string s] w fun e w' => e = .returned (.bool (nameB s)) ∧ w' = w := by
  by_cases h0 : s.size = 0
  · have h1 : s.toList = [] := empty_of h0
    rw [nameB_false (.inl h0)]
    go_enter Tryd.func35, Tryd.ntmps35
    go_wp2_with fail
    go_ret
    exact ⟨rfl, rfl⟩
  · have hp : 0 < s.size := by omega
    have h1 : ¬ s.toList = [] := not_empty_of hp
    by_cases h2 : 64 < s.size
    · rw [nameB_false (.inr (.inl h2))]
      have h3 : ¬ (s.size : Int) ≤ 64 := by omega
      go_enter Tryd.func35, Tryd.ntmps35
      go_wp2_with fail
      go_ret
      exact ⟨rfl, rfl⟩
    · have h3 : (s.size : Int) ≤ 64 := by omega
      have h4 : s.toList.isEmpty = false := by simpa using h1
      have h5 : decide (64 < (s.size : Int)) = false := by simp; omega
      have e0 := bt_eq s 0 hp
      have E0 := Lib.hid e0
      clear e0
      go_enter Tryd.func35, Tryd.ntmps35
      go_wp2_with fail
      refine (rletter_any _ _).mono ?_
      rintro e w1 ⟨rfl, rfl⟩
      rw [E0.out]
      by_cases hL : letterB (bt s 0) = true
      · go_wp2_with fail
        go_loopw [3] (fun iv wr => ∃ i : Nat, iv = .int .i64 i ∧ 1 ≤ i ∧ i ≤ s.size ∧ wr = w1 ∧ Hid (∀ j, 1 ≤ j → j < i → partB (bt s j) = true)) (fun iv _ => s.size - (intOf iv).toNat)
        case atStart => exact ⟨1, rfl, Nat.le_refl _, hp, rfl, fun j h1 h2 => by omega⟩
        case round =>
          obtain ⟨i, rfl, hi1, hi2, rfl, HI⟩ := hrel
          by_cases hlt : i < s.size
          · have hltz : (i : Int) < (s.size : Int) := by omega
            have EI := Lib.hid (bt_eq s i hlt)
            have ea : ((i : Int)).toNat = i := by omega
            go_wp2_with fail
            refine (rletter_any _ _).mono ?_
            rintro e w2 ⟨rfl, rfl⟩
            rw [EI.out]
            by_cases hl : letterB (bt s i) = true
            · go_wp2_with fail
              go_roundw
              case rel => exact ⟨i + 1, by first | rfl | go_num, by omega, by omega, by trivial, fun j h1 h2 => by
                by_cases hj : j = i
                · subst hj; simp [partB, hl]
                · exact HI.out j h1 (by omega)⟩
              case measure => simp [intOf]; omega
            · have hl2 : letterB (bt s i) = false := by simpa using hl
              go_wp2_with fail
              refine (rdigit_any _ _).mono ?_
              rintro e w2 ⟨rfl, rfl⟩
              rw [EI.out]
              by_cases hd : digitB (bt s i) = true
              · go_wp2_with fail
                go_roundw
                case rel => exact ⟨i + 1, by first | rfl | go_num, by omega, by omega, by trivial, fun j h1 h2 => by
                  by_cases hj : j = i
                  · subst hj; simp [partB, hd]
                  · exact HI.out j h1 (by omega)⟩
                case measure => simp [intOf]; omega
              · have hd2 : digitB (bt s i) = false := by simpa using hd
                go_wp2_with fail
                go_ret
                exact ⟨by rw [nameB_false (.inr (.inr (.inr ⟨i, hlt, by simp [partB, hl2, hd2]⟩)))] <;> rfl, rfl⟩
          · have hltz : ¬ (i : Int) < (s.size : Int) := by omega
            go_wp2_with fail
            go_ret
            have hn := nameB_true hp (by omega) hL (fun j hj => by
              by_cases hj0 : j = 0
              · subst hj0; simp [partB, hL]
              · exact HI.out j (by omega) (by omega))
            exact ⟨by rw [hn] <;> rfl, rfl⟩
      · have hL2 : letterB (bt s 0) = false := by simpa using hL
        go_wp2_with fail
        go_ret
        exact ⟨by rw [nameB_false (.inr (.inr (.inl hL2)))] <;> rfl, rfl⟩
set_option maxHeartbeats 2000000 in
theorem name_any (s : ByteArray) (w : World) : Calls Tryd.prog 57 #[.string s] w fun e w' => e = .returned (.bool (nameB s)) ∧ w' = w := by
  by_cases h0 : s.size = 0
  · have h1 : s.toList = [] := empty_of h0
    rw [nameB_false (.inl h0)]
    go_enter Tryd.func57, Tryd.ntmps57
    go_wp2_with fail
    go_ret
    exact ⟨rfl, rfl⟩
  · have hp : 0 < s.size := by omega
    have h1 : ¬ s.toList = [] := not_empty_of hp
    by_cases h2 : 64 < s.size
    · rw [nameB_false (.inr (.inl h2))]
      have h3 : ¬ (s.size : Int) ≤ 64 := by omega
      go_enter Tryd.func57, Tryd.ntmps57
      go_wp2_with fail
      go_ret
      exact ⟨rfl, rfl⟩
    · have h3 : (s.size : Int) ≤ 64 := by omega
      have h4 : s.toList.isEmpty = false := by simpa using h1
      have h5 : decide (64 < (s.size : Int)) = false := by simp; omega
      have e0 := bt_eq s 0 hp
      have E0 := Lib.hid e0
      clear e0
      go_enter Tryd.func57, Tryd.ntmps57
      go_wp2_with fail
      refine (letter_any _ _).mono ?_
      rintro e w1 ⟨rfl, rfl⟩
      rw [E0.out]
      by_cases hL : letterB (bt s 0) = true
      · go_wp2_with fail
        go_loopw [19] (fun iv wr => ∃ i : Nat, iv = .int .i64 i ∧ i ≤ s.size ∧ wr = w1 ∧ Hid (∀ j, j < i → partB (bt s j) = true)) (fun iv _ => s.size - (intOf iv).toNat)
        case atStart => exact ⟨0, rfl, Nat.zero_le _, rfl, fun j h2 => absurd h2 (Nat.not_lt_zero _)⟩
        case round =>
          obtain ⟨i, rfl, hi2, rfl, HI⟩ := hrel
          by_cases hlt : i < s.size
          · have hltz : (i : Int) < (s.size : Int) := by omega
            have EI := Lib.hid (bt_eq s i hlt)
            have ea : ((i : Int)).toNat = i := by omega
            go_wp2_with fail
            refine (letter_any _ _).mono ?_
            rintro e w2 ⟨rfl, rfl⟩
            rw [EI.out]
            by_cases hl : letterB (bt s i) = true
            · go_wp2_with fail
              go_roundw
              case rel => exact ⟨i + 1, by first | rfl | go_num, by omega, by trivial, fun j h2 => by
                by_cases hj : j = i
                · subst hj; simp [partB, hl]
                · exact HI.out j (by omega)⟩
              case measure => simp [intOf]; omega
            · have hl2 : letterB (bt s i) = false := by simpa using hl
              go_wp2_with fail
              refine (digit_any _ _).mono ?_
              rintro e w2 ⟨rfl, rfl⟩
              rw [EI.out]
              by_cases hd : digitB (bt s i) = true
              · go_wp2_with fail
                go_roundw
                case rel => exact ⟨i + 1, by first | rfl | go_num, by omega, by trivial, fun j h2 => by
                  by_cases hj : j = i
                  · subst hj; simp [partB, hd]
                  · exact HI.out j (by omega)⟩
                case measure => simp [intOf]; omega
              · have hd2 : digitB (bt s i) = false := by simpa using hd
                go_wp2_with fail
                go_ret
                exact ⟨by rw [nameB_false (.inr (.inr (.inr ⟨i, hlt, by simp [partB, hl2, hd2]⟩)))] <;> rfl, rfl⟩
          · have hltz : ¬ (i : Int) < (s.size : Int) := by omega
            go_wp2_with fail
            go_ret
            have hn := nameB_true hp (by omega) hL (fun j hj => HI.out j (by omega))
            exact ⟨by rw [hn] <;> rfl, rfl⟩
      · have hL2 : letterB (bt s 0) = false := by simpa using hL
        go_wp2_with fail
        go_ret
        exact ⟨by rw [nameB_false (.inr (.inr (.inl hL2)))] <;> rfl, rfl⟩
end Go.Proofs.YtnnfhcbopchodaaDoor
namespace Go.Proofs.YtnnfhcbopchodaaDoor
open Go Go.RowKit
set_option linter.unusedVariables false
set_option linter.unusedSimpArgs false
set_option maxRecDepth 100000
def gB (c : Int) : Bool := letterB c || digitB c || decide (c = 45)
theorem gis_any (c : Int) (w : World) : Calls Tryd.prog 51 #[.int .u8 c] w fun e w' => e = .returned (.bool (gB c)) ∧ w' = w := by
  have HL := Lib.hid (fun w => letter_any c w)
  have HD := Lib.hid (fun w => digit_any c w)
  obtain ⟨r, hr⟩ : ∃ r, r = gB c := ⟨_, rfl⟩
  rw [← hr]
  unfold gB at hr
  obtain ⟨lb, hlb⟩ : ∃ b, b = letterB c := ⟨_, rfl⟩
  obtain ⟨db, hdb⟩ : ∃ b, b = digitB c := ⟨_, rfl⟩
  rw [← hlb] at HL hr
  rw [← hdb] at HD hr
  clear hlb hdb
  cases lb with
  | true =>
    replace hr : r = true := by rw [hr]; simp
    subst hr
    go_enter Tryd.func51, Tryd.ntmps51
    go_wp2_with fail
    refine (HL.out _).mono ?_
    rintro e w1 ⟨rfl, rfl⟩
    go_wp2_with fail
    go_ret
    exact ⟨rfl, rfl⟩
  | false =>
    cases db with
    | true =>
      replace hr : r = true := by rw [hr]; simp
      subst hr
      go_enter Tryd.func51, Tryd.ntmps51
      go_wp2_with fail
      refine (HL.out _).mono ?_
      rintro e w1 ⟨rfl, rfl⟩
      go_wp2_with fail
      refine (HD.out _).mono ?_
      rintro e w2 ⟨rfl, rfl⟩
      go_wp2_with fail
      go_ret
      exact ⟨rfl, rfl⟩
    | false =>
      by_cases h : c = 45
      · replace hr : r = true := by rw [hr, decide_eq_true h]; rfl
        subst hr h
        go_enter Tryd.func51, Tryd.ntmps51
        go_wp2_with fail
        refine (HL.out _).mono ?_
        rintro e w1 ⟨rfl, rfl⟩
        go_wp2_with fail
        refine (HD.out _).mono ?_
        rintro e w2 ⟨rfl, rfl⟩
        go_wp2_with fail
        go_ret
        exact ⟨rfl, rfl⟩
      · replace hr : r = false := by rw [hr, decide_eq_false h]; rfl
        have h1 : (c == 45) = false := by simpa using h
        subst hr
        clear h
        go_enter Tryd.func51, Tryd.ntmps51
        go_wp2_with fail
        refine (HL.out _).mono ?_
        rintro e w1 ⟨rfl, rfl⟩
        go_wp2_with fail
        refine (HD.out _).mono ?_
        rintro e w2 ⟨rfl, rfl⟩
        go_wp2_with fail
        go_ret
        exact ⟨rfl, rfl⟩
theorem gB_isG (c : UInt8) : gB (c.toNat : Int) = isG c := by
  have h : ∀ n : Fin 256, gB ((n : Nat) : Int) = isG (UInt8.ofNat n) := by decide +kernel
  have := h ⟨c.toNat, c.toNat_lt⟩
  rw [this]
  simp
end Go.Proofs.YtnnfhcbopchodaaDoor
namespace Go.Proofs.YtnnfhcbopchodaaDoor
open Go Go.RowKit
set_option linter.unusedVariables false
set_option linter.unusedSimpArgs false
set_option maxRecDepth 100000
/-- All blocks but those of B stand. -/
structure Kp (B : Nat → Prop) (w w' : World) : Prop where
  os : w'.os = w.os
  tape : w'.tape = w.tape
  output : w'.output = w.output
  size : w.heap.size ≤ w'.heap.size
  block : ∀ k, k < w.heap.size → ¬ B k → w'.heap[k]? = w.heap[k]?
section
variable {B C : Nat → Prop} {w w' w'' : World}
theorem Kp.refl (B : Nat → Prop) (w : World) : Kp B w w := ⟨rfl, rfl, rfl, Nat.le_refl _, fun _ _ _ => rfl⟩
theorem Kp.trans (h : Kp B w w') (k : Kp B w' w'') : Kp B w w'' := ⟨k.os.trans h.os, k.tape.trans h.tape, k.output.trans h.output, Nat.le_trans h.size k.size, fun i hi hb => (k.block i (Nat.lt_of_lt_of_le hi h.size) hb).trans (h.block i hi hb)⟩
/-- A later step may touch what was made since. -/
theorem Kp.trans_new (h : Kp B w w') (k : Kp C w' w'') (hc : ∀ b, C b → B b ∨ w.heap.size ≤ b) : Kp B w w'' := ⟨k.os.trans h.os, k.tape.trans h.tape, k.output.trans h.output, Nat.le_trans h.size k.size, fun i hi hb => by
  refine (k.block i (Nat.lt_of_lt_of_le hi h.size) ?_).trans (h.block i hi hb)
  intro h1
  rcases hc i h1 with h2 | h2
  · exact hb h2
  · omega⟩
theorem Kp.mono (h : Kp B w w') (hc : ∀ b, b < w.heap.size → B b → C b) : Kp C w w' := ⟨h.os, h.tape, h.output, h.size, fun k hk hb => h.block k hk fun h => hb (hc k hk h)⟩
theorem Kp.below {n : Nat} (h : Kp B w w') (hn : n ≤ w.heap.size) (hB : ∀ b, B b → n ≤ b) : Below n w w' := ⟨h.os, h.tape, h.output, h.size, fun k hk => h.block k (by omega) fun hb => by have := hB k hb; omega⟩
theorem Kp.of_below (h : Below w.heap.size w w') : Kp B w w' := ⟨h.os, h.tape, h.output, h.size, fun k hk _ => h.block k hk⟩
theorem Kp.of_grown {row : Option Nat} (h : w.grownBy w' row) (hr : ∀ b, row = some b → B b) : Kp B w w' := ⟨h.os, h.tape, h.output, h.size, fun k hk hb => h.block k hk fun e => hb (hr k e.symm)⟩
theorem Kp.drewN (h : Kp B w w') (n : Nat) : Kp B w (w'.drewN n) := ⟨h.os, h.tape, h.output, h.size, h.block⟩
theorem Kp.alloc (h : Kp B w w') (o : Obj) : Kp B w (w'.alloc o) := h.trans ⟨rfl, rfl, rfl, by simp, fun k hk _ => Below.heap_alloc _ _ _ hk⟩
theorem Kp.setCell (h : Kp B w w') {p : Addr} (hp : B p.block ∨ w.heap.size ≤ p.block) (u : Value) : Kp B w (w'.setCell p u) :=
  h.trans_new (C := fun b => b = p.block) ⟨rfl, rfl, rfl, by simp [World.setCell], fun k hk hb => Below.heap_setCell _ _ _ _ hb⟩ fun b e => by rw [e]; exact hp
theorem Kp.setRow (h : Kp B w w') {g : Nat} (hp : B g ∨ w.heap.size ≤ g) (cs : Array Value) : Kp B w (w'.setRow g cs) :=
  h.trans_new (C := fun b => b = g) ⟨rfl, rfl, rfl, by simp [World.setRow], fun k hk hb => setRow_other w' g k cs hb⟩ fun b e => by rw [e]; exact hp
theorem Kp.heap (h : Kp B w w') {b : Nat} {o : Obj} (hb : ¬ B b) (ho : w.heap[b]? = some o) : w'.heap[b]? = some o := by rw [h.block b (Array.getElem?_eq_some_iff.1 ho).1 hb]; exact ho
theorem Kp.cell (h : Kp B w w') {p : Addr} {u : Value} (hb : ¬ B p.block) (hu : w.cell? p = some u) : w'.cell? p = some u := (World.cell?_of_block (h.block p.block (World.block_lt_of_cell? w p hu) hb)).trans hu
end
theorem heap_lt {w : World} {b : Nat} {o : Obj} (h : w.heap[b]? = some o) : b < w.heap.size := (Array.getElem?_eq_some_iff.1 h).1
theorem heap_setCell_at {w : World} {g i : Nat} {cs : Array Value} {t : TypeId} {fr : Nat × Nat} (u : Value) (h : w.heap[g]? = some (.cells cs t fr)) : (w.setCell ⟨g, i, none⟩ u).heap[g]? = some (.cells (cs.setIfInBounds i u) t fr) := by
  simp [World.setCell, Array.getElem?_modify, h]
theorem frozen_row {w : World} {g i : Nat} {cs : Array Value} {t : TypeId} (h : w.heap[g]? = some (.cells cs t (0, 0))) : w.frozen? ⟨g, i, none⟩ = false := by
  simp [World.frozen?, h]
/-- A slice that reads as a list, in no block of B's. -/
def SlA {α : Type} (enc : α → List Value) (B : Nat → Prop) (w : World) (v : Value) (xs : List α) : Prop := Sl enc w v xs ∧ (xs ≠ [] → ∀ b, v.ownBlock = some b → ¬ B b)
section
variable {α : Type} {enc : α → List Value} {B C : Nat → Prop} {w w' : World} {v : Value} {xs : List α}
theorem Sl.kp (h : SlA enc B w v xs) (hk : Kp B w w') : Sl enc w' v xs := by
  obtain ⟨⟨a, cap, rfl, hm, hn, hc⟩, hb⟩ := h
  refine ⟨a, cap, rfl, hm, hn, fun hx => ?_⟩
  obtain ⟨b, off, rfl, hd⟩ := hc hx
  exact ⟨b, off, rfl, fun j u hu => hk.cell (p := ⟨b, off + j, none⟩) (hb hx b rfl) (hd j u hu)⟩
theorem SlA.kp (h : SlA enc B w v xs) (hk : Kp B w w') : SlA enc B w' v xs := ⟨Sl.kp h hk, h.2⟩
theorem SlA.mono (h : SlA enc B w v xs) (hc : ∀ b, C b → B b) : SlA enc C w v xs := ⟨h.1, fun hx b hb hC => h.2 hx b hb (hc b hC)⟩
theorem SlA.nil (B : Nat → Prop) (w : World) : SlA enc B w (.slice none 0 0) [] := ⟨Sl.nil w, fun h => (h rfl).elim⟩
theorem Sl.lt' (hpos : ∀ x, 0 < (enc x).length) (h : Sl enc w v xs) (hx : xs ≠ []) {b : Nat} (hb : v.ownBlock = some b) : b < w.heap.size := by
  obtain ⟨a, cap, rfl, hm, hn, hc⟩ := h
  obtain ⟨b', off, rfl, hd⟩ := hc hx
  obtain rfl : b' = b := by simpa [Value.ownBlock] using hb
  cases xs with
  | nil => exact absurd rfl hx
  | cons x r =>
    cases he : enc x with
    | nil => have := hpos x; rw [he] at this; simp at this
    | cons u us => exact World.block_lt_of_cell? w _ (hd 0 u (by rw [List.flatMap_cons, he]; rfl))
/-- What lies among blocks that are there does not lie among new ones. -/
theorem SlA.new (hpos : ∀ x, 0 < (enc x).length) (h : SlA enc B w v xs) : SlA enc (fun b => B b ∨ w.heap.size ≤ b) w v xs := ⟨h.1, fun hx b hb hC => by
  rcases hC with hC | hC
  · exact h.2 hx b hb hC
  · have := Sl.lt' hpos h.1 hx hb; omega⟩
end
theorem senc1_pos (x : ByteArray) : 0 < (senc1 x).length := Nat.zero_lt_one
/-- The set's cells. -/
def pbits (f : UInt8 → Bool) : List Value := (List.range 256).map fun i => .bool (f (UInt8.ofNat i))
theorem pbits_len (f : UInt8 → Bool) : (pbits f).length = 256 := by simp [pbits]
/-- A piece as it lies: where its words are, and what it is. -/
abbrev ZPc := Value × Pc
def bsOf (l : List UInt8) : ByteArray := ⟨l.toArray⟩
def zpc (z : ZPc) : List Value := .int .i64 z.2.kind :: .int .u8 z.2.text.toNat :: (pbits z.2.set ++ [z.1])
theorem zpc_len (z : ZPc) : (zpc z).length = 259 := by simp [zpc, pbits_len]
theorem zpc_pos (z : ZPc) : 0 < (zpc z).length := by rw [zpc_len]; decide
theorem zpc_size (z : ZPc) : (zpc z).toArray.size = 259 := by rw [List.size_toArray, zpc_len]
theorem zpc_0 (z : ZPc) : (zpc z)[0]? = some (.int .i64 z.2.kind) := rfl
theorem zpc_1 (z : ZPc) : (zpc z)[1]? = some (.int .u8 z.2.text.toNat) := rfl
theorem zpc_set (z : ZPc) (i : Nat) (h : i < 256) : (zpc z)[2 + i]? = some (.bool (z.2.set (UInt8.ofNat i))) := by
  rw [show 2 + i = i + 1 + 1 by omega]
  show (pbits z.2.set ++ [z.1])[i]? = _
  rw [List.getElem?_append_left (by rw [pbits_len]; exact h)]
  simp [pbits, h]
theorem zpc_258 (z : ZPc) : (zpc z)[258]? = some z.1 := by
  show (pbits z.2.set ++ [z.1])[256]? = _
  rw [List.getElem?_append_right (by rw [pbits_len]; exact Nat.le_refl _), pbits_len]
  rfl
theorem zpc_upd0 (v : Value) (p : Pc) (k : Nat) : (zpc (v, p)).toArray.setIfInBounds 0 (.int .i64 k) = (zpc (v, { p with kind := k })).toArray := by
  simp [zpc]
theorem zpc_upd258 (v v' : Value) (p q : Pc) (h1 : p.kind = q.kind) (h2 : p.text = q.text) (h3 : p.set = q.set) : (zpc (v, p)).toArray.setIfInBounds 258 v' = (zpc (v', q)).toArray := by
  rw [List.setIfInBounds_toArray]
  congr 1
  unfold zpc
  rw [h1, h2, h3]
  show _ :: _ :: (pbits q.set ++ [v]).set 256 v' = _
  rw [List.set_append_right _ _ (by rw [pbits_len]; exact Nat.le_refl _), pbits_len]
  rfl
theorem pbits_upd (f : UInt8 → Bool) (x : UInt8) (b : Bool) : (pbits f).set x.toNat (.bool b) = pbits fun y => if y = x then b else f y := by
  apply List.ext_getElem
  · simp [pbits]
  · intro i h1 h2
    have hi : i < 256 := by rw [pbits_len] at h2; exact h2
    rw [List.getElem_set]
    simp only [pbits, List.getElem_map, List.getElem_range]
    by_cases h : x.toNat = i
    · rw [if_pos h, if_pos (by rw [← h]; simp)]
    · rw [if_neg h, if_neg]
      intro e
      apply h
      rw [← e, UInt8.toNat_ofNat', Nat.mod_eq_of_lt hi]
theorem zpc_updset (v : Value) (p : Pc) (x : UInt8) (b : Bool) : (zpc (v, p)).toArray.setIfInBounds (2 + x.toNat) (.bool b) = (zpc (v, { p with set := fun y => if y = x then b else p.set y })).toArray := by
  rw [List.setIfInBounds_toArray]
  congr 1
  unfold zpc
  rw [show 2 + x.toNat = x.toNat + 1 + 1 by omega]
  show _ :: _ :: (pbits p.set ++ [v]).set x.toNat (.bool b) = _
  rw [List.set_append_left _ _ (by rw [pbits_len]; exact x.toNat_lt), pbits_upd]
theorem zpc_one {z : ZPc} (h : z.1.oneCell' = true) : ∀ u ∈ zpc z, u.oneCell' = true := by
  intro u hu
  unfold zpc at hu
  rcases List.mem_cons.1 hu with rfl | hu
  · rfl
  rcases List.mem_cons.1 hu with rfl | hu
  · rfl
  rcases List.mem_append.1 hu with hu | hu
  · obtain ⟨i, -, rfl⟩ := List.mem_map.1 hu; rfl
  · rw [List.mem_singleton.1 hu]; exact h
theorem zpc_all {z : ZPc} (h : z.1.oneCell' = true) : (zpc z).toArray.all (·.oneCell') = true := all_oneCell_toArray (zpc_one h)
abbrev PcT : TypeId := 67
theorem Tryd.infoPc : (Tryd.prog.info? PcT).map (·.size) = some 259 := by kernel_rfl
theorem Tryd.infoPcs : (Tryd.prog.info? PcT).map (fun i => (i.zero, i.size, i.bytes)) = some (some (.agg (zpc (.slice none 0 0, ⟨0, 0, fun _ => false, []⟩)).toArray), 259, 296) := by kernel_rfl
theorem Tryd.pcRow : ∃ d, Tryd.prog.underlying PcT = some d ∧ d.isRow = true := by
  have h : ((Tryd.prog.underlying PcT).map (·.isRow)) = some true := by kernel_rfl
  cases hu : Tryd.prog.underlying PcT with
  | none => rw [hu] at h; cases h
  | some d => rw [hu] at h; exact ⟨d, rfl, by simpa using h⟩
theorem Tryd.buildK (k : Nat) : Tryd.prog.built PcT [(0, .int .i64 k)] = some (zpc (.slice none 0 0, ⟨k, 0, fun _ => false, []⟩)).toArray := by kernel_rfl
theorem Tryd.buildKT (k : Nat) (c : UInt8) : Tryd.prog.built PcT [(0, .int .i64 k), (1, .int .u8 c.toNat)] = some (zpc (.slice none 0 0, ⟨k, c, fun _ => false, []⟩)).toArray := by kernel_rfl
theorem Tryd.buildS (z : ZPc) : Tryd.prog.builtSlice PcT 1 [(0, .agg (zpc z).toArray)] = some (zpc z).toArray := by
  kernel_rfl
end Go.Proofs.YtnnfhcbopchodaaDoor
namespace Go.Proofs.YtnnfhcbopchodaaDoor
open Go Go.RowKit
set_option linter.unusedVariables false
set_option linter.unusedSimpArgs false
set_option maxRecDepth 100000
/-- A reader: its text, place, and where it is none. -/
def RB (w : World) (rb : Nat) (s : ByteArray) (at' : Nat) (bad : Int) : Prop := w.heap[rb]? = some (.cells #[.string s, .int .i64 at', .int .i64 bad] 54 (0, 0))
def bAt (s : ByteArray) (i : Nat) : UInt8 := s.data.toList.getD i 0
theorem bAt_get {s : ByteArray} {i : Nat} (h : i < s.size) : s[i] = bAt s i := by
  have h2 : i < s.data.toList.length := h
  unfold bAt
  rw [List.getD_eq_getElem?_getD, List.getElem?_eq_getElem h2]
  rfl
theorem bAt_some {s : ByteArray} {i : Nat} (h : i < s.size) : s.data.toList[i]? = some (bAt s i) := by
  have h2 : i < s.data.toList.length := h
  unfold bAt
  rw [List.getD_eq_getElem?_getD, List.getElem?_eq_getElem h2]
  rfl
theorem bAt_none {s : ByteArray} {i : Nat} (h : s.size ≤ i) : s.data.toList[i]? = none := by
  have h2 : s.data.toList.length ≤ i := h
  exact List.getElem?_eq_none h2
section
variable {w : World} {rb at' : Nat} {s : ByteArray} {bad : Int}
theorem RB.c0 (h : RB w rb s at' bad) : w.cell? ⟨rb, 0, none⟩ = some (.string s) := by rw [cell_of_row w rb 0 _ _ _ h]; rfl
theorem RB.c1 (h : RB w rb s at' bad) : w.cell? ⟨rb, 1, none⟩ = some (.int .i64 at') := by rw [cell_of_row w rb 1 _ _ _ h]; rfl
theorem RB.c2 (h : RB w rb s at' bad) : w.cell? ⟨rb, 2, none⟩ = some (.int .i64 bad) := by rw [cell_of_row w rb 2 _ _ _ h]; rfl
theorem RB.fz (h : RB w rb s at' bad) (i : Nat) : w.frozen? ⟨rb, i, none⟩ = false := frozen_row h
theorem RB.drewN (h : RB w rb s at' bad) (n : Nat) : RB (w.drewN n) rb s at' bad := h
theorem RB.put1 (h : RB w rb s at' bad) (a2 : Nat) : RB (w.setCell ⟨rb, 1, none⟩ (.int .i64 a2)) rb s a2 bad := heap_setCell_at _ h
theorem RB.put2 (h : RB w rb s at' bad) (b2 : Int) : RB (w.setCell ⟨rb, 2, none⟩ (.int .i64 b2)) rb s at' b2 := heap_setCell_at _ h
theorem RB.kp {B : Nat → Prop} {w' : World} (h : RB w rb s at' bad) (hk : Kp B w w') (hb : ¬ B rb) : RB w' rb s at' bad := hk.heap hb h
end
set_option maxHeartbeats 1000000 in
theorem byte_some (rb : Nat) (s : ByteArray) (at' k : Nat) (bad : Int) (w : World) (h : RB w rb s at' bad) (hk : at' + k < s.size) (hs : s.size ≤ 4096) :
    Calls Tryd.prog 24 #[.pointer (some ⟨rb, 0, none⟩), .int .i64 k] w fun e w' => e = .returned (.tuple #[.int .u8 (bAt s (at' + k)).toNat, .bool true]) ∧ ∃ n, w' = w.drewN n := by
  have h0 := h.c0
  have h1 := h.c1
  clear h
  have hlt : at' + k < s.size := hk
  have HG := Lib.hid (bAt_get hk)
  have b1 : ((at' : Int) + k) < s.size := by omega
  have b2 : (0 : Int) ≤ (at' : Int) + k := by omega
  have b3 : ((at' : Int) + k).toNat = at' + k := by omega
  have b4 : IntKind.i64.wrap ((at' : Int) + k) = (at' : Int) + k := IntWalk.i64_in _ (by omega)
  have g1 : decide ((s.size : Int) ≤ (at' : Int) + k) = false := by rw [decide_eq_false_iff_not]; omega
  go_enter Tryd.func24, Tryd.ntmps24
  go_wp2_with fail
  go_quiet (fail)
  clear g1
  go_wp2_with fail
  go_quiet (fail)
  go_wp2_with fail
  go_ret2
  exact ⟨by rw [← HG.out]; rfl, _, World.drewN_drewN _ _ _⟩
set_option maxHeartbeats 1000000 in
theorem byte_none (rb : Nat) (s : ByteArray) (at' k : Nat) (bad : Int) (w : World) (h : RB w rb s at' bad) (hk : s.size ≤ at' + k) (hs : s.size ≤ 4096) (ha : at' ≤ 5000) (hk2 : k ≤ 5000) :
    Calls Tryd.prog 24 #[.pointer (some ⟨rb, 0, none⟩), .int .i64 k] w fun e w' => e = .returned (.tuple #[.int .u8 0, .bool false]) ∧ ∃ n, w' = w.drewN n := by
  have h0 := h.c0
  have h1 := h.c1
  clear h
  have b2 : (0 : Int) ≤ (at' : Int) + k := by omega
  have b4 : IntKind.i64.wrap ((at' : Int) + k) = (at' : Int) + k := IntWalk.i64_in _ (by omega)
  have g1 : decide ((s.size : Int) ≤ (at' : Int) + k) = true := by rw [decide_eq_true_iff]; omega
  clear hk
  go_enter Tryd.func24, Tryd.ntmps24
  go_wp2_with fail
  go_quiet (fail)
  go_wp2_with fail
  go_ret2
  exact ⟨rfl, _, rfl⟩
theorem fail_any (rb : Nat) (s : ByteArray) (at' x : Nat) (w : World) (h : RB w rb s at' (-1)) :
    Calls Tryd.prog 46 #[.pointer (some ⟨rb, 0, none⟩), .int .i64 x] w fun e w' => e = .returned (.tuple #[]) ∧ RB w' rb s at' x ∧ Kp (· = rb) w w' := by
  have HR := Lib.hid h
  have h2 := h.c2
  have hz := h.fz 2
  clear h
  go_enter Tryd.func46, Tryd.ntmps46
  go_wp2_with fail
  go_end0
  exact ⟨rfl, HR.out.put2 _, (Kp.refl (· = rb) w).setCell (p := ⟨rb, 2, none⟩) (.inl rfl) _⟩
theorem byte0_some (rb : Nat) (s : ByteArray) (at' : Nat) (w : World) (h : RB w rb s at' (-1)) (hs : s.size ≤ 4096) (hk : at' < s.size) : Calls Tryd.prog 24 #[.pointer (some ⟨rb, 0, none⟩), .int .i64 0] w fun e w' => e = .returned (.tuple #[.int .u8 (bAt s at').toNat, .bool true]) ∧ ∃ n, w' = w.drewN n := byte_some rb s at' 0 _ w h hk hs
theorem byte1_some (rb : Nat) (s : ByteArray) (at' : Nat) (w : World) (h : RB w rb s at' (-1)) (hs : s.size ≤ 4096) (hk : at' + 1 < s.size) : Calls Tryd.prog 24 #[.pointer (some ⟨rb, 0, none⟩), .int .i64 1] w fun e w' => e = .returned (.tuple #[.int .u8 (bAt s (at' + 1)).toNat, .bool true]) ∧ ∃ n, w' = w.drewN n := byte_some rb s at' 1 _ w h hk hs
theorem byte0_none (rb : Nat) (s : ByteArray) (at' : Nat) (w : World) (h : RB w rb s at' (-1)) (hs : s.size ≤ 4096) (hk : s.size ≤ at') (ha : at' ≤ 5000) : Calls Tryd.prog 24 #[.pointer (some ⟨rb, 0, none⟩), .int .i64 0] w fun e w' => e = .returned (.tuple #[.int .u8 0, .bool false]) ∧ ∃ n, w' = w.drewN n := byte_none rb s at' 0 _ w h hk hs ha (by decide)
theorem byte1_none (rb : Nat) (s : ByteArray) (at' : Nat) (w : World) (h : RB w rb s at' (-1)) (hs : s.size ≤ 4096) (hk : s.size ≤ at' + 1) (ha : at' ≤ 5000) : Calls Tryd.prog 24 #[.pointer (some ⟨rb, 0, none⟩), .int .i64 1] w fun e w' => e = .returned (.tuple #[.int .u8 0, .bool false]) ∧ ∃ n, w' = w.drewN n := byte_none rb s at' 1 _ w h hk hs ha (by decide)
theorem bAt_over (s : ByteArray) (i : Nat) (hk : s.size ≤ i) : bAt s i = 0 := by
  have h2 : s.data.toList.length ≤ i := hk
  unfold bAt
  rw [List.getD_eq_getElem?_getD, List.getElem?_eq_none h2]; rfl
/-- The next byte but one, if there is one. -/
theorem byte1_any (rb : Nat) (s : ByteArray) (at' : Nat) (w : World) (h : RB w rb s at' (-1)) (hs : s.size ≤ 4096) (ha : at' ≤ 5000) : Calls Tryd.prog 24 #[.pointer (some ⟨rb, 0, none⟩), .int .i64 1] w fun e w' => e = .returned (.tuple #[.int .u8 (bAt s (at' + 1)).toNat, .bool (decide (at' + 1 < s.size))]) ∧ ∃ n, w' = w.drewN n := by
  by_cases hk : at' + 1 < s.size
  · rw [decide_eq_true hk]; exact byte1_some rb s at' w h hs hk
  · rw [decide_eq_false hk, bAt_over s _ (by omega)]; exact byte1_none rb s at' w h hs (by omega) ha
end Go.Proofs.YtnnfhcbopchodaaDoor
