/- Steps of walks at whole pieces; a label that is reached by a jump or by falling through. Words in braces: the walk. (Printed by gen_gr4.py.) (Several texts in one file, by merge.py.) -/
import Derived.Test.YtnnfhcbopchodaaDoorZN1
import Derived.ScopeJumps
import Derived.Deep.AppendLies
namespace Go.Proofs.YtnnfhcbopchodaaDoor
open Go Go.RowKit
set_option linter.unusedVariables false
set_option linter.unusedSimpArgs false
set_option maxRecDepth 100000
/-- A label that is reached by a jump or by falling through. -/
theorem wp_jump_fall {P : Program} {Q : Exit → Act → World → Prop} {a : Act} {w : World} {c R : Code} (l : Nat) (J : Act → World → Prop) (m : Act → World → Nat) (hf : findLabel c l = some (.seq .skip R))
    (first : (∀ a w, J a w → R.wp P (Exit.jump l J Q) a w) → c.wp P (Exit.jump l J Q) a w)
    (pass : ∀ a w, J a w → R.wp P (Exit.jump l (fun a' w' => J a' w' ∧ m a' w' < m a w) Q) a w) : (Code.scope c).wp P Q a w := by
  refine wp_scope_jumps l J m hf (first fun a w h => Code.wp_mono (fun e b v hq => ?_) (pass a w h)) (fun a w h => wp_seq (wp_skip (pass a w h)))
  cases e with
  | goto l' => exact ⟨hq.1, hq.2.1⟩
  | normal => exact hq
  | exit id => exact hq
  | ret => exact hq
  | panic ch => exact hq
  | outgrown => exact hq
/-- A piece behind a pointer. -/
def PcB (w : World) (g : Nat) (z : ZPc) : Prop := w.heap[g]? = some (.cells (zpc z).toArray PcT (0, 0))
def kP (k : Nat) : Pc := ⟨k, 0, fun _ => false, []⟩
def zP (k : Nat) : ZPc := (.slice none 0 0, kP k)
section
variable {w w' : World} {g : Nat} {z : ZPc} {B : Nat → Prop}
theorem PcB.lt (h : PcB w g z) : g < w.heap.size := heap_lt h
theorem PcB.kp (h : PcB w g z) (hk : Kp B w w') (hb : ¬ B g) : PcB w' g z := hk.heap hb h
theorem PcB.c0 (h : PcB w g z) : w.cell? ⟨g, 0, none⟩ = some (.int .i64 z.2.kind) := by rw [cell_of_row w g 0 _ _ _ h, List.getElem?_toArray]; exact zpc_0 z
theorem PcB.c1 (h : PcB w g z) : w.cell? ⟨g, 1, none⟩ = some (.int .u8 z.2.text.toNat) := by rw [cell_of_row w g 1 _ _ _ h, List.getElem?_toArray]; exact zpc_1 z
theorem PcB.cs (h : PcB w g z) (i : Nat) (hi : i < 256) : w.cell? ⟨g, 2 + i, none⟩ = some (.bool (z.2.set (UInt8.ofNat i))) := by rw [cell_of_row w g (2 + i) _ _ _ h, List.getElem?_toArray]; exact zpc_set z i hi
theorem PcB.c258 (h : PcB w g z) : w.cell? ⟨g, 258, none⟩ = some z.1 := by rw [cell_of_row w g 258 _ _ _ h, List.getElem?_toArray]; exact zpc_258 z
theorem PcB.fz (h : PcB w g z) (i : Nat) : w.frozen? ⟨g, i, none⟩ = false := frozen_row h
theorem PcB.putKind (h : PcB w g z) (k : Nat) : PcB (w.setCell ⟨g, 0, none⟩ (.int .i64 k)) g (z.1, { z.2 with kind := k }) := by
  unfold PcB; rw [← zpc_upd0 z.1 z.2]; exact heap_setCell_at _ h
theorem PcB.putWords (h : PcB w g z) (v : Value) (ws : List (List UInt8)) : PcB (w.setCell ⟨g, 258, none⟩ v) g (v, { z.2 with words := ws }) := by
  unfold PcB; rw [← zpc_upd258 z.1 v z.2 { z.2 with words := ws } rfl rfl rfl]; exact heap_setCell_at _ h
theorem PcB.putSet (h : PcB w g z) (x : UInt8) (b : Bool) : PcB (w.setCell ⟨g, 2 + x.toNat, none⟩ (.bool b)) g (z.1, { z.2 with set := fun y => if y = x then b else z.2.set y }) := by
  unfold PcB; rw [← zpc_updset z.1 z.2]; exact heap_setCell_at _ h
end
section
variable {ops : Array Oper} {rest : List Oper} {o : Oper} {a : Act} {w : World} {Q : Exit → Act → World → Prop}
theorem Tryd.zeroPc (w : World) : (zeroValue PcT).run Tryd.prog w = .ok (.agg (zpc (zP 0)).toArray) w := by
  obtain ⟨i, hi, h0, h1, h2⟩ := info_parts Tryd.infoPcs
  simp [zeroValue, typeInfo, hi, h0]
  rfl
theorem Tryd.stepAllocPc {n : Nat} (hg : o.guard = none) (ho : o.op = .alloc PcT) (hn : w.heap.size = n)
    (h : ∀ W, PcB W n (zP 0) → W.heap.size = n + 1 → Kp (fun _ => False) w W → wpList Tryd.prog ops Q rest (a.put o.dst (.pointer (some ⟨n, 0, none⟩))) W) : wpList Tryd.prog ops Q (o :: rest) a w := by
  subst hn
  refine Great.wpList_runTo hg o.dst rfl (.pointer (some ⟨w.heap.size, 0, none⟩)) (w.alloc (.cells (zpc (zP 0)).toArray PcT)) ?_ (h _ (heap_new _ _) (by simp) ((Kp.refl _ _).alloc _))
  unfold execOp
  simp only [ho, Instr.alloc, Sem.run_bind, Tryd.zeroPc, Result.andThen_ok]
  rfl
theorem Tryd.stepBuildK (k : Nat) (hg : o.guard = none) (ho : o.op = .build PcT #[(0, .const (.int .i64 k))])
    (h : wpList Tryd.prog ops Q rest (a.put o.dst (.agg (zpc (zP k)).toArray)) w) : wpList Tryd.prog ops Q (o :: rest) a w := by
  have e : ((#[(0, Operand.const (.int .i64 k))] : Array (Nat × Operand)).map fun (i, x) => (i, a.eval x)).toList = [(0, .int .i64 k)] := by simp [Act.eval]
  have hb := Tryd.buildK k
  rw [← e] at hb
  refine wpList_build hg PcT _ ho ?_ ?_
  · rw [hb]; rfl
  · rw [hb]; exact h
theorem Tryd.stepBuildKT (k : Nat) (x : Operand) (c : UInt8) (hg : o.guard = none) (ho : o.op = .build PcT #[(0, .const (.int .i64 k)), (1, x)]) (hx : a.eval x = .int .u8 c.toNat)
    (h : wpList Tryd.prog ops Q rest (a.put o.dst (.agg (zpc (.slice none 0 0, ⟨k, c, fun _ => false, []⟩)).toArray)) w) : wpList Tryd.prog ops Q (o :: rest) a w := by
  have e : ((#[(0, Operand.const (.int .i64 k)), (1, x)] : Array (Nat × Operand)).map fun (i, x) => (i, a.eval x)).toList = [(0, .int .i64 k), (1, .int .u8 c.toNat)] := by
    simp only [List.map_toArray, List.map_cons, List.map_nil, hx]
    simp [Act.eval]
  have hb := Tryd.buildKT k c
  rw [← e] at hb
  refine wpList_build hg PcT _ ho ?_ ?_
  · rw [hb]; rfl
  · rw [hb]; exact h
/-- A whole piece is stored behind a pointer. -/
theorem Tryd.stepStorePc {z z' : ZPc} (x y : Operand) (g : Nat) (hg : o.guard = none) (ho : o.op = .store PcT x y) (hx : a.eval x = .pointer (some ⟨g, 0, none⟩)) (hy : a.eval y = .agg (zpc z').toArray) (hz : PcB w g z) (h1 : z'.1.oneCell' = true)
    (h : ∀ W, PcB W g z' → W.heap.size = w.heap.size → Kp (· = g) w W → wpList Tryd.prog ops Q rest (a.put o.dst undef) W) : wpList Tryd.prog ops Q (o :: rest) a w :=
  wpList_store_row hg PcT x y ho g _ hx hy PcT _ hz (by rw [zpc_size]; exact Tryd.infoPc) (by rw [zpc_size, zpc_size]) (zpc_all h1) (h _ (setRow_heap _ _ _ _ _ _ hz) (by simp [World.setRow]) ((Kp.refl (· = g) w).setRow (g := g) (.inl rfl) _))
theorem Tryd.stepLoadPc {z : ZPc} (x : Operand) (g : Nat) (hg : o.guard = none) (ho : o.op = .load PcT x) (hx : a.eval x = .pointer (some ⟨g, 0, none⟩)) (hz : PcB w g z)
    (h : wpList Tryd.prog ops Q rest (a.put o.dst (.agg (zpc z).toArray)) w) : wpList Tryd.prog ops Q (o :: rest) a w := by
  obtain ⟨d, hd, hr⟩ := Tryd.pcRow
  exact wpList_load_row hg PcT x ho g hx PcT _ _ d hz hd (by cases d <;> simp_all) (by rw [zpc_size]; exact Tryd.infoPc) h
/-- What a piece in a result's cell answers. -/
theorem Tryd.resultPc {fn : Func} {p : Tmp} {tmps : Array Value} {w : World} {g : Nat} {z : ZPc} (h : fn.results = #[.cell p PcT]) (hp : tmps.getD p undef = .pointer (some ⟨g, 0, none⟩)) (hz : PcB w g z) :
    (results fn tmps).run Tryd.prog w = .ok (.agg (zpc z).toArray) w := by
  obtain ⟨d, hd, hr⟩ := Tryd.pcRow
  exact results_cell_row h tmps w g PcT _ _ d hp hz hd (by cases d <;> simp_all) (by rw [zpc_size]; exact Tryd.infoPc)
end
end Go.Proofs.YtnnfhcbopchodaaDoor
namespace Go.Proofs.YtnnfhcbopchodaaDoor
open Go Go.RowKit
set_option linter.unusedVariables false
set_option linter.unusedSimpArgs false
set_option maxRecDepth 100000
def wenc (l : List UInt8) : List Value := [.string ⟨l.toArray⟩]
theorem wenc_len (l : List UInt8) : (wenc l).length = 1 := rfl
theorem wenc_pos (l : List UInt8) : 0 < (wenc l).length := Nat.zero_lt_one
theorem wenc_one (l : List (List UInt8)) : ∀ u ∈ l.flatMap wenc, u.oneCell' = true := by
  intro u hu
  obtain ⟨x, -, hx⟩ := List.mem_flatMap.1 hu
  rw [List.mem_singleton.1 hx]; rfl
theorem ext_list (s : ByteArray) (a b : Nat) : (s.extract a b).data.toList = (s.data.toList.take b).drop a := by
  rw [ByteArray.data_extract, Array.toList_extract, List.extract_eq_take_drop, List.drop_take]
theorem ext_word (s : ByteArray) (a b : Nat) : (⟨((s.data.toList.take b).drop a).toArray⟩ : ByteArray) = s.extract a b := by
  rw [← ext_list]
/-- What becomes of a piece that is read. -/
def PcRes (R : Except Nat (Pc × Nat)) (p : Pc) (at' : Nat) (bad : Int) : Prop :=
  match R with
  | .ok (q, a) => p = q ∧ at' = a ∧ bad = -1
  | .error b => bad = b
def PcPost (s : ByteArray) (rb : Nat) (w : World) (R : Except Nat (Pc × Nat)) (e : Ending) (w' : World) : Prop :=
  ∃ (z : ZPc) (at' : Nat) (bad : Int), e = .returned (.agg (zpc z).toArray) ∧ RB w' rb s at' bad ∧ at' ≤ s.size + 3 ∧ Kp (· = rb) w w' ∧ SlA wenc (· < w.heap.size) w' z.1 z.2.words ∧ PcRes R z.2 at' bad
def atOf (w : World) (rb : Nat) : Nat := match w.cell? ⟨rb, 1, none⟩ with | some (.int _ n) => n.toNat | _ => 0
theorem RB.atOf {w : World} {rb at' : Nat} {s : ByteArray} {bad : Int} (h : RB w rb s at' bad) : atOf w rb = at' := by unfold Go.Proofs.YtnnfhcbopchodaaDoor.atOf; rw [h.c1]; rfl
def BrJ (s : ByteArray) (rb n : Nat) (w : World) (R : Except Nat (Pc × Nat)) (a : Act) (W : World) : Prop :=
  ∃ (fr at' f : Nat) (v : Value) (ws : List (List UInt8)) (u : Nat → Value), a = { tmps := #[.pointer (some ⟨rb, 0, none⟩), u 1, .pointer (some ⟨n, 0, none⟩), .pointer (some ⟨n + 1, 0, none⟩), .int .i64 fr, u 5, u 6, u 7, u 8, u 9, u 10, u 11, u 12, u 13, u 14, u 15, u 16, u 17, u 18, u 19, u 20, u 21, u 22, u 23, u 24, u 25, u 26, u 27, u 28, u 29, u 30, u 31, u 32, u 33, u 34, u 35, u 36, u 37, u 38, u 39, u 40, u 41, u 42, u 43, u 44, u 45, u 46, u 47, u 48, u 49, u 50, u 51, u 52, u 53, u 54, u 55, u 56, u 57, u 58, u 59, u 60, u 61, u 62, u 63, u 64, u 65, u 66, u 67, u 68, u 69, u 70, u 71, u 72, u 73, u 74, u 75, u 76, u 77, u 78, u 79, u 80, u 81, u 82, u 83, u 84, u 85, u 86, u 87, u 88, u 89, u 90], defers := [] } ∧
    RB W rb s at' (-1) ∧ fr ≤ at' ∧ at' ≤ s.size ∧ s.size < at' + f ∧ n + 2 ≤ W.heap.size ∧ Kp (· = rb) w W ∧ PcB W n (zP 0) ∧ PcB W (n + 1) (v, wordsP ws) ∧ W.ownsRow (n + 2) 9 1 v ws.length (ws.flatMap wenc) ∧ ws.length ≤ at' ∧ brG s.data.toList f fr at' ws = R
theorem BrJ.mk {s : ByteArray} {rb n : Nat} {w W : World} {R : Except Nat (Pc × Nat)} {A : Array Value} (fr at' f : Nat) (v : Value) (ws : List (List UInt8)) (hA : A = #[.pointer (some ⟨rb, 0, none⟩), A.getD 1 undef, .pointer (some ⟨n, 0, none⟩), .pointer (some ⟨n + 1, 0, none⟩), .int .i64 fr, A.getD 5 undef, A.getD 6 undef, A.getD 7 undef, A.getD 8 undef, A.getD 9 undef, A.getD 10 undef, A.getD 11 undef, A.getD 12 undef, A.getD 13 undef, A.getD 14 undef, A.getD 15 undef, A.getD 16 undef, A.getD 17 undef, A.getD 18 undef, A.getD 19 undef, A.getD 20 undef, A.getD 21 undef, A.getD 22 undef, A.getD 23 undef, A.getD 24 undef, A.getD 25 undef, A.getD 26 undef, A.getD 27 undef, A.getD 28 undef, A.getD 29 undef, A.getD 30 undef, A.getD 31 undef, A.getD 32 undef, A.getD 33 undef, A.getD 34 undef, A.getD 35 undef, A.getD 36 undef, A.getD 37 undef, A.getD 38 undef, A.getD 39 undef, A.getD 40 undef, A.getD 41 undef, A.getD 42 undef, A.getD 43 undef, A.getD 44 undef, A.getD 45 undef, A.getD 46 undef, A.getD 47 undef, A.getD 48 undef, A.getD 49 undef, A.getD 50 undef, A.getD 51 undef, A.getD 52 undef, A.getD 53 undef, A.getD 54 undef, A.getD 55 undef, A.getD 56 undef, A.getD 57 undef, A.getD 58 undef, A.getD 59 undef, A.getD 60 undef, A.getD 61 undef, A.getD 62 undef, A.getD 63 undef, A.getD 64 undef, A.getD 65 undef, A.getD 66 undef, A.getD 67 undef, A.getD 68 undef, A.getD 69 undef, A.getD 70 undef, A.getD 71 undef, A.getD 72 undef, A.getD 73 undef, A.getD 74 undef, A.getD 75 undef, A.getD 76 undef, A.getD 77 undef, A.getD 78 undef, A.getD 79 undef, A.getD 80 undef, A.getD 81 undef, A.getD 82 undef, A.getD 83 undef, A.getD 84 undef, A.getD 85 undef, A.getD 86 undef, A.getD 87 undef, A.getD 88 undef, A.getD 89 undef, A.getD 90 undef])
    (h : RB W rb s at' (-1) ∧ fr ≤ at' ∧ at' ≤ s.size ∧ s.size < at' + f ∧ n + 2 ≤ W.heap.size ∧ Kp (· = rb) w W ∧ PcB W n (zP 0) ∧ PcB W (n + 1) (v, wordsP ws) ∧ W.ownsRow (n + 2) 9 1 v ws.length (ws.flatMap wenc) ∧ ws.length ≤ at' ∧ brG s.data.toList f fr at' ws = R) : BrJ s rb n w R { tmps := A, defers := [] } W :=
  ⟨fr, at', f, v, ws, fun i => A.getD i undef, congrArg (fun t => ({ tmps := t, defers := [] } : Act)) hA, h⟩
theorem own_kp {B : Nat → Prop} {w w' : World} {base : Nat} {e : TypeId} {sz n : Nat} {v : Value} {xs : List Value} (h : w.ownsRow base e sz v n xs) (hk : Kp B w w') (hb : ∀ b, v.ownBlock = some b → base ≤ b → ¬ B b) : w'.ownsRow base e sz v n xs := by
  refine ⟨h.1, ?_⟩
  rcases h.2 with h2 | ⟨g, cap, cur, rfl, hg, hh, hr⟩
  · exact .inl h2
  · exact .inr ⟨g, cap, cur, rfl, hg, hk.heap (hb g rfl hg) hh, hr⟩
theorem own_base {w : World} {base : Nat} {e : TypeId} {sz n : Nat} {v : Value} {xs : List Value} (h : w.ownsRow base e sz v n xs) {b : Nat} (hb : v.ownBlock = some b) : base ≤ b := by
  rcases h.2 with ⟨rfl, -⟩ | ⟨g, cap, cur, rfl, hg, hh, hr⟩
  · cases hb
  · have : g = b := by simpa [Value.ownBlock] using hb
    omega
theorem own_some {w : World} {base : Nat} {e : TypeId} {sz n : Nat} {v : Value} {xs : List Value} (h : w.ownsRow base e sz v n xs) (hn : 0 < n) : ∃ g cap, v = .slice (some ⟨g, 0, none⟩) n cap := by
  rcases h.2 with ⟨rfl, h0⟩ | ⟨g, cap, cur, rfl, hg, hh, hr⟩
  · omega
  · exact ⟨g, cap, rfl⟩
theorem own_one {w : World} {base : Nat} {e : TypeId} {sz n : Nat} {v : Value} {xs : List Value} (h : w.ownsRow base e sz v n xs) : v.oneCell' = true := by
  rcases h.2 with ⟨rfl, -⟩ | ⟨g, cap, cur, rfl, hg, hh, hr⟩ <;> rfl
theorem own_sl {w : World} {base k : Nat} {v : Value} {ws : List (List UInt8)} {e : TypeId} (h : w.ownsRow base e 1 v ws.length (ws.flatMap wenc)) (hk : k ≤ base) : SlA wenc (· < k) w v ws :=
  ⟨Sl.own wenc_len (by decide) h, fun _ b hb hlt => by have := own_base h hb; omega⟩
theorem gu8_eq (c : UInt8) (k : Nat) (hk : k < 256) : ((c.toNat : Int) == (k : Int)) = (c == UInt8.ofNat k) := by
  rw [Bool.eq_iff_iff, beq_iff_eq, beq_iff_eq]
  constructor
  · intro h
    have h2 : c.toNat = k := by omega
    rw [← h2]; simp
  · rintro rfl
    rw [UInt8.toNat_ofNat', Nat.mod_eq_of_lt hk]
theorem gu8_ne (c : UInt8) (k : Nat) (hk : k < 256) : ((c.toNat : Int) != (k : Int)) = !(c == UInt8.ofNat k) := by
  unfold bne; rw [gu8_eq c k hk]
theorem gis_c (c : UInt8) (b : Bool) (hb : isG c = b) (w : World) : Calls Tryd.prog 51 #[.int .u8 c.toNat] w fun e w' => e = .returned (.bool b) ∧ w' = w := by
  rw [← hb, ← gB_isG]; exact gis_any _ w
theorem Tryd.ginfoStr : (Tryd.prog.info? 9).map (fun i => (i.zero, i.size, i.bytes)) = some (some (.string ⟨#[]⟩), 1, 16) := by kernel_rfl
theorem S_br {w3 w' : World} {rb n B : Nat} {x0 x1 v : Value} (hz : n + 2 ≤ w3.heap.size) (hne : rb ≠ n ∧ rb ≠ n + 1 ∧ rb < n) (p0 : w3.cell? ⟨rb, 0, none⟩ = some x0) (p1 : w3.cell? ⟨rb, 1, none⟩ = some x1) (p2 : w3.cell? ⟨n + 1, 258, none⟩ = some v) (p3 : w3.frozen? ⟨n + 1, 258, none⟩ = false)
    (h : Below w3.heap.size w3 w') : w'.cell? ⟨rb, 0, none⟩ = some x0 ∧ w'.cell? ⟨rb, 1, none⟩ = some x1 ∧ w'.cell? ⟨n + 1, 258, none⟩ = some v ∧ w'.frozen? ⟨n + 1, 258, none⟩ = false :=
  ⟨cell_below h (Nat.le_refl _) p0, cell_below h (Nat.le_refl _) p1, cell_below h (Nat.le_refl _) p2, (h.frozen (p := ⟨n + 1, 258, none⟩) (by show n + 1 < _; omega)).trans p3⟩
theorem S_br_grown {w3 wm w' : World} {rb n B : Nat} {x0 x1 v : Value} {row : Option Nat} (hz : n + 2 ≤ w3.heap.size) (hne : rb ≠ n ∧ rb ≠ n + 1 ∧ rb < n) (h1 : some rb ≠ row) (h2 : some (n + 1) ≠ row) (p0 : w3.cell? ⟨rb, 0, none⟩ = some x0) (p1 : w3.cell? ⟨rb, 1, none⟩ = some x1) (p2 : w3.cell? ⟨n + 1, 258, none⟩ = some v) (p3 : w3.frozen? ⟨n + 1, 258, none⟩ = false)
    (h : Below w3.heap.size w3 wm) (hg : wm.grownBy w' row) : w'.cell? ⟨rb, 0, none⟩ = some x0 ∧ w'.cell? ⟨rb, 1, none⟩ = some x1 ∧ w'.cell? ⟨n + 1, 258, none⟩ = some v ∧ w'.frozen? ⟨n + 1, 258, none⟩ = false := by
  obtain ⟨a0, a1, a2, a3⟩ := S_br (B := B) hz hne p0 p1 p2 p3 h
  exact ⟨hg.cell a0 h1, hg.cell a1 h1, hg.cell a2 h2, (hg.frozen_far ⟨n + 1, 258, none⟩ (by have := h.size; show n + 1 < _; omega) h2).trans a3⟩
theorem br_leaf {w W3 X w2 : World} {rb n ai fr : Nat} {s : ByteArray} {v v' : Value} {ws : List (List UInt8)} (hX : Below W3.heap.size W3 X) (hgrow : X.grownBy w2 v.ownBlock) (HO3 : W3.ownsRow (n + 2) 9 1 v ws.length (ws.flatMap wenc))
    (hown' : w2.ownsRow (n + 2) 9 1 v' (ws.length + 1) (ws.flatMap wenc ++ [.string (s.extract fr ai)])) (hR : RB W3 rb s ai (-1)) (hP0 : PcB W3 n (zP 0)) (hP1 : PcB W3 (n + 1) (v, wordsP ws)) (hK : Kp (· = rb) w W3)
    (hne : rb ≠ n ∧ rb ≠ n + 1 ∧ rb < n) (hN : w.heap.size = n) (hz : n + 2 ≤ W3.heap.size) :
    RB (w2.setCell ⟨n + 1, 258, none⟩ v') rb s ai (-1) ∧ PcB (w2.setCell ⟨n + 1, 258, none⟩ v') n (zP 0) ∧ PcB (w2.setCell ⟨n + 1, 258, none⟩ v') (n + 1) (v', wordsP (ws ++ [(s.data.toList.take ai).drop fr])) ∧
    Kp (· = rb) w (w2.setCell ⟨n + 1, 258, none⟩ v') ∧ (w2.setCell ⟨n + 1, 258, none⟩ v').ownsRow (n + 2) 9 1 v' (ws ++ [(s.data.toList.take ai).drop fr]).length ((ws ++ [(s.data.toList.take ai).drop fr]).flatMap wenc) ∧ n + 2 ≤ (w2.setCell ⟨n + 1, 258, none⟩ v').heap.size := by
  have hbase : ∀ b, v.ownBlock = some b → n + 2 ≤ b := fun b hb => own_base HO3 hb
  have k : Kp (fun b => v.ownBlock = some b) W3 w2 := (Kp.of_below hX).trans (Kp.of_grown hgrow (fun b hb => hb))
  have k2 : Kp (· = n + 1) w2 (w2.setCell ⟨n + 1, 258, none⟩ v') := (Kp.refl (· = n + 1) w2).setCell (p := ⟨n + 1, 258, none⟩) (.inl rfl) _
  refine ⟨(hR.kp k (fun h => by have := hbase _ h; omega)).kp k2 (by omega), (hP0.kp k (fun h => by have := hbase _ h; omega)).kp k2 (by omega), (hP1.kp k (fun h => by have := hbase _ h; omega)).putWords v' _, (hK.trans_new k (fun b hb => .inr (by have := hbase b hb; omega))).trans_new k2 (fun b hb => .inr (by omega)), ?_, ?_⟩
  · rw [List.length_append, List.flatMap_append]
    have := own_kp hown' k2 (fun b _ hb => by omega)
    rw [← ext_word] at this
    exact this
  · have h1 := k.size
    have h2 := k2.size
    omega
set_option maxHeartbeats 4000000 in
theorem braces_any (rb : Nat) (s : ByteArray) (at' : Nat) (w : World) (h : RB w rb s at' (-1)) (hat : at' < s.size) (hs : s.size ≤ 4096) :
    Calls Tryd.prog 66 #[.pointer (some ⟨rb, 0, none⟩)] w fun e w' => PcPost s rb w (brG s.data.toList (s.size + 1) (at' + 1) (at' + 1) []) e w' := by
  have HR := Lib.hid h
  have HL := Lib.hid (heap_lt h)
  obtain ⟨n, hn⟩ : ∃ n, w.heap.size = n := ⟨_, rfl⟩
  have HN := Lib.hid hn
  obtain ⟨R, hR⟩ : ∃ R, brG s.data.toList (s.size + 1) (at' + 1) (at' + 1) [] = R := ⟨_, rfl⟩
  rw [hR]
  have HRR := Lib.hid hR
  clear h hn hR
  obtain ⟨i0, hi, hz0, hz1, hz2⟩ := info_parts Tryd.ginfoStr
  go_enter Tryd.func66, Tryd.ntmps66
  go_wp2_with (refine Tryd.stepAllocPc (n := n) rfl rfl HN.out ?_; intro W1 p1 z1 k1)
  refine wp_jump_fall 0 (BrJ s rb n w R) (fun a W => 5000 - atOf W rb) rfl ?_ ?_
  · intro hfall
    have HF := Lib.hid hfall
    clear hfall
    have HP1 := Lib.hid p1
    have HZ1 := Lib.hid z1
    have HR1 := Lib.hid (HR.out.kp k1 (fun h => h))
    have HK1 := Lib.hid k1
    clear p1 z1 k1
    go_wp2_with (first
      | (refine Tryd.stepBuildK 4 rfl rfl ?_)
      | (refine Tryd.stepAllocPc (n := n + 1) rfl rfl HZ1.out ?_; intro W2 p2 z2 k2)
      | (refine Tryd.stepStorePc (z' := zP 4) (.tmp 3) (.tmp 7) (n + 1) rfl rfl rfl rfl p2 rfl ?_
         intro W3 p3 z3 k3
         have HK3 := Lib.hid (((HK1.out.mono (C := (· = rb)) (fun _ _ h => h.elim)).trans (k2.mono (C := (· = rb)) (fun _ _ h => h.elim))).trans_new k3 (fun b hb => .inr (by have := HN.out; omega)))
         have HR3 := Lib.hid ((HR1.out.kp k2 (fun h => h)).kp k3 (by have := HN.out; have := HL.out; omega))
         have HP3 := Lib.hid p3
         have HQ3 := Lib.hid ((HP1.out.kp k2 (fun h => h)).kp k3 (by omega))
         have HZ3 := Lib.hid (show W3.heap.size = n + 2 by omega)
         clear p2 z2 k2 p3 z3 k3
         have c1 := HR3.out.c1
         have f1 := HR3.out.fz 1))
    go_step3
    rename_i hK
    refine hK _ _ (HF.out _ _ (BrJ.mk (at' + 1) (at' + 1) (s.size + 1) (.slice none 0 0) [] ?_ ⟨HR3.out.put1 _, Nat.le_refl _, hat, by omega, ?_, HK3.out.setCell (.inl rfl) _, ?_, ?_, World.ownsRow_nil _ _ _ _, Nat.zero_le _, HRR.out⟩))
    · rfl
    · show n + 2 ≤ (W3.setCell _ _).heap.size
      simp [HZ3.out]
    · exact HQ3.out.kp ((Kp.refl (· = rb) W3).setCell (p := ⟨rb, 1, none⟩) (.inl rfl) _) (by have := HN.out; have := HL.out; omega)
    · exact HP3.out.kp ((Kp.refl (· = rb) W3).setCell (p := ⟨rb, 1, none⟩) (.inl rfl) _) (by have := HN.out; have := HL.out; omega)
  · rintro a W ⟨fr, ai, f, v, ws, u, rfl, hr, hfa, has, hf, hz, hk, hp0, hp1, hown, hwl, hval⟩
    have hne : rb ≠ n ∧ rb ≠ n + 1 ∧ rb < n := by have := HN.out; have := HL.out; omega
    obtain ⟨f, rfl⟩ : ∃ k, f = k + 1 := ⟨f - 1, by omega⟩
    have HRW := Lib.hid hr
    have HZW := Lib.hid hz
    have HKW := Lib.hid hk
    have HP0 := Lib.hid hp0
    have HP1 := Lib.hid hp1
    have HOW := Lib.hid hown
    have HV := Lib.hid hval
    clear hr hz hk hp0 hp1 hown hval
    by_cases hlt : ai < s.size
    · obtain ⟨c, hc⟩ : ∃ c, c = bAt s ai := ⟨_, rfl⟩
      have hget := bAt_some hlt
      rw [← hc] at hget
      have HBY := Lib.hid (byte0_some rb s ai W HRW.out hs hlt)
      rw [← hc] at HBY
      have HC := Lib.hid hc
      clear hc
      have hv := HV.out
      unfold brG bracesG at hv
      simp only [hget] at hv
      clear hget
      have e44 : ((c.toNat : Int) == 44) = (c == 44) := gu8_eq c 44 (by decide)
      have e125 : ((c.toNat : Int) == 125) = (c == 125) := gu8_eq c 125 (by decide)
      have n44 : ((c.toNat : Int) != 44) = !(c == 44) := gu8_ne c 44 (by decide)
      have n125 : ((c.toNat : Int) != 125) = !(c == 125) := gu8_ne c 125 (by decide)
      by_cases h125 : c = 125
      · rw [if_pos h125] at hv
        have b125 : (c == 125) = true := by simpa using h125
        have b44 : (c == 44) = false := by rw [h125]; decide
        rw [b125] at e125 n125
        rw [b44] at e44 n44
        clear b125 h125 b44
        have HVV := Lib.hid hv
        clear hv
        go_wp2_with fail
        refine HBY.out.mono ?_
        rintro e w1 ⟨rfl, m, rfl⟩
        have hr1 := HRW.out.drewN m
        have c0 := hr1.c0
        have c1 := hr1.c1
        have q0 : (W.drewN m).cell? ⟨n + 1, 258, none⟩ = some v := HP1.out.c258
        have hf1 := Lib.hid (HP1.out.fz 258)
        have HR1 := Lib.hid hr1
        have HM1 := Lib.hid (show PcB (W.drewN m) (n + 1) (v, wordsP ws) from HP1.out)
        have hown : (W.drewN m).ownsRow (n + 2) 9 1 v ws.length (ws.flatMap wenc) := HOW.out
        have HWW := Lib.hid (show Kp (· = rb) w (W.drewN m) from HKW.out.drewN m)
        have HM0 := Lib.hid (show PcB (W.drewN m) n (zP 0) from HP0.out)
        have HZ3 := Lib.hid (show n + 2 ≤ (W.drewN m).heap.size from HZW.out)
        obtain ⟨W3, hW3⟩ : ∃ W3, W3 = W.drewN m := ⟨_, rfl⟩
        rw [← hW3] at c0 c1 q0 HR1 HM1 HM0 hown HWW HZ3 ⊢
        clear hW3 hf1 hr1
        have HO3 := Lib.hid hown
        go_wp2_with fail
        have hz3 : n + 2 ≤ W3.heap.size := HZ3.out
        have hxs : (0 : Int) ≤ fr ∧ (fr : Int) ≤ ai ∧ (ai : Int) ≤ s.size := by omega
        have hne1 : some rb ≠ v.ownBlock := fun e => by have := own_base HO3.out e.symm; omega
        have hne2 : some (n + 1) ≠ v.ownBlock := fun e => by have := own_base HO3.out e.symm; omega
        have qf : W3.frozen? ⟨n + 1, 258, none⟩ = false := HM1.out.fz 258
        have hrlt : rb < W3.heap.size := by omega
        have hd1 : rb ≠ W3.heap.size := by omega
        have hd2 : n + 1 ≠ W3.heap.size := by omega
        have hd3 : n + 1 < W3.heap.size := by omega
        go_region_law
          (first
            | (refine step_append_rd rfl (.tmp 62) (.tmp 73) _ rfl (n + 2) 9 i0 (.string ⟨#[]⟩) 1 16 Tryd.underlying28 hi hz0 hz1 hz2 rfl (by decide) v ws.length (ws.flatMap wenc) rfl ?_ (some ⟨W3.heap.size, 0, none⟩) 1 1 [.string (s.extract fr ai)] rfl (fun e => by cases e) rfl ?_ ?_ ?_ ?_ ?_ ?_
               (first | exact World.ownsRow.alloc hown _ | exact hown)
               (exact fun ad e j u hu => by injection e with e; subst e; exact World.news_of_block (heap_new W3 _) j u hu)
               (intro u hu; simp at hu; rcases hu with rfl; rfl)
               (unfold maxLen; omega)
               (omega)
               (simp <;> omega)
               intro v' w2 hown' hgrow
               obtain ⟨q2a, q2b, q2, qf2⟩ := S_br_grown (B := 0) hz3 hne hne1 hne2 c0 c1 q0 qf (by go_grown) hgrow
               clear q2a q2b
               obtain ⟨g', cap', rfl⟩ := own_some hown' (Nat.succ_pos _)))
        all_goals
          obtain ⟨hr4, hp40, hp41, hk4, ho4, hz4⟩ := br_leaf (w := w) (fr := fr) (by go_grown) hgrow HO3.out hown' HR1.out HM0.out HM1.out HWW.out hne HN.out hz3
          obtain ⟨W4, hW4⟩ : ∃ W4, W4 = w2.setCell ⟨n + 1, 258, none⟩ (.slice (some ⟨g', 0, none⟩) (ws.length + 1) cap') := ⟨_, rfl⟩
          rw [← hW4] at hr4 hp40 hp41 hk4 ho4 hz4 ⊢
          clear hW4 hgrow hown' q2 qf2 hown c0 c1 q0 qf
          have c1 := hr4.c1
          have f1 := hr4.fz 1
          have HR4 := Lib.hid hr4
          have HP40 := Lib.hid hp40
          have HP41 := Lib.hid hp41
          have HK4 := Lib.hid hk4
          have HO4 := Lib.hid ho4
          have HZ4 := Lib.hid hz4
          clear hr4 hp40 hp41 hk4 ho4 hz4
          go_wp2_with (first
            | (refine Tryd.stepLoadPc (z := (.slice (some ⟨g', 0, none⟩) (ws.length + 1) cap', wordsP (ws ++ [(s.data.toList.take ai).drop fr]))) (.tmp 3) (n + 1) rfl rfl rfl (HP41.out.kp ((Kp.refl (· = rb) W4).setCell (p := ⟨rb, 1, none⟩) (.inl rfl) _) (Ne.symm hne.2.1)) ?_)
            | (refine Tryd.stepStorePc (z := zP 0) (z' := (.slice (some ⟨g', 0, none⟩) (ws.length + 1) cap', wordsP (ws ++ [(s.data.toList.take ai).drop fr]))) (.tmp 2) (.tmp 90) n rfl rfl rfl rfl (HP40.out.kp ((Kp.refl (· = rb) W4).setCell (p := ⟨rb, 1, none⟩) (.inl rfl) _) (Ne.symm hne.1)) rfl ?_
               intro W5 p5 z5 k5))
          simp only [Exit.jump]
          refine bodyPost_ret (Tryd.resultPc rfl rfl p5) rfl ⟨_, ai + 1, -1, rfl, (HR4.out.put1 (ai + 1)).kp k5 (by omega), by omega, (HK4.out.setCell (p := ⟨rb, 1, none⟩) (.inl rfl) _).trans_new k5 (fun b hb => .inr (by have := HN.out; omega)), own_sl (own_kp HO4.out (((Kp.refl (fun b => b = rb ∨ b = n) W4).setCell (p := ⟨rb, 1, none⟩) (.inl (.inl rfl)) _).trans (k5.mono (fun b _ h => .inr h))) (fun b _ hb => by omega)) (by have := HN.out; omega), ?_⟩
          rw [← HVV.out]
          exact ⟨rfl, rfl, rfl⟩
      · rw [if_neg h125] at hv
        have b125 : (c == 125) = false := by simpa using h125
        rw [b125] at e125 n125
        clear b125 h125
        by_cases h44 : c = 44
        · rw [if_pos h44] at hv
          have b44 : (c == 44) = true := by simpa using h44
          rw [b44] at e44 n44
          clear b44 h44
          have HVV := Lib.hid hv
          clear hv
          go_wp2_with fail
          refine HBY.out.mono ?_
          rintro e w1 ⟨rfl, m, rfl⟩
          have hr1 := HRW.out.drewN m
          have c0 := hr1.c0
          have c1 := hr1.c1
          have q0 : (W.drewN m).cell? ⟨n + 1, 258, none⟩ = some v := HP1.out.c258
          have hf1 := Lib.hid (HP1.out.fz 258)
          have HR1 := Lib.hid hr1
          have HM1 := Lib.hid (show PcB (W.drewN m) (n + 1) (v, wordsP ws) from HP1.out)
          have hown : (W.drewN m).ownsRow (n + 2) 9 1 v ws.length (ws.flatMap wenc) := HOW.out
          have HWW := Lib.hid (show Kp (· = rb) w (W.drewN m) from HKW.out.drewN m)
          have HM0 := Lib.hid (show PcB (W.drewN m) n (zP 0) from HP0.out)
          have HZ3 := Lib.hid (show n + 2 ≤ (W.drewN m).heap.size from HZW.out)
          obtain ⟨W3, hW3⟩ : ∃ W3, W3 = W.drewN m := ⟨_, rfl⟩
          rw [← hW3] at c0 c1 q0 HR1 HM1 HM0 hown HWW HZ3 ⊢
          clear hW3 hf1 hr1
          have HO3 := Lib.hid hown
          go_wp2_with fail
          have hz3 : n + 2 ≤ W3.heap.size := HZ3.out
          have hxs : (0 : Int) ≤ fr ∧ (fr : Int) ≤ ai ∧ (ai : Int) ≤ s.size := by omega
          have hne1 : some rb ≠ v.ownBlock := fun e => by have := own_base HO3.out e.symm; omega
          have hne2 : some (n + 1) ≠ v.ownBlock := fun e => by have := own_base HO3.out e.symm; omega
          have qf : W3.frozen? ⟨n + 1, 258, none⟩ = false := HM1.out.fz 258
          have hrlt : rb < W3.heap.size := by omega
          have hd1 : rb ≠ W3.heap.size := by omega
          have hd2 : n + 1 ≠ W3.heap.size := by omega
          have hd3 : n + 1 < W3.heap.size := by omega
          go_region_law
            (first
              | (refine step_append_rd rfl (.tmp 62) (.tmp 73) _ rfl (n + 2) 9 i0 (.string ⟨#[]⟩) 1 16 Tryd.underlying28 hi hz0 hz1 hz2 rfl (by decide) v ws.length (ws.flatMap wenc) rfl ?_ (some ⟨W3.heap.size, 0, none⟩) 1 1 [.string (s.extract fr ai)] rfl (fun e => by cases e) rfl ?_ ?_ ?_ ?_ ?_ ?_
                 (first | exact World.ownsRow.alloc hown _ | exact hown)
                 (exact fun ad e j u hu => by injection e with e; subst e; exact World.news_of_block (heap_new W3 _) j u hu)
                 (intro u hu; simp at hu; rcases hu with rfl; rfl)
                 (unfold maxLen; omega)
                 (omega)
                 (simp <;> omega)
                 intro v' w2 hown' hgrow
                 obtain ⟨q2a, q2b, q2, qf2⟩ := S_br_grown (B := 0) hz3 hne hne1 hne2 c0 c1 q0 qf (by go_grown) hgrow
                 clear q2a q2b
                 obtain ⟨g', cap', rfl⟩ := own_some hown' (Nat.succ_pos _)))
          all_goals
            obtain ⟨hr4, hp40, hp41, hk4, ho4, hz4⟩ := br_leaf (w := w) (fr := fr) (by go_grown) hgrow HO3.out hown' HR1.out HM0.out HM1.out HWW.out hne HN.out hz3
            obtain ⟨W4, hW4⟩ : ∃ W4, W4 = w2.setCell ⟨n + 1, 258, none⟩ (.slice (some ⟨g', 0, none⟩) (ws.length + 1) cap') := ⟨_, rfl⟩
            rw [← hW4] at hr4 hp40 hp41 hk4 ho4 hz4 ⊢
            clear hW4 hgrow hown' q2 qf2 hown c0 c1 q0 qf
            have c1 := hr4.c1
            have f1 := hr4.fz 1
            have HR4 := Lib.hid hr4
            have HP40 := Lib.hid hp40
            have HP41 := Lib.hid hp41
            have HK4 := Lib.hid hk4
            have HO4 := Lib.hid ho4
            have HZ4 := Lib.hid hz4
            clear hr4 hp40 hp41 hk4 ho4 hz4
            go_wp2_with fail
            go_step3
            refine ⟨rfl, BrJ.mk (ai + 1) (ai + 1) f (.slice (some ⟨g', 0, none⟩) (ws.length + 1) cap') (ws ++ [(s.data.toList.take ai).drop fr]) ?_ ⟨HR4.out.put1 (ai + 1), Nat.le_refl _, hlt, by omega, ?_, HK4.out.setCell (p := ⟨rb, 1, none⟩) (.inl rfl) _, ?_, ?_, ?_, ?_, HVV.out⟩, ?_⟩
            · rfl
            · show n + 2 ≤ (W4.setCell _ _).heap.size
              simpa using HZ4.out
            · exact HP40.out.kp ((Kp.refl (· = rb) W4).setCell (p := ⟨rb, 1, none⟩) (.inl rfl) _) (Ne.symm hne.1)
            · exact HP41.out.kp ((Kp.refl (· = rb) W4).setCell (p := ⟨rb, 1, none⟩) (.inl rfl) _) (Ne.symm hne.2.1)
            · exact own_kp HO4.out ((Kp.refl (· = rb) W4).setCell (p := ⟨rb, 1, none⟩) (.inl rfl) _) (fun b _ hb => by omega)
            · rw [List.length_append]; exact Nat.succ_le_succ hwl
            · have hm : atOf (W4.setCell ⟨rb, 1, none⟩ (.int .i64 ((ai : Int) + 1))) rb = ai + 1 := (HR4.out.put1 (ai + 1)).atOf
              rw [hm, HRW.out.atOf]
              omega
        · rw [if_neg h44] at hv
          have b44 : (c == 44) = false := by simpa using h44
          rw [b44] at e44 n44
          clear b44 h44
          by_cases hg : isG c = true
          · rw [if_pos hg] at hv
            have HVV := Lib.hid hv
            have HIS := Lib.hid (gis_c c true hg)
            clear hv hg
            go_wp2_with fail
            refine HBY.out.mono ?_
            rintro e w1 ⟨rfl, m, rfl⟩
            go_wp2_with fail
            refine (HIS.out _).mono ?_
            rintro e w1 ⟨rfl, rfl⟩
            have hr1 := HRW.out.drewN m
            have c1 := hr1.c1
            have f1 := hr1.fz 1
            have HR1 := Lib.hid hr1
            clear hr1
            go_wp2_with fail
            go_step3
            refine ⟨rfl, BrJ.mk fr (ai + 1) f v ws ?_ ⟨HR1.out.put1 (ai + 1), by omega, by omega, by omega, ?_, (HKW.out.drewN m).setCell (.inl rfl) _, ?_, ?_, ?_, by omega, HVV.out⟩, ?_⟩
            · rfl
            · show n + 2 ≤ ((W.drewN m).setCell _ _).heap.size
              simpa using HZW.out
            · exact HP0.out.kp (((Kp.refl (· = rb) W).drewN m).setCell (p := ⟨rb, 1, none⟩) (.inl rfl) _) (Ne.symm hne.1)
            · exact HP1.out.kp (((Kp.refl (· = rb) W).drewN m).setCell (p := ⟨rb, 1, none⟩) (.inl rfl) _) (Ne.symm hne.2.1)
            · exact own_kp HOW.out (((Kp.refl (· = rb) W).drewN m).setCell (p := ⟨rb, 1, none⟩) (.inl rfl) _) (fun b _ hb => by omega)
            · have hm : atOf ((W.drewN m).setCell ⟨rb, 1, none⟩ (.int .i64 ((ai : Int) + 1))) rb = ai + 1 := (HR1.out.put1 (ai + 1)).atOf
              rw [hm, HRW.out.atOf]
              omega
          · rw [if_neg hg] at hv
            have HRE := Lib.hid (show R = .error ai from hv.symm)
            have HIS := Lib.hid (gis_c c false (by simpa using hg))
            clear hv hg
            go_wp2_with fail
            refine HBY.out.mono ?_
            rintro e w1 ⟨rfl, m, rfl⟩
            go_wp2_with fail
            refine (HIS.out _).mono ?_
            rintro e w1 ⟨rfl, rfl⟩
            have hr1 := HRW.out.drewN m
            have c1 := hr1.c1
            have HR1 := Lib.hid hr1
            clear hr1
            go_wp2_with fail
            refine (fail_any rb s ai ai _ HR1.out).mono ?_
            rintro e w2 ⟨rfl, hr2, hk2⟩
            have HR2 := Lib.hid hr2
            have HK2 := Lib.hid (((HKW.out).drewN m).trans hk2)
            have HQ0 := Lib.hid (HP0.out.kp (((Kp.refl (· = rb) W).drewN m).trans hk2) (Ne.symm hne.1))
            have HQ1 := Lib.hid (HP1.out.kp (((Kp.refl (· = rb) W).drewN m).trans hk2) (Ne.symm hne.2.1))
            have HOW2 := Lib.hid (own_kp HOW.out (((Kp.refl (· = rb) W).drewN m).trans hk2) (fun b _ hb => by omega))
            clear hr2 hk2
            go_wp2_with (first
              | (refine Tryd.stepLoadPc (.tmp 3) (n + 1) rfl rfl rfl HQ1.out ?_)
              | (refine Tryd.stepStorePc (z' := (v, wordsP ws)) (.tmp 2) (.tmp 53) n rfl rfl rfl rfl HQ0.out (own_one HOW.out) ?_
                 intro W3 p3 z3 k3))
            simp only [Exit.jump]
            refine bodyPost_ret (Tryd.resultPc rfl rfl p3) rfl ⟨(v, wordsP ws), ai, ai, rfl, HR2.out.kp k3 (by omega), by omega, HK2.out.trans_new k3 (fun b hb => .inr (by have := HN.out; omega)), own_sl (own_kp HOW2.out k3 (fun b _ hb => by omega)) (by have := HN.out; omega), ?_⟩
            rw [HRE.out]
            rfl
    · have HRE := Lib.hid (show R = .error s.size by
        rw [← HV.out]; unfold brG bracesG; rw [bAt_none (by omega)]; rfl)
      go_wp2_with fail
      refine (byte0_none rb s ai W HRW.out hs (by omega) (by omega)).mono ?_
      rintro e w1 ⟨rfl, m, rfl⟩
      have hr1 := HRW.out.drewN m
      have c0 := hr1.c0
      have HR1 := Lib.hid hr1
      clear hr1
      go_wp2_with fail
      refine (fail_any rb s ai s.size _ HR1.out).mono ?_
      rintro e w2 ⟨rfl, hr2, hk2⟩
      have HR2 := Lib.hid hr2
      have HK2 := Lib.hid (((HKW.out).drewN m).trans hk2)
      have HQ0 := Lib.hid (HP0.out.kp (((Kp.refl (· = rb) W).drewN m).trans hk2) (Ne.symm hne.1))
      have HQ1 := Lib.hid (HP1.out.kp (((Kp.refl (· = rb) W).drewN m).trans hk2) (Ne.symm hne.2.1))
      have HOW2 := Lib.hid (own_kp HOW.out (((Kp.refl (· = rb) W).drewN m).trans hk2) (fun b _ hb => by omega))
      clear hr2 hk2
      go_wp2_with (first
        | (refine Tryd.stepLoadPc (.tmp 3) (n + 1) rfl rfl rfl HQ1.out ?_)
        | (refine Tryd.stepStorePc (z' := (v, wordsP ws)) (.tmp 2) (.tmp 34) n rfl rfl rfl rfl HQ0.out (own_one HOW.out) ?_
           intro W3 p3 z3 k3))
      simp only [Exit.jump]
      refine bodyPost_ret (Tryd.resultPc rfl rfl p3) rfl ⟨(v, wordsP ws), ai, s.size, rfl, HR2.out.kp k3 (by omega), by omega, HK2.out.trans_new k3 (fun b hb => .inr (by have := HN.out; omega)), own_sl (own_kp HOW2.out k3 (fun b _ hb => by omega)) (by have := HN.out; omega), ?_⟩
      rw [HRE.out]
      rfl
end Go.Proofs.YtnnfhcbopchodaaDoor
