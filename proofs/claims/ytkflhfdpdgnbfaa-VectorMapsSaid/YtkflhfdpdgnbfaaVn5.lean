/- Points of a row of one's own; sorted by their labels. -/
import Derived.Test.YtkflhfdpdgnbfaaVp1
import Derived.Test.YtkflhfdpdgnbfaaLa11
import Derived.Test.YtkflhfdpdgnbfaaSbP
import Derived.Maps.AppendAt
namespace Go.Proofs.Ytkflhfdpdgnbfaa
open Go Go.RowKit
set_option linter.unusedVariables false
set_option linter.unusedSimpArgs false
set_option maxRecDepth 100000
@[go_sem] theorem run_store_float {P : Program} {w : World} {a : Addr} {m : Mode} (b : Nat) : (store a (.float .f64 b) m).run P w = stored P w a (.float .f64 b) m := run_store P w a _ m rfl
theorem step_append_at {P : Program} {w : World} {ops : Array Oper} {o : Oper} {a : Act} {K : Act → World → Prop} {Q : Exit → Act → World → Prop} {E : Prop} (hgd : o.guard = none) (s x : Operand) (t : TypeId)
    (ho : o.op = .call { callee := .builtin .append, args := #[s, x], argTypes := #[t, t] })
    (base : Nat) (e : TypeId) (i : TypeInfo) (z : Value) (size bytes : Nat) (ht : P.underlying t = some (.slice e)) (hi : P.info? e = some i) (hz : i.zero = some z)
    (hsize : i.size = size) (hby : i.bytes = bytes) (hzs : z.cells.size = size) (hsz : 0 < size)
    (v : Value) (n : Nat) (xs : List Value) (hs : a.eval s = v) (hown : w.ownsRow base e size v n xs)
    (ad : Addr) (m c : Nat) (news : List Value) (hx : a.eval x = .slice (some ad) m c)
    (hl : news.length = m * size) (hnews : ∀ j u, news[j]? = some u → w.cell? (ad.add j) = some u) (h1 : ∀ u ∈ news, u.oneCell' = true)
    (h63 : n + m ≤ maxLen) (hbytes : (n + m) * bytes ≤ 140737488355328) (hbase : base ≤ w.heap.size)
    (h : ∀ v' w', w'.ownsRow base e size v' (n + m) (xs ++ news) → w.grownBy w' v.ownBlock → (v'.ownBlock = v.ownBlock ∨ v'.ownBlock = some w.heap.size) → K (a.put o.dst v') w') :
    if Region.wanted o (yielded ops a.tmps) = true then Oper.wp P o a w K Q else E := by
  have hw : Region.wanted o (yielded ops a.tmps) = true := by simp [Region.wanted, hgd]
  rw [if_pos hw]
  obtain ⟨v', w', hr, h2, h3, h4, h5⟩ := run_append_own_at (P := P) w base t o.type e i z size bytes ht hi hz hsize hby hzs hsz v n xs hown ad m c news hl hnews h1 h63 hbytes hbase
  unfold Oper.wp execOp
  simp only [ho, resolve, invoke, builtin, Sem.run_bind, Sem.run_pure, Result.andThen_ok, List.map_toArray, List.map_cons, List.map_nil, hs, hx, hr]
  exact h v' w' h2 h3 h5
theorem Try.infoPt : (Try.prog.info? 35).map (fun i => (i.zero, i.size, i.bytes)) = some (some (.agg #[.slice none 0 0, .float .f64 0]), 2, 32) := by kernel_rfl
theorem Sl.grown {w w' : World} {g : Option Nat} {lv : Value} {l : List Lb} (h : Sl lenc w lv l) (hne : l ≠ [] → lv.ownBlock ≠ g) (hg : w.grownBy w' g) : Sl lenc w' lv l := by
  obtain ⟨a, cap, rfl, hm, hn, hc⟩ := h
  refine ⟨a, cap, rfl, hm, hn, fun hx => ?_⟩
  obtain ⟨b, off, rfl, hd⟩ := hc hx
  refine ⟨b, off, rfl, fun j u hu => hg.cell (hd j u hu) ?_⟩
  have := hne hx
  simpa [Value.ownBlock] using this
theorem Sl.lt {w : World} {lv : Value} {l : List Lb} (h : Sl lenc w lv l) (hx : l ≠ []) : ∃ b, lv.ownBlock = some b ∧ b < w.heap.size := by
  obtain ⟨a, cap, rfl, hm, hn, hc⟩ := h
  obtain ⟨b, off, rfl, hd⟩ := hc hx
  cases l with
  | nil => exact absurd rfl hx
  | cons x r => exact ⟨b, rfl, World.block_lt_of_cell? w _ (hd 0 (.string x.1) rfl)⟩
theorem below_grownBy' {w w' : World} (hb : Below w.heap.size w w') : w.grownBy w' none := ⟨hb.os, hb.tape, hb.output, hb.size, fun b hk _ => hb.block b hk⟩
/-- A point as it lies, and what its labels read as. -/
abbrev ZPt := Value × Pt
def zenc (z : ZPt) : List Value := [z.1, .float .f64 z.2.2]
theorem zenc_len (z : ZPt) : (zenc z).length = 2 := rfl
/-- A point that can be read, whose labels lie in no block of g's. -/
def ZOk (w : World) (g : Option Nat) (z : ZPt) : Prop := Sl lenc w z.1 z.2.1 ∧ (z.2.1 ≠ [] → z.1.ownBlock ≠ g)
theorem ZOk.grown {w w' : World} {g : Option Nat} {z : ZPt} (h : ZOk w g z) (hg : w.grownBy w' g) : ZOk w' g z := ⟨h.1.grown h.2 hg, h.2⟩
theorem ZOk.below {w w' : World} {B : Nat} {g : Option Nat} {z : ZPt} (h : ZOk w g z) (hb : Below B w w') (hB : w.heap.size ≤ B) : ZOk w' g z := ⟨h.1.below hb hB, h.2⟩
theorem ZOk.fresh {w : World} {g : Option Nat} {z : ZPt} (h : Sl lenc w z.1 z.2.1) (hg : ∀ k, g = some k → w.heap.size ≤ k) : ZOk w g z := ⟨h, fun hx he => by
  obtain ⟨b, e1, e2⟩ := h.lt hx
  have := hg b (by rw [← he, e1])
  omega⟩
/-- A row of the call's own that reads as points. -/
def OV (w : World) (base : Nat) (v : Value) (ps : List Pt) : Prop :=
  ∃ zs : List ZPt, zs.map (·.2) = ps ∧ w.ownsRow base 35 2 v ps.length (zs.flatMap zenc) ∧ ∀ z ∈ zs, ZOk w v.ownBlock z
theorem OV.nil (w : World) (base : Nat) : OV w base (.slice none 0 0) [] := ⟨[], rfl, World.ownsRow_nil _ _ _ _, fun z h => by cases h⟩
theorem OV.kept {w w' : World} {base : Nat} {v : Value} {ps : List Pt} (h : OV w base v ps) (hb : Below w.heap.size w w') : OV w' base v ps := by
  obtain ⟨zs, h1, h2, h3⟩ := h
  exact ⟨zs, h1, h2.kept (below_grownBy' hb) (by cases v.ownBlock with | none => exact .inl rfl | some g => exact .inr (by simp)), fun z hz => (h3 z hz).below hb (Nat.le_refl _)⟩
theorem OV.slice {w : World} {base : Nat} {v : Value} {ps : List Pt} (h : OV w base v ps) : ∃ a cap, v = .slice a ps.length cap ∧ ps.length ≤ cap ∧ cap ≤ 9223372036854775807 := by
  obtain ⟨zs, h1, h2, h3⟩ := h
  rcases h2.2 with ⟨rfl, h0⟩ | ⟨g, cap, cur, rfl, -, -, hle, hcap, -⟩
  · exact ⟨none, 0, by rw [h0], by omega, by omega⟩
  · exact ⟨_, _, rfl, hle, by unfold maxLen at hcap; omega⟩
theorem OV.appended {w w' : World} {base : Nat} {v v' : Value} {ps : List Pt} {zs : List ZPt} {z : ZPt} (h1 : zs.map (·.2) = ps) (h3 : ∀ z ∈ zs, ZOk w v.ownBlock z) (hz : ZOk w v.ownBlock z)
    (ho : w'.ownsRow base 35 2 v' (ps.length + 1) (zs.flatMap zenc ++ zenc z)) (hg : w.grownBy w' v.ownBlock) (hat : v'.ownBlock = v.ownBlock ∨ v'.ownBlock = some w.heap.size) : OV w' base v' (ps ++ [z.2]) := by
  have key : ∀ z, ZOk w v.ownBlock z → ZOk w' v'.ownBlock z := by
    intro z h
    refine ⟨(h.grown hg).1, fun hx he => ?_⟩
    rcases hat with e | e
    · exact h.2 hx (by rw [he, e])
    · obtain ⟨b, e1, e2⟩ := h.1.lt hx
      rw [e1, e] at he
      injection he with he
      omega
  refine ⟨zs ++ [z], by simp [h1], ?_, fun y hy => ?_⟩
  · rw [List.length_append, List.flatMap_append]
    simpa using ho
  · rcases List.mem_append.1 hy with hy | hy
    · exact key y (h3 y hy)
    · rw [List.mem_singleton.1 hy]; exact key z hz
theorem Sl.mapped {α β : Type} {enc : β → List Value} {f : α → β} {w : World} {v : Value} {xs : List α} (h : Sl (fun x => enc (f x)) w v xs) : Sl enc w v (xs.map f) := by
  obtain ⟨a, cap, rfl, hm, hn, hc⟩ := h
  refine ⟨a, cap, by simp, by simpa using hm, fun e => ?_, fun hx => ?_⟩
  · obtain ⟨e1, e2⟩ := hn e; exact ⟨e1, by rw [e2]; rfl⟩
  · obtain ⟨b, off, e, hd⟩ := hc (fun e => hx (by rw [e]; rfl))
    refine ⟨b, off, e, fun j u hu => hd j u ?_⟩
    rw [List.flatMap_map] at hu
    exact hu
theorem vs_of {w : World} {v : Value} {zs : List ZPt} (h : Sl zenc w v zs) (h2 : ∀ z ∈ zs, Sl lenc w z.1 z.2.1) : VS w v (zs.map (·.2)) := by
  refine ⟨zs.map fun z => (z.1, z.2.2), Sl.mapped (enc := penc) (f := fun z : ZPt => (z.1, z.2.2)) h, by simp, fun k h3 h4 => ?_⟩
  have hk : k < zs.length := by simpa using h3
  simp only [List.getElem_map]
  exact ⟨h2 _ (List.getElem_mem hk), trivial⟩
theorem OV.vs {w : World} {base : Nat} {v : Value} {ps : List Pt} (h : OV w base v ps) : VS w v ps := by
  obtain ⟨zs, rfl, h2, h3⟩ := h
  exact vs_of (Sl.own zenc_len (by decide) h2) fun z hz => (h3 z hz).1
set_option maxHeartbeats 2000000 in
theorem pcmp_any (v1 v2 : Value) (b1 b2 : Nat) (l1 l2 : List Lb) (w : World) (h1 : Sl lenc w v1 l1) (h2 : Sl lenc w v2 l2) :
    Calls Try.prog 31 #[.agg #[v1, .float .f64 b1], .agg #[v2, .float .f64 b2]] w fun e w' => e = .returned (.int .i64 (cmpL l1 l2)) ∧ Grew w w' := by
  have HC := Lib.hid (fun w' (hb : Below w.heap.size w w') => compare_any v1 v2 l1 l2 w' (h1.below hb (Nat.le_refl _)) (h2.below hb (Nat.le_refl _)))
  obtain ⟨a1, cap1, rfl, -, -⟩ := h1
  obtain ⟨a2, cap2, rfl, -, -⟩ := h2
  obtain ⟨n1, hn1⟩ : ∃ n, n = l1.length := ⟨_, rfl⟩
  obtain ⟨n2, hn2⟩ : ∃ n, n = l2.length := ⟨_, rfl⟩
  rw [← hn1, ← hn2] at HC ⊢
  clear hn1 hn2
  go_enter Try.func31, Try.ntmps31
  go_wp2_with fail
  refine (HC.out _ (((Below.refl _ _).alloc (Nat.le_refl _) _).alloc (by simp) _)).mono ?_
  rintro e w1 ⟨rfl, hg⟩
  have HG := Lib.hid ((((Grew.refl w).alloc _).alloc _).trans hg)
  clear hg
  go_wp2_with fail
  go_ret
  exact ⟨rfl, HG.out⟩
end Go.Proofs.Ytkflhfdpdgnbfaa
