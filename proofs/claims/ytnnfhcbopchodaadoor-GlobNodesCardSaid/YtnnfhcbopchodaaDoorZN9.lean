/- The document's put: a label into a list that rises. The document's Set. Keys of labels. A path's nodes: the walks of both sides. (Printed by gen_gs2.py.) Whether a path is meant: the walk. (Printed by gen_gr12.py.) (Several texts in one file, by merge.py.) -/
import Derived.Test.YtnnfhcbopchodaaDoorZN8
import Derived.Deep.RegionHeld3
import Derived.Deep.AppendLies
import Derived.Deep.DrawnRows
import Derived.Outline
import Derived.Test.YtnnfhcbopchodaaDoorZN5
import Derived.Lib.LaidTab
namespace Go.Proofs.YtnnfhcbopchodaaDoor
open Go.RowKit
set_option linter.unusedVariables false
set_option linter.unusedSimpArgs false
set_option maxRecDepth 100000
section
variable {α : Type} {enc : α → List Value} {sz : Nat}
theorem flatMap_take (hsz : ∀ x, (enc x).length = sz) (xs : List α) : ∀ k, (xs.take k).flatMap enc = (xs.flatMap enc).take (k * sz) := by
  induction xs with
  | nil => intro k; simp
  | cons x xs ih =>
    intro k
    cases k with
    | zero => simp
    | succ k =>
      have h1 : (enc x).take ((k + 1) * sz) = enc x := List.take_of_length_le (by rw [hsz, Nat.succ_mul]; omega)
      have h2 : (k + 1) * sz - (enc x).length = k * sz := by rw [hsz, Nat.succ_mul]; omega
      rw [List.take_succ_cons, List.flatMap_cons, List.flatMap_cons, List.take_append, h1, h2, ih k]
theorem flatMap_drop (hsz : ∀ x, (enc x).length = sz) (xs : List α) : ∀ k, (xs.drop k).flatMap enc = (xs.flatMap enc).drop (k * sz) := by
  induction xs with
  | nil => intro k; simp
  | cons x xs ih =>
    intro k
    cases k with
    | zero => simp
    | succ k =>
      rw [List.drop_succ_cons, List.flatMap_cons, ih k, Nat.succ_mul, Nat.add_comm, ← List.drop_drop]
      congr 1
      rw [← hsz x, List.drop_left]
/-- A slice's head. -/
theorem Sl.head {P : Program} {T : TypeId} (hT : P.underlying T = some (.slice (P.elem T))) (hS : ∀ w : World, (sizeOf (P.elem T)).run P w = .ok sz w) (hsz : ∀ x, (enc x).length = sz)
    {w : World} {a : Option Addr} {n cap : Nat} {xs : List α} (h : Sl enc w (.slice a n cap) xs) {k : Nat} (hk : k ≤ xs.length) :
    ∃ a1 c1, (∀ w : World, (Instr.slice T (.slice a n cap) none (some (.int .i64 (k : Int))) none).run P w = .ok (.slice a1 k c1) w) ∧ Sl enc w (.slice a1 k c1) (xs.take k) := by
  obtain ⟨a0, cap0, e, hm, hn, hc⟩ := h
  injection e with e1 e2 e3
  subst e1 e2 e3
  refine ⟨if cap = 0 then a else a.map (·.add (0 * sz)), cap, fun w => ?_, ?_⟩
  · rw [run_slice_h w T a xs.length cap hT .i64 k (by omega) (by omega), hS]
    simp only [Result.andThen, sliced, Int.toNat_natCast, Nat.sub_zero]
  · refine ⟨_, cap, by rw [List.length_take, Nat.min_eq_left hk], by rw [List.length_take, Nat.min_eq_left hk]; omega, fun e => ?_, fun hx => ?_⟩
    · have ha : a = none := by
        split at e
        · exact e
        · simpa using e
      obtain ⟨h1, h2⟩ := hn ha
      exact ⟨h1, by rw [h2]; simp⟩
    · have hx2 : xs ≠ [] := fun e => hx (by rw [e]; simp)
      obtain ⟨b, off, rfl, hd⟩ := hc hx2
      refine ⟨b, off, by split <;> simp [Addr.add_lit], fun j u hu => hd j u ?_⟩
      rw [flatMap_take hsz, List.getElem?_take] at hu
      split at hu
      · exact hu
      · cases hu
/-- A slice's tail. -/
theorem Sl.tail {P : Program} {T : TypeId} (hT : P.underlying T = some (.slice (P.elem T))) (hS : ∀ w : World, (sizeOf (P.elem T)).run P w = .ok sz w) (hsz : ∀ x, (enc x).length = sz)
    {w : World} {a : Option Addr} {n cap : Nat} {xs : List α} (h : Sl enc w (.slice a n cap) xs) {k : Nat} (hk : k ≤ xs.length) :
    ∃ a1 c1, (∀ w : World, (Instr.slice T (.slice a n cap) (some (.int .i64 (k : Int))) none none).run P w = .ok (.slice a1 (xs.length - k) c1) w) ∧ Sl enc w (.slice a1 (xs.length - k) c1) (xs.drop k) := by
  obtain ⟨a0, cap0, e, hm, hn, hc⟩ := h
  injection e with e1 e2 e3
  subst e1 e2 e3
  refine ⟨if cap = k then a else a.map (·.add (k * sz)), cap - k, fun w => ?_, ?_⟩
  · rw [run_slice_l w T a xs.length cap hT .i64 k (by omega) (by omega), hS]
    simp only [Result.andThen, sliced, Int.toNat_natCast, Nat.sub_zero]
  · refine ⟨_, cap - k, by rw [List.length_drop], by rw [List.length_drop]; omega, fun e => ?_, fun hx => ?_⟩
    · have ha : a = none := by
        split at e
        · exact e
        · simpa using e
      obtain ⟨h1, h2⟩ := hn ha
      exact ⟨by omega, by rw [h2]; simp⟩
    · have hx2 : xs ≠ [] := fun e => hx (by rw [e]; simp)
      have hk2 : k < xs.length := by
        by_cases h : k < xs.length
        · exact h
        · exact absurd (List.drop_eq_nil_of_le (by omega)) hx
      obtain ⟨b, off, rfl, hd⟩ := hc hx2
      refine ⟨b, off + k * sz, by rw [if_neg (by omega)]; simp [Addr.add_lit], fun j u hu => ?_⟩
      rw [flatMap_drop hsz, List.getElem?_drop] at hu
      have := hd _ u hu
      rw [← Nat.add_assoc] at this
      exact this
theorem Sl.src (h0 : ∀ x, 0 < (enc x).length) {w : World} {a : Option Addr} {n c : Nat} {xs : List α} (h : Sl enc w (.slice a n c) xs) : n = xs.length ∧ (a = none → n = 0 ∧ c = 0 ∧ xs.flatMap enc = []) ∧ (∀ ad, a = some ad → ∀ j u, (xs.flatMap enc)[j]? = some u → w.cell? (ad.add j) = some u) := by
  obtain ⟨a1, c1, e, -, h1, h2⟩ := h.len h0
  injection e with e1 e2 e3
  subst e1 e2 e3
  refine ⟨rfl, fun e => ?_, h2⟩
  obtain ⟨e1, e2⟩ := h1 e
  exact ⟨by rw [e2]; rfl, e1, by rw [e2]; rfl⟩
end
theorem lenc_pos (x : Lb) : 0 < (lenc x).length := Nat.zero_lt_succ _
theorem Tryd.elemLbs : Tryd.prog.underlying 39 = some (.slice (Tryd.prog.elem 39)) := by kernel_rfl
theorem Tryd.sizeLb (w : World) : (sizeOf (Tryd.prog.elem 39)).run Tryd.prog w = .ok 2 w := by rfl
theorem put_loop_snoc {l : List Lb} {x : Lb} {k : Nat} (h : ∀ j, j < k → cmpS (lx l j).1 x.1 < 0) (hk : cmpS (lx l k).1 x.1 < 0) : ∀ j, j < k + 1 → cmpS (lx l j).1 x.1 < 0 := by
  intro j hj
  by_cases e : j = k
  · subst e; exact hk
  · exact h j (by omega)
theorem S_keep2 {w3 w' : World} {a : Nat} {x0 x1 : Value} (p0 : w3.cell? ⟨a, 0, none⟩ = some x0) (p1 : w3.cell? ⟨a, 1, none⟩ = some x1) (h : Below w3.heap.size w3 w') :
    Below w3.heap.size w3 w' ∧ w'.cell? ⟨a, 0, none⟩ = some x0 ∧ w'.cell? ⟨a, 1, none⟩ = some x1 := ⟨h, cell_below h (Nat.le_refl _) p0, cell_below h (Nat.le_refl _) p1⟩
theorem lenc_one (l : List Lb) : ∀ u ∈ l.flatMap lenc, u.oneCell' = true := oneCell_flat l
set_option maxHeartbeats 4000000 in
theorem rput_any (v : Value) (l : List Lb) (t y : ByteArray) (w : World) (h : Sl lenc w v l) (hl : l.length ≤ 1000000) :
    Calls Tryd.prog 59 #[v, .agg #[.string t, .string y]] w fun e w' => ∃ v', e = .returned v' ∧ Sl lenc w' v' (putL (t, y) l) ∧ Below w.heap.size w w' := by
  have HSL := Lib.hid h
  obtain ⟨a, cap, rfl, hlen, -, hc⟩ := h.split lenc_len
  have HC := Lib.hid hc
  clear hc h
  obtain ⟨i0, hi, hz0, hz1, hz2⟩ := info_parts Tryd.infoLb
  go_enter Tryd.func59, Tryd.ntmps59
  go_wp2_with fail
  go_loopw [5] (fun i wr => ∃ k : Nat, k ≤ l.length ∧ i = .int .i64 k ∧ Hid (∀ j, j < k → cmpS (lx l j).1 t < 0) ∧ ∃ n, wr = (w.alloc (.cells #[.string t, .string y] 88)).drewN n) (fun i _ => l.length - (intOf i).toNat)
  case atStart => exact ⟨0, Nat.zero_le _, rfl, fun j hj => absurd hj (Nat.not_lt_zero _), 0, rfl⟩
  case round =>
    obtain ⟨k, hk, rfl, HV, n, rfl⟩ := hrel
    have h00 : (0 : Int) ≤ (k : Int) := by omega
    by_cases hgo : k < l.length ∧ cmpS (lx l k).1 t < 0
    · obtain ⟨hlt, hcs⟩ := hgo
      have hltz : (k : Int) < (l.length : Int) := by omega
      have hltb : decide ((k : Int) < (l.length : Int)) = true := decide_eq_true hltz
      obtain ⟨b, off, rfl, hk0, hk1⟩ := lab_cells HC.out (Below.refl _ _) (Nat.le_refl _) hlt
      have hlt3 : b < w.heap.size := World.block_lt_of_cell? w _ hk0
      have hne : b ≠ w.heap.size := by omega
      have hbl : Op.bytesLess (lx l k).1.toList t.toList = true := by
        rw [less_cmp]
        rcases cmpS_cases (lx l k).1 t with h | h | h
        · exact decide_eq_true h
        · omega
        · omega
      have HCS := Lib.hid hcs
      clear hcs
      go_wp2_with fail
      go_quiet (fail)
      go_wp2_with fail
      go_roundw
      case rel => exact ⟨k + 1, by omega, by go_num, put_loop_snoc (x := (t, y)) HV.out HCS.out, _, by first | rfl | (simp only [World.drewN_drewN])⟩
      case measure => simp [intOf]; omega
    · have HP := Lib.hid (put_at (t, y) l k hk HV.out (fun h h2 => hgo ⟨h, h2⟩))
      obtain ⟨a1, c1, E1, hs1⟩ := Sl.head Tryd.elemLbs Tryd.sizeLb lenc_len HSL.out hk
      obtain ⟨a2, c2, E2, hs2⟩ := Sl.tail Tryd.elemLbs Tryd.sizeLb lenc_len HSL.out hk
      obtain ⟨-, n1, s1⟩ := hs1.src lenc_pos
      obtain ⟨-, n2, s2⟩ := hs2.src lenc_pos
      have N1 := Lib.hid n1
      have N2 := Lib.hid n2
      have S1 := Lib.hid s1
      have S2 := Lib.hid s2
      clear hs1 hs2 n1 n2 s1 s2
      have h01 : (k : Int) ≤ (l.length : Int) := by omega
      have h02 : (k : Int) ≤ (cap : Int) := by omega
      by_cases hlt : k < l.length
      case' pos =>
        have hltz : (k : Int) < (l.length : Int) := by omega
        have hltb : decide ((k : Int) < (l.length : Int)) = true := decide_eq_true hltz
        obtain ⟨b, off, rfl, hk0, hk1⟩ := lab_cells HC.out (Below.refl _ _) (Nat.le_refl _) hlt
        have hlt3 : b < w.heap.size := World.block_lt_of_cell? w _ hk0
        have hne : b ≠ w.heap.size := by omega
        have hbl : Op.bytesLess (lx l k).1.toList t.toList = false := by
          rw [less_cmp]
          exact decide_eq_false (fun h => hgo ⟨hlt, by omega⟩)
        clear hgo
        go_wp2_with fail
        go_quiet (fail)
        go_wp2_with fail
      case' neg =>
        have hltz : ¬ (k : Int) < (l.length : Int) := by omega
        have hltb : decide ((k : Int) < (l.length : Int)) = false := decide_eq_false hltz
        clear hgo
        go_wp2_with fail
        go_quiet (fail)
        go_wp2_with fail
      all_goals
        have q0 : (((w.alloc (.cells #[.string t, .string y] 88)).drewN n).drewN nq).cell? ⟨w.heap.size, 0, none⟩ = some (.string t) := by simp
        have q1 : (((w.alloc (.cells #[.string t, .string y] 88)).drewN n).drewN nq).cell? ⟨w.heap.size, 1, none⟩ = some (.string y) := by simp
        have hb03 : Below w.heap.size w (((w.alloc (.cells #[.string t, .string y] 88)).drewN n).drewN nq) := below_drewN (below_drewN ((Below.refl _ _).alloc (Nat.le_refl _) _) _) _
        generalize ((w.alloc (.cells #[.string t, .string y] 88)).drewN n).drewN nq = w3 at q0 q1 hb03 ⊢
        have hz3 : w.heap.size + 1 ≤ w3.heap.size := by have h : w.heap.size < w3.heap.size := World.block_lt_of_cell? _ _ q0; omega
        have HB03 := Lib.hid hb03
        clear hb03
        go_region_held3 (fun w' => Below w3.heap.size w3 w' ∧ w'.cell? ⟨w.heap.size, 0, none⟩ = some (.string t) ∧ w'.cell? ⟨w.heap.size, 1, none⟩ = some (.string y))
          (exact S_keep2 q0 q1 (by go_grown))
          (first
            | (refine step_append_rd rfl (.tmp 23) (.tmp 26) _ rfl w3.heap.size 88 i0 _ 2 32 Tryd.underlying39 hi hz0 hz1 hz2 rfl (by decide) (.slice (some ⟨_, 0, none⟩) 0 0) 0 [] rfl
                 ?_ a1 k c1 ((l.take k).flatMap lenc) rfl N1.out (by rw [flat_length lenc_len, List.length_take, Nat.min_eq_left hk]) ?_ ?_ ?_ ?_ ?_ ?_
               (refine owns_lit ?_ ?_; (first | exact lit1 _ _ | exact lit2 _ _ _ | exact lit3 _ _ _); (simp <;> omega))
               (exact fun ad e j u hu => cell_below (B := w3.heap.size) (by go_grown) (Nat.le_refl _) (cell_below HB03.out (Nat.le_refl _) (S1.out ad e j u hu)))
               (exact oneCell_flat _)
               (unfold maxLen; omega)
               (omega)
               (simp <;> omega)
               intro v1 wA hown1 hg1
               have hbA : Below w3.heap.size w3 wA := Below.grown (by go_grown) hg1 (by simp <;> omega) (fun j hj => by simp [Value.ownBlock] at hj; omega)
               have hsA := hbA.size)
            | (refine step_append_rd rfl (.tmp 27) (.tmp 29) _ rfl w3.heap.size 88 i0 _ 2 32 Tryd.underlying39 hi hz0 hz1 hz2 rfl (by decide) v1 k ((l.take k).flatMap lenc) rfl
                 ?_ (some _) 1 1 (lenc (t, y)) rfl (fun e => by cases e) rfl ?_ ?_ ?_ ?_ ?_ ?_
               (first | exact (by simpa using hown1) | exact World.ownsRow.alloc (by simpa using hown1) _)
               (first
                 | exact fun ad e j u hu => by injection e with e; subst e; exact World.news_of_block (cs := #[.string t, .string y]) (lit1 wA _) j u hu
                 | exact fun ad e j u hu => by injection e with e; subst e; exact World.news_of_block (cs := #[.string t, .string y]) (heap_new wA _) j u hu
                 | exact fun ad e j u hu => by injection e with e; subst e; exact World.news_of_block (cs := #[.string t, .string y]) ((hg1.block _ (by simp) (by simp [Value.ownBlock])).trans (lit3 w3 _ _)) j u hu
                 | exact fun ad e j u hu => by injection e with e; subst e; exact World.news_of_block (cs := #[.string t, .string y]) ((hg1.block _ (by simp <;> omega) (by simp [Value.ownBlock])).trans (lit2 w3 _ _)) j u hu)
               (intro u hu; simp [lenc] at hu; rcases hu with rfl | rfl <;> rfl)
               (unfold maxLen; omega)
               (omega)
               (first | exact hsA | (simp; omega))
               intro v2 wB hown2 hg2
               have hbB : Below w3.heap.size w3 wB := Below.grown (by go_grown) hg2 (by first | exact hsA | (simp; omega)) (fun j hj => (hown1.lt j hj).1)
               have hsB := hbB.size))
      all_goals
        have HBB := Lib.hid hbB
        clear hown1 hg1 hg2 hbA hbB hsA
        go_wp2_with (at_builtin; refine wpList_append_rd rfl _ _ 39 rfl w3.heap.size 88 i0 _ 2 32 Tryd.underlying39 hi hz0 hz1 hz2 rfl (by decide) v2 (k + 1) ((l.take k).flatMap lenc ++ lenc (t, y)) rfl hown2 a2 (l.length - k) c2 ((l.drop k).flatMap lenc) rfl N2.out (by rw [flat_length lenc_len, List.length_drop]) (fun ad e j u hu => cell_below HBB.out (Nat.le_refl _) (cell_below HB03.out (Nat.le_refl _) (S2.out ad e j u hu))) (oneCell_flat _) (by unfold maxLen; omega) (by omega) hsB ?_)
        intro v3 w9 hown3 hg3
        have hbC : Below w3.heap.size w3 w9 := Below.grown HBB.out hg3 hsB (fun j hj => (hown2.lt j hj).1)
        have hsl : Sl lenc w9 v3 (putL (t, y) l) := Sl.own lenc_len (by decide) (e := 88) (n := k + 1 + (l.length - k)) (base := w3.heap.size) (by
          rw [HP.out, List.flatMap_append, List.flatMap_cons]; exact hown3)
        have HC9 := Lib.hid (HB03.out.trans (hbC.mono (by omega)))
        have HSL9 := Lib.hid hsl
        clear hown2 hown3 hg3 hbC hsl hsB
        go_wp2_with fail
        go_ret
        exact ⟨_, rfl, HSL9.out, HC9.out⟩
end Go.Proofs.YtnnfhcbopchodaaDoor
namespace Go.Proofs.YtnnfhcbopchodaaDoor
open Go.RowKit
set_option linter.unusedVariables false
set_option linter.unusedSimpArgs false
set_option maxRecDepth 100000
theorem lx_mem {l : List Lb} {k : Nat} (h : k < l.length) : lx l k ∈ l := by rw [lx_at h]; exact List.getElem_mem h
theorem okP_no_name {l : List Lb} {k : Nat} (hk : k < l.length) (h : nameB (lx l k).1 = false ∨ 256 < (lx l k).2.size) : ¬ OkP l := by
  intro ho
  obtain ⟨h1, h2⟩ := ho.1 _ (lx_mem hk)
  rcases h with h | h
  · rw [h] at h1; cases h1
  · omega
theorem okP_no_dup {l : List Lb} {j k : Nat} (hj : j < k) (hk : k < l.length) (h : (lx l j).1 = (lx l k).1) : ¬ OkP l := by
  intro ho
  have := List.pairwise_iff_getElem.1 ho.2 j k (by omega) hk hj
  rw [lx_at hk, lx_at (by omega)] at h
  exact this h
theorem okP_snoc {l : List Lb} {k : Nat} (hk : k < l.length) (h : OkP (l.take k)) (h1 : nameB (lx l k).1 = true) (h2 : (lx l k).2.size ≤ 256) (h3 : ∀ j, j < k → (lx l j).1 ≠ (lx l k).1) : OkP (l.take (k + 1)) := by
  rw [List.take_succ_eq_append_getElem hk, ← lx_at hk]
  refine ⟨fun x hx => ?_, ?_⟩
  · rcases List.mem_append.1 hx with hx | hx
    · exact h.1 x hx
    · simp at hx; subst hx; exact ⟨h1, h2⟩
  · refine List.pairwise_append.2 ⟨h.2, List.pairwise_singleton _ _, fun x hx y hy => ?_⟩
    simp at hy; subst hy
    obtain ⟨j, hj, rfl⟩ := List.getElem_of_mem hx
    have hj' : j < k := by simp at hj; omega
    have := h3 j hj'
    rw [lx_at (by omega)] at this
    simpa using this
def RSet (l : List Lb) (w : World) (e : Ending) (w' : World) : Prop :=
  Below w.heap.size w w' ∧ ((OkP l ∧ (keepL l).length ≤ 32 ∧ ∃ v', e = .returned (.tuple #[v', .int .i64 0]) ∧ Sl lenc w' v' (insL (keepL l))) ∨ (¬ (OkP l ∧ (keepL l).length ≤ 32) ∧ e = .returned (.tuple #[.slice none 0 0, .int .i64 1])))
set_option maxHeartbeats 4000000 in
theorem rset_any (v : Value) (l : List Lb) (w : World) (h : Sl lenc w v l) (hl : l.length ≤ 100000) :
    Calls Tryd.prog 37 #[v] w fun e w' => RSet l w e w' := by
  obtain ⟨a, cap, rfl, hlen, -, hc⟩ := h.split lenc_len
  have HC := Lib.hid hc
  clear hc h
  go_enter Tryd.func37, Tryd.ntmps37
  go_wp2_with fail
  go_loopw [4, 5] (fun v i wr => ∃ (k : Nat), k ≤ l.length ∧ i = .int .i64 k ∧ Hid (OkP (l.take k)) ∧ Hid (Sl lenc wr v (insL (keepL (l.take k)))) ∧ Hid (Below w.heap.size w wr)) (fun _ i _ => l.length - (intOf i).toNat)
  case atStart => exact ⟨0, Nat.zero_le _, rfl, ⟨by simp, by simp⟩, Sl.nil _, Below.refl _ _⟩
  case round =>
    obtain ⟨k, hk, rfl, HO, HS, HB⟩ := hrel
    have h00 : (0 : Int) ≤ (k : Int) := by omega
    by_cases hlt : k < l.length
    · have hltz : (k : Int) < (l.length : Int) := by omega
      obtain ⟨b, off, rfl, hk0, hk1⟩ := lab_cells HC.out HB.out (Nat.le_refl _) hlt
      by_cases hn : nameB (lx l k).1 = true
      · by_cases h2 : 256 < (lx l k).2.size
        · have h2z : (256 : Int) < ((lx l k).2.size : Int) := by omega
          have h2b : decide ((256 : Int) < ((lx l k).2.size : Int)) = true := decide_eq_true h2z
          have HF := Lib.hid (okP_no_name hlt (.inr h2))
          go_wp2_with fail
          refine (rname_any _ _).mono ?_
          rintro e w1 ⟨rfl, rfl⟩
          rw [hn]
          go_wp2_with fail
          go_ret2
          exact ⟨HB.out, .inr ⟨fun h => HF.out h.1, rfl⟩⟩
        · have h2z : ¬ (256 : Int) < ((lx l k).2.size : Int) := by omega
          have h2b : decide ((256 : Int) < ((lx l k).2.size : Int)) = false := decide_eq_false h2z
          have H2 := Lib.hid h2
          clear h2
          go_wp2_with fail
          refine (rname_any _ _).mono ?_
          rintro e w1 ⟨rfl, rfl⟩
          rw [hn]
          have HN := Lib.hid hn
          clear hn
          go_wp2_with fail
          obtain ⟨wo, rfl⟩ : ∃ wo : World, wo = w1 := ⟨_, rfl⟩
          go_loopw [6] (fun j wr => ∃ (m : Nat), m ≤ k ∧ j = .int .i64 m ∧ Hid (∀ j, j < m → (lx l j).1 ≠ (lx l k).1) ∧ ∃ n, wr = wo.drewN n) (fun j _ => k - (intOf j).toNat)
          case atStart => exact ⟨0, Nat.zero_le _, rfl, fun j hj => absurd hj (Nat.not_lt_zero _), 0, rfl⟩
          case round =>
            obtain ⟨m, hm, rfl, HJ, n, rfl⟩ := hrel
            have h0m : (0 : Int) ≤ (m : Int) := by omega
            by_cases hmk : m < k
            · have hmkz : (m : Int) < (k : Int) := by omega
              have hml : (m : Int) < (l.length : Int) := by omega
              obtain ⟨b', off', hbo, hj0, hj1⟩ := lab_cells HC.out HB.out (Nat.le_refl _) (show m < l.length by omega)
              injection hbo with hbo
              injection hbo with hb1 hb2
              subst hb1 hb2
              by_cases he : ((lx l m).1.toList == (lx l k).1.toList) = true
              · have HF := Lib.hid (okP_no_dup hmk hlt (by rw [beq_cmp, decide_eq_true_eq] at he; exact (cmpS_eq _ _).1 he))
                go_wp2_with fail
                go_quiet (fail)
                go_wp2_with fail
                go_ret2
                exact ⟨below_drewN (below_drewN HB.out _) _, .inr ⟨fun h => HF.out h.1, rfl⟩⟩
              · have he1 : ((lx l m).1.toList == (lx l k).1.toList) = false := by simpa using he
                have HNE := Lib.hid (show (lx l m).1 ≠ (lx l k).1 from fun e => he (by rw [beq_cmp, decide_eq_true_eq]; exact (cmpS_eq _ _).2 e))
                clear he
                go_wp2_with fail
                go_quiet (fail)
                go_wp2_with fail
                go_roundw
                case rel =>
                  refine ⟨m + 1, by omega, by go_num, fun j hj => ?_, _, by first | rfl | (simp only [World.drewN_drewN])⟩
                  by_cases hjm : j = m
                  · subst hjm; exact HNE.out
                  · exact HJ.out j (by omega)
                case measure => simp [intOf]; omega
            · obtain rfl : m = k := by omega
              have hmkz : ¬ (m : Int) < (m : Int) := by omega
              have HO1 := Lib.hid (okP_snoc hlt HO.out HN.out (by have := H2.out; omega) HJ.out)
              have HK := Lib.hid (keep_snoc l m hlt)
              by_cases h0 : 0 < (lx l m).2.size
              · have hz1' : ¬ (lx l m).2.toList = [] := not_empty_of h0
                have hz2' : (lx l m).2.toList.isEmpty = false := by simpa using hz1'
                have HSS := Lib.hid (show insL (keepL (l.take (m + 1))) = putL (lx l m) (insL (keepL (l.take m))) by rw [HK.out, if_pos h0, ins_snoc])
                have hlen2 : (insL (keepL (l.take m))).length ≤ 1000000 := by rw [ins_length]; have := keep_take_len l m; omega
                have HP := Lib.hid (rput_any u4 _ (lx l m).1 (lx l m).2 (wo.drewN n) HS.out hlen2)
                clear hlen2 h0
                go_wp2_with fail
                refine HP.out.mono ?_
                rintro e w5 ⟨v', rfl, hs5, hb5⟩
                have HS5 := Lib.hid hs5
                have HB5 := Lib.hid ((below_drewN HB.out n).trans (hb5.mono (below_drewN HB.out n).size))
                clear hs5 hb5
                go_wp2_with fail
                go_roundw
                case rel => exact ⟨m + 1, by omega, by go_num, HO1.out, by rw [HSS.out]; exact HS5.out, HB5.out⟩
                case measure => simp [intOf]; omega
              · have hz1' : (lx l m).2.toList = [] := empty_of (by omega)
                have hz2' : (lx l m).2.toList.isEmpty = true := by simpa using hz1'
                have HSS := Lib.hid (show keepL (l.take (m + 1)) = keepL (l.take m) by rw [HK.out, if_neg h0, List.append_nil])
                clear h0
                go_wp2_with fail
                go_roundw
                case rel => exact ⟨m + 1, by omega, by go_num, HO1.out, by rw [HSS.out]; exact HS.out, below_drewN HB.out _⟩
                case measure => simp [intOf]; omega
      · have hn2 : nameB (lx l k).1 = false := by simpa using hn
        have HF := Lib.hid (okP_no_name hlt (.inl hn2))
        go_wp2_with fail
        refine (rname_any _ _).mono ?_
        rintro e w1 ⟨rfl, rfl⟩
        rw [hn2]
        go_wp2_with fail
        go_ret2
        exact ⟨HB.out, .inr ⟨fun h => HF.out h.1, rfl⟩⟩
    · have hltz : ¬ (k : Int) < (l.length : Int) := by omega
      obtain rfl : k = l.length := by omega
      rw [List.take_of_length_le (Nat.le_refl _)] at HO HS
      obtain ⟨a5, cap5, e5, -, -, -⟩ := HS.out.split lenc_len
      subst e5
      have hle := ins_length (keepL l)
      by_cases hbig : 32 < (keepL l).length
      · have hbz : (32 : Int) < ((insL (keepL l)).length : Int) := by omega
        clear hle
        go_wp2_with fail
        go_ret2
        exact ⟨HB.out, .inr ⟨fun h => by omega, rfl⟩⟩
      · have hbz : ¬ (32 : Int) < ((insL (keepL l)).length : Int) := by omega
        clear hle
        go_wp2_with fail
        go_ret2
        exact ⟨HB.out, .inl ⟨HO.out, by omega, _, rfl, HS.out⟩⟩
end Go.Proofs.YtnnfhcbopchodaaDoor
namespace Go.Proofs.YtnnfhcbopchodaaDoor
open Go Go.RowKit
set_option linter.unusedVariables false
set_option linter.unusedSimpArgs false
set_option maxRecDepth 100000
/-- The table that strconv.Itoa reads. -/
def Tab (w : World) : Prop := Lib.TabIs Tryd.prog w "internal/strconv.uint64pow10" .u64 Lib.pow10Tab
theorem Tab.below {w w' : World} {B : Nat} (h : Tab w) (hb : Below B w w') (hB : w.heap.size ≤ B) : Tab w' := by
  unfold Tab Lib.TabIs World.var? at h ⊢
  cases hg : Tryd.prog.globalNamed "internal/strconv.uint64pow10" with
  | none => rw [hg] at h; cases h
  | some g =>
    rw [hg] at h
    simp only [Option.bind_some] at h ⊢
    have hlt : g < w.heap.size := by
      rcases Nat.lt_or_ge g w.heap.size with h' | h'
      · exact h'
      · rw [Array.getElem?_eq_none h'] at h; cases h
    rw [hb.block g (by omega)]
    exact h
def itoaB (n : Int) : ByteArray := ⟨(Lib.itoa n).toArray⟩
theorem itoa_any (n : Int) (w : World) (h0 : -9223372036854775808 ≤ n) (h1 : n ≤ 9223372036854775807) (ht : Tab w) :
    Calls Tryd.prog 43 #[.int .i64 n] w fun e w' => e = .returned (.string (itoaB n)) ∧ Below w.heap.size w w' :=
  (Tryd.strconv_Itoa n h0 h1 w ht).mono fun e w' ⟨he, k, os, hw⟩ => ⟨he, by rw [hw]; exact ⟨rfl, rfl, rfl, by simp [Sort.grow, World.drewN], fun j hj => by simp [Sort.grow, World.drewN, Array.getElem?_append, hj]⟩⟩
theorem decDigits_len : ∀ (k u : Nat), u < 10 ^ (k + 1) → (Lib.decDigits u).length ≤ k + 1
  | k, u, h => by
    rw [Lib.decDigits]
    split
    · simp
    · rename_i h2
      cases k with
      | zero => omega
      | succ k =>
        have := decDigits_len k (u / 10) (by rw [Nat.pow_succ] at h; omega)
        simp
        omega
theorem itoaB_size {n : Int} (h0 : 0 ≤ n) (h1 : n ≤ 9223372036854775807) : (itoaB n).size ≤ 19 := by
  have hl : (itoaB n).size = (Lib.itoa n).length := by
    show (Lib.itoa n).toArray.size = _
    simp
  rw [hl, Lib.itoa, if_neg (by omega)]
  exact decDigits_len 18 n.toNat (by omega)
/-- A text with its length ahead. -/
def colonS : ByteArray := ⟨#[58]⟩
def pieceS (s : ByteArray) : ByteArray := itoaB s.size ++ colonS ++ s
def pieceB (s : ByteArray) : List UInt8 := (pieceS s).data.toList
def keyBytes (l : List Lb) : List UInt8 := l.flatMap fun x => pieceB x.1 ++ pieceB x.2
def keyL (l : List Lb) : ByteArray := ⟨(keyBytes l).toArray⟩
theorem pieceS_size {s : ByteArray} (h : s.size ≤ 1000000) : (pieceS s).size ≤ s.size + 20 := by
  have := itoaB_size (n := (s.size : Int)) (by omega) (by omega)
  unfold pieceS
  rw [ByteArray.size_append, ByteArray.size_append]
  have : colonS.size = 1 := rfl
  omega
def SizesOk (l : List Lb) : Prop := ∀ x ∈ l, x.1.size ≤ 1000 ∧ x.2.size ≤ 3000
theorem keyBytes_len : ∀ {l : List Lb}, SizesOk l → (keyBytes l).length ≤ l.length * 5000 := by
  intro l
  induction l with
  | nil => intro _; simp [keyBytes]
  | cons x r ih =>
    intro h
    have h1 := h x (by simp)
    have h2 := ih (fun y hy => h y (by simp [hy]))
    have h3 := pieceS_size (s := x.1) (by omega)
    have h4 := pieceS_size (s := x.2) (by omega)
    have e1 : (pieceB x.1).length = (pieceS x.1).size := by unfold pieceB; simp
    have e2 : (pieceB x.2).length = (pieceS x.2).size := by unfold pieceB; simp
    have e : keyBytes (x :: r) = pieceB x.1 ++ pieceB x.2 ++ keyBytes r := rfl
    rw [e, List.length_append, List.length_append, e1, e2, List.length_cons, Nat.succ_mul]
    omega
theorem SizesOk.take {l : List Lb} (h : SizesOk l) (k : Nat) : SizesOk (l.take k) := fun x hx => h x (List.mem_of_mem_take hx)
theorem keyBytes_snoc (l : List Lb) (k : Nat) (h : k < l.length) : keyBytes (l.take (k + 1)) = keyBytes (l.take k) ++ (pieceB (lx l k).1 ++ pieceB (lx l k).2) := by
  unfold keyBytes
  rw [lx_at h, List.take_succ_eq_append_getElem h, List.flatMap_append]
  simp
def halfB (x : Lb) : Nat → List UInt8
  | 0 => []
  | 1 => pieceB x.1
  | _ => pieceB x.1 ++ pieceB x.2
def halfS (x : Lb) : Nat → ByteArray
  | 0 => x.1
  | _ => x.2
abbrev BldT : TypeId := 65
abbrev U8T : TypeId := 5
theorem lit3' (w : World) (o p : Obj) : ((w.alloc p).alloc o).heap[w.heap.size + 1]? = some o := by
  have := heap_new (w.alloc p) o
  rw [show (w.alloc p).heap.size = w.heap.size + 1 by simp] at this
  exact this
end Go.Proofs.YtnnfhcbopchodaaDoor
namespace Go.Proofs.YtnnfhcbopchodaaDoor
open Go Go.RowKit
set_option linter.unusedVariables false
set_option linter.unusedSimpArgs false
set_option maxRecDepth 100000
/-- What the walks ask of the library's variables. -/
def KW (w : World) : Prop := Tab w ∧ ∃ m, w.cell? ⟨0, 0, none⟩ = some (.int .i64 m)
theorem KW.below {w w' : World} (h : KW w) (hb : Below w.heap.size w w') : KW w' := by
  obtain ⟨h1, m, h2⟩ := h
  exact ⟨h1.below hb (Nat.le_refl _), m, cell_below hb (Nat.le_refl _) h2⟩
def bsl (l : List UInt8) : ByteArray := ⟨l.toArray⟩
theorem bsl_size (l : List UInt8) : (bsl l).size = l.length := by show l.toArray.size = _; simp
theorem bsl_list (l : List UInt8) : (bsl l).toList = l := by rw [ByteArray.toList_eq]; rfl
theorem bsl_data (l : List UInt8) : (bsl l).data.toList = l := rfl
theorem bsl_get (l : List UInt8) (j : Nat) (h : j < l.length) (h' : j < (bsl l).size) : (bsl l)[j] = l[j] := rfl
def SplitQ (L : List (List UInt8)) (w : World) (e : Ending) (w' : World) : Prop := Below w.heap.size w w' ∧
  ((L.all nodeOk = true ∧ ∃ v, e = .returned (.tuple #[v, .bool (decide ((L.length : Int) ≤ 31))]) ∧ Sl wenc w' v L) ∨
   (L.all nodeOk = false ∧ e = .returned (.tuple #[.slice none 0 0, .bool false])))
def SplitR (s : ByteArray) (w : World) (e : Ending) (w' : World) : Prop := SplitQ (splitD s.data.toList) w e w'
theorem splitD_len (l : List UInt8) : (splitD l).length ≤ l.length + 1 := by
  induction l with
  | nil => simp [splitD]
  | cons c r ih =>
    rw [splitD_cons]
    split
    · simp; omega
    · split
      · simp
      · rename_i hs; rw [hs] at ih; simp at ih ⊢; omega
theorem all_false {L : List (List UInt8)} {k : Nat} (h : k < L.length) (hn : nodeOk L[k] = false) : L.all nodeOk = false := by
  rw [List.all_eq_false]
  exact ⟨L[k], List.getElem_mem h, by rw [hn]; simp⟩
set_option maxHeartbeats 4000000 in
theorem split_any (s : ByteArray) (w : World) (hk : KW w) (hs : s.size ≤ 1000000) : Calls Tryd.prog 32 #[.string s] w fun e w' => SplitR s w e w' := by
  obtain ⟨-, m, hm⟩ := hk
  have HSP := Lib.hid (Tryd.strings_Split s ⟨#[46]⟩ m w (by omega) hm (by decide))
  have hlen := splitB_len s
  have hcell := splitB_dot s
  have hL31 : (splitD s.data.toList).length ≤ s.size + 1 := splitD_len _
  obtain ⟨L, hL⟩ : ∃ L, L = splitD s.data.toList := ⟨_, rfl⟩
  unfold SplitR
  rw [← hL] at hlen hcell hL31 ⊢
  rw [hlen, hcell] at HSP
  clear hL hlen hcell hm
  go_enter Tryd.func32, Tryd.ntmps32
  go_wp2_with fail
  refine HSP.out.mono ?_
  rintro e w1 ⟨rfl, rfl⟩
  have hsl : Sl wenc (w.alloc (.cells (L.flatMap wenc).toArray 9)) (.slice (some ⟨w.heap.size, 0, none⟩) L.length L.length) L := Sl.lit (heap_new _ _) rfl rfl (by omega)
  have HSL := Lib.hid hsl
  have HBB := Lib.hid (show Below w.heap.size w (w.alloc (.cells (L.flatMap wenc).toArray 9)) from (Below.refl _ _).alloc (Nat.le_refl _) _)
  obtain ⟨W1, hW1⟩ : ∃ W1, W1 = w.alloc (.cells (L.flatMap wenc).toArray 9) := ⟨_, rfl⟩
  rw [← hW1] at HSL HBB ⊢
  obtain ⟨gb, hgb⟩ : ∃ g, g = w.heap.size := ⟨_, rfl⟩
  rw [← hgb] at HSL ⊢
  have HGB := Lib.hid hgb
  clear hsl hW1 hgb
  go_wp2_with fail
  go_loop [12] (fun i => ∃ k : Nat, i = .int .i64 k ∧ k ≤ L.length ∧ Hid ((L.take k).all nodeOk = true)) (fun i => L.length - (intOf i).toNat)
  case atStart => exact ⟨0, rfl, Nat.zero_le _, rfl⟩
  case round =>
    obtain ⟨k, rfl, hkl, HA⟩ := hrel
    by_cases hlt : k < L.length
    · obtain ⟨a', cap', he, -, -, hc⟩ := HSL.out.split wenc_len
      injection he with he1 he2 he3
      subst he1
      obtain ⟨b', off', hb', hcc⟩ := hc k hlt
      injection hb' with hb'
      injection hb' with hb1 hb2
      subst hb1 hb2
      have c0 := hcc 0 _ rfl
      simp only [Nat.mul_one, Nat.add_zero, Nat.zero_add] at c0
      have HTK := Lib.hid (show L.take (k + 1) = L.take k ++ [L[k]] from by rw [List.take_succ_eq_append_getElem hlt])
      have HNF := Lib.hid (fun (h : nodeOk L[k] = false) => all_false hlt h)
      obtain ⟨x, hx⟩ : ∃ x, x = L[k] := ⟨_, rfl⟩
      rw [← hx] at HTK HNF c0
      clear hx hcc hc he2 he3
      replace c0 : W1.cell? ⟨gb, k, none⟩ = some (.string (bsl x)) := c0
      by_cases hx0 : x = []
      · have HALL := Lib.hid (HNF.out (by rw [hx0]; rfl))
        subst hx0
        have e1 : (bsl []).toList = [] := bsl_list []
        have e2 : (bsl []).toList.isEmpty = true := by rw [bsl_list]; rfl
        go_wp2_with fail
        go_ret2
        exact ⟨HBB.out, .inr ⟨HALL.out, rfl⟩⟩
      · have e1 : ¬ (bsl x).toList = [] := by rw [bsl_list]; exact hx0
        have e2 : (bsl x).toList.isEmpty = false := by rw [bsl_list]; simpa using hx0
        have hxs := bsl_size x
        by_cases h256 : 256 < x.length
        · have HALL := Lib.hid (HNF.out (by unfold nodeOk; simp; omega))
          have hb : decide ((256 : Int) < ((bsl x).size : Int)) = true := by rw [decide_eq_true_iff, hxs]; omega
          have hb2 : decide (256 < (bsl x).size) = true := by rw [decide_eq_true_iff, hxs]; exact h256
          clear hxs hx0
          go_wp2_with fail
          go_ret2
          exact ⟨HBB.out, .inr ⟨HALL.out, rfl⟩⟩
        · have hb : decide ((256 : Int) < ((bsl x).size : Int)) = false := by rw [decide_eq_false_iff_not, hxs]; omega
          have hb2 : decide (256 < (bsl x).size) = false := by rw [decide_eq_false_iff_not, hxs]; exact h256
          have HXS := Lib.hid hxs
          clear hxs
          go_wp2_with fail
          clear hb hb2
          go_loop [25] (fun i => ∃ j : Nat, i = .int .i64 j ∧ j ≤ x.length ∧ Hid (∀ c ∈ x.take j, isG c = true)) (fun i => x.length - (intOf i).toNat)
          case atStart => exact ⟨0, rfl, Nat.zero_le _, (fun c hc => by simp at hc)⟩
          case round =>
            obtain ⟨j, rfl, hjl, HJ⟩ := hrel
            by_cases hlt2 : j < x.length
            · have hj2 : j < (bsl x).size := by rw [HXS.out]; exact hlt2
              have HG := Lib.hid (bsl_get x j hlt2 hj2)
              have HT := Lib.hid (show x.take (j + 1) = x.take j ++ [x[j]] from List.take_succ_eq_append_getElem hlt2)
              obtain ⟨gv, hgv⟩ : ∃ gv, isG (bsl x)[j] = gv := ⟨_, rfl⟩
              have HIS := Lib.hid (gis_c (bsl x)[j] gv hgv)
              have HGV := Lib.hid hgv
              clear hgv
              cases gv with
              | true =>
                go_wp2_with fail
                refine (HIS.out _).mono ?_
                rintro e w5 ⟨rfl, rfl⟩
                go_wp2_with fail
                go_round
                case rel =>
                  refine ⟨j + 1, by go_num, by omega, fun c hc => ?_⟩
                  rw [HT.out] at hc
                  rcases List.mem_append.1 hc with hc | hc
                  · exact HJ.out c hc
                  · rw [List.mem_singleton.1 hc, ← HG.out]; exact HGV.out
                case measure => simp [intOf]; omega
              | false =>
                have HALL := Lib.hid (HNF.out (by
                  unfold nodeOk
                  rw [show x.all isG = false from List.all_eq_false.2 ⟨x[j], List.getElem_mem hlt2, by rw [← HG.out, HGV.out]; simp⟩, Bool.and_false]))
                go_wp2_with fail
                refine (HIS.out _).mono ?_
                rintro e w5 ⟨rfl, rfl⟩
                go_wp2_with fail
                go_ret2
                exact ⟨HBB.out, .inr ⟨HALL.out, rfl⟩⟩
            · obtain rfl : j = x.length := by omega
              have hj3 : ¬ ((x.length : Int) < ((bsl x).size : Int)) := by rw [HXS.out]; omega
              have hj4 : ¬ (x.length < (bsl x).size) := by rw [HXS.out]; omega
              go_wp2_with fail
              go_round
              case rel =>
                refine ⟨k + 1, by go_num, by omega, ?_⟩
                unfold Hid
                rw [HTK.out, List.all_append, show (L.take k).all nodeOk = true from HA.out]
                have hall : x.all isG = true := List.all_eq_true.2 (fun c hc => HJ.out c (by rw [List.take_length]; exact hc))
                have h1 : nodeOk x = true := by unfold nodeOk; rw [hall]; simp [hx0]; omega
                simp [h1]
              case measure => simp [intOf]; omega
    · obtain rfl : k = L.length := by omega
      go_wp2_with fail
      go_ret2
      refine ⟨HBB.out, .inl ⟨?_, _, rfl, HSL.out⟩⟩
      have := HA.out
      rw [List.take_length] at this
      exact this
end Go.Proofs.YtnnfhcbopchodaaDoor
namespace Go.Proofs.YtnnfhcbopchodaaDoor
open Go Go.RowKit
set_option linter.unusedVariables false
set_option linter.unusedSimpArgs false
set_option maxRecDepth 100000
theorem Tryd.stepLoadMid {ops : Array Oper} {rest : List Oper} {o : Oper} {a : Act} {w : World} {Q : Exit → Act → World → Prop} {z : ZPc} (x : Operand) (b off : Nat) (hg : o.guard = none) (ho : o.op = .load PcT x) (hx : a.eval x = .pointer (some ⟨b, off, none⟩)) (hz : ∀ i u, (zpc z)[i]? = some u → w.cell? ⟨b, off + i, none⟩ = some u)
    (h : wpList Tryd.prog ops Q rest (a.put o.dst (.agg (zpc z).toArray)) w) : wpList Tryd.prog ops Q (o :: rest) a w := by
  obtain ⟨d, hd, hr⟩ := Tryd.pcRow
  exact wpList_load_mid hg PcT x ho b off hx (zpc z) d (fun j v hv => hz j v hv) hd hr (by rw [zpc_len]; exact Tryd.infoPc) h
theorem one_set {n : Nat} (hn : 0 < n) : (fun i => if i = 0 then true else (fun _ => false) i) = startB := by
  funext i
  unfold startB
  by_cases h : i = 0
  · rw [if_pos h, h]; rfl
  · rw [if_neg h]; simpa using h
theorem nowB_take {ps : List Pc} {s : List UInt8} {j : Nat} (h : j < ps.length) : nowB (ps.take (j + 1)) s = stepB ps[j] s (nowB (ps.take j) s) := by
  rw [List.take_succ_eq_append_getElem h]
  funext i
  exact nowB_snoc _ _ _ _
theorem matchG_no {g : List (List Pc)} {s : List UInt8} {k : Nat} (hk : k < g.length) (h : matchN (g.getD k []) ((splitD s).getD k []) = false) : matchG g s = false := by
  unfold matchG
  have : ((List.range g.length).all fun i => matchN (g.getD i []) ((splitD s).getD i [])) = false := List.all_eq_false.2 ⟨k, List.mem_range.2 hk, by rw [h]; simp⟩
  rw [this, Bool.and_false]
theorem matchG_yes {g : List (List Pc)} {s : List UInt8} (h1 : okG s = true) (h2 : (splitD s).length = g.length) (h : ∀ k, k < g.length → matchN (g.getD k []) ((splitD s).getD k []) = true) : matchG g s = true := by
  unfold matchG
  rw [h1, decide_eq_true h2, Bool.true_and, Bool.true_and, List.all_eq_true]
  exact fun i hi => h i (List.mem_range.1 hi)
set_option maxHeartbeats 4000000 in
theorem match_any (gb : Nat) (g : List (List Pc)) (s : ByteArray) (w : World) (hg : GlobAt w gb g) (hk : KW w) (hs : s.size ≤ 1000000) :
    Calls Tryd.prog 12 #[.pointer (some ⟨gb, 0, none⟩), .string s] w fun e w' => e = .returned (.bool (matchG g s.data.toList)) ∧ Below w.heap.size w w' := by
  have HSP := Lib.hid (split_any s w hk hs)
  have HGL := Lib.hid hg
  obtain ⟨L, hL⟩ : ∃ L, L = splitD s.data.toList := ⟨_, rfl⟩
  have HLL := Lib.hid hL
  unfold SplitR at HSP
  rw [← hL] at HSP
  obtain ⟨mr, hmr⟩ : ∃ mr, mr = matchG g s.data.toList := ⟨_, rfl⟩
  rw [← hmr]
  have HMR := Lib.hid hmr
  clear hg hL hmr
  go_enter Tryd.func12, Tryd.ntmps12
  go_wp2_with fail
  refine HSP.out.mono ?_
  rintro e w1 ⟨hb1, hres⟩
  rcases hres with ⟨hall, v, rfl, hsl⟩ | ⟨hall, rfl⟩
  · obtain ⟨nv, vs, hnv, hvs, hnd⟩ := HGL.out.below hb1
    obtain ⟨an, cn, rfl, hcn, -, hvc⟩ := hvs.split venc_len
    obtain ⟨al, cl, rfl, hcl, -, hlc⟩ := hsl.split wenc_len
    have HSL := Lib.hid hsl
    have HLC := Lib.hid hlc
    have HVC := Lib.hid hvc
    have HND := Lib.hid hnd
    have HB1 := Lib.hid hb1
    have HALL := Lib.hid hall
    have hvl : vs.length = g.length := hnd.1
    have HVL := Lib.hid hvl
    have HOK := Lib.hid (fun (h : L.length ≤ 31) => show okG s.data.toList = true by unfold okG; rw [← HLL.out, hall, decide_eq_true h]; rfl)
    have HNO := Lib.hid (fun (h : ¬ L.length ≤ 31) => show mr = false by rw [HMR.out]; unfold matchG okG; rw [← HLL.out, decide_eq_false h, Bool.and_false, Bool.false_and, Bool.false_and])
    have HNE := Lib.hid (fun (h : ¬ L.length = g.length) => show mr = false by rw [HMR.out]; unfold matchG; rw [← HLL.out, decide_eq_false h, Bool.and_false, Bool.false_and])
    rw [hvl] at hnv
    clear hsl hlc hvs hvc hnd hb1 hall hvl
    by_cases h31 : L.length ≤ 31
    · have hd31 : decide ((L.length : Int) ≤ 31) = true := by rw [decide_eq_true_iff]; omega
      rw [hd31]
      clear hd31
      have HOK := Lib.hid (HOK.out h31)
      clear HNO
      by_cases hlen : L.length = g.length
      · have hn1 : ((L.length : Int) != (g.length : Int)) = false := by rw [hlen]; simp
        have hn2 : (L.length != g.length) = false := by rw [hlen]; simp
        have HLEN := Lib.hid hlen
        clear hlen HNE
        go_wp2_with fail
        clear hn1 hn2
        go_loopw [31] (fun i wr => ∃ k : Nat, i = .int .i64 k ∧ k ≤ L.length ∧ Hid (Below w1.heap.size w1 wr) ∧ Hid (∀ i, i < k → matchN (g.getD i []) (L.getD i []) = true)) (fun i _ => L.length - (intOf i).toNat)
        case atStart => exact ⟨0, rfl, Nat.zero_le _, Below.refl _ _, (fun i hi => by omega)⟩
        case round =>
          obtain ⟨k, rfl, hkl, HW, HM⟩ := hrel
          obtain ⟨wo, hwo⟩ : ∃ wo, wo = wr := ⟨_, rfl⟩
          subst hwo
          by_cases hlt : k < L.length
          · obtain ⟨bl, ol, hal, hlc⟩ := HLC.out k hlt
            subst hal
            have hkg : k < g.length := by rw [← HLEN.out]; exact hlt
            have hkv : k < vs.length := by rw [HVL.out]; exact hkg
            obtain ⟨bv, ov, hav, hvc⟩ := HVC.out k hkv
            subst hav
            have c0 := cell_below HW.out (Nat.le_refl _) (hlc 0 _ rfl)
            simp only [Nat.mul_one, Nat.add_zero] at c0
            have g0 := cell_below HW.out (Nat.le_refl _) hnv
            have v0 := cell_below HW.out (Nat.le_refl _) (hvc 0 _ rfl)
            simp only [Nat.mul_one, Nat.add_zero] at v0
            obtain ⟨zs, hzs, ⟨hzl, -⟩, hzw⟩ := HND.out.2 k hkg
            have hvd : vs.getD k undef = vs[k] := by rw [List.getD_eq_getElem?_getD, List.getElem?_eq_getElem hkv]; rfl
            rw [hvd] at hzl
            have hzl2 := hzl.below HW.out (Nat.le_refl _)
            obtain ⟨az, cz, hvz, hcz, -, hzc⟩ := hzl2.split zpc_len
            rw [hvz] at v0
            obtain ⟨x, hx⟩ : ∃ x, x = L[k] := ⟨_, rfl⟩
            have hxo : nodeOk x = true := List.all_eq_true.1 HALL.out x (by rw [hx]; exact List.getElem_mem hlt)
            have hxl : x.length ≤ 256 := by
              unfold nodeOk at hxo
              simp only [Bool.and_eq_true, decide_eq_true_eq] at hxo
              exact hxo.1.2
            have hxd : L.getD k [] = x := by rw [List.getD_eq_getElem?_getD, List.getElem?_eq_getElem hlt, hx]; rfl
            replace c0 : wo.cell? ⟨bl, ol + k, none⟩ = some (.string (bsl x)) := by rw [hx]; exact c0
            have HXD := Lib.hid hxd
            have HZC := Lib.hid hzc
            have HZS := Lib.hid hzs
            have HZW := Lib.hid hzw
            have hxs := bsl_size x
            have HXS := Lib.hid hxs
            have hb256 : (bsl x).size ≤ 256 := by rw [hxs]; exact hxl
            obtain ⟨n, hn⟩ : ∃ n, n = (bsl x).size + 1 := ⟨_, rfl⟩
            have HNN := Lib.hid hn
            obtain ⟨i0, hi, hz0, hz1, hz2⟩ := info_parts Tryd.infoBl
            have HI := Lib.hid hi
            have HI0 := Lib.hid hz0
            have HI1 := Lib.hid hz1
            have HI2 := Lib.hid (show i0.bytes * ((bsl x).size + 1) ≤ 281474976710656 by rw [hz2]; omega)
            have hnm : n ≤ 9223372036854775807 := by omega
            have hs1 : (0 : Int) ≤ ((bsl x).size : Int) + 1 := by omega
            clear hi hz0 hz1 hz2 hx hxo hxd hzl hzl2 hzc hzs hzw hvd hvz hlc hvc hxs
            go_wp2_with (first
              | (refine wpList_make_full _ rfl _ _ _ rfl wo.heap.size 4 i0 (.bool false) 1 Tryd.underlying82 HI.out HI0.out HI1.out .i64 .i64 _ _ ((bsl x).size + 1) rfl rfl rfl rfl HI2.out (by unfold maxLen; omega) (Nat.le_refl _) ?_
                 rintro w2 hd2 hg2
                 rw [← hn] at hd2 ⊢
                 rw [donel_made] at hd2
                 have HB2 := Lib.hid (show Below wo.heap.size wo w2 from ⟨hg2.os, hg2.tape, hg2.output, hg2.size, fun b hb => hg2.block b (by omega) (by simp)⟩)
                 have kd2 : w2.cell? ⟨wo.heap.size, 0, none⟩ = some (.bool false) := by
                   have := hd2.cells (g := wo.heap.size) rfl 0 _ (donel_get (show 0 < n by omega))
                   simpa [Addr.add_lit] using this
                 have kf := own_frozen hd2 0
                 have hd3 := step_st hd2 0
                 rw [one_set (show 0 < n by omega)] at hd3
                 have hb3 : Below wo.heap.size wo (w2.setCell ⟨wo.heap.size, 0, none⟩ (.bool true)) := HB2.out.setCell (p := ⟨wo.heap.size, 0, none⟩) (Nat.le_refl _) _
                 have HD3 := Lib.hid (BoolsAt.own hd3)
                 have HB3 := Lib.hid hb3
                 have g3 := cell_below hb3 (Nat.le_refl _) g0
                 have v3 := cell_below hb3 (Nat.le_refl _) v0
                 clear hd2 hg2 hd3 hb3 g0 v0))
            have HDS := Lib.hid (show BoolsAt (w2.setCell ⟨wo.heap.size, 0, none⟩ (.bool true)) (.slice (some ⟨wo.heap.size, 0, none⟩) ((bsl x).size + 1) ((bsl x).size + 1)) startB ((bsl x).size + 1) by
              have h := HD3.out
              rw [HNN.out] at h
              exact h)
            clear g3 v3 kd2 kf hn
            go_loopw [9, 50] (fun v i wq => ∃ m : Nat, i = .int .i64 m ∧ m ≤ zs.length ∧ Hid (BoolsAt wq v (nowB ((g.getD k []).take m) x) ((bsl x).size + 1)) ∧ Hid (Below wo.heap.size wo wq)) (fun _ i _ => zs.length - (intOf i).toNat)
            case atStart => exact ⟨0, rfl, Nat.zero_le _, HDS.out, HB3.out⟩
            case round =>
              obtain ⟨m, rfl, hml, HV, HQ⟩ := hrel
              obtain ⟨wq, hwq0⟩ : ∃ wq, wq = wr := ⟨_, rfl⟩
              subst hwq0
              obtain ⟨gx, hgx, hcx⟩ := HV.out
              subst hgx
              have HCX := Lib.hid hcx
              clear hcx
              by_cases hlt2 : m < zs.length
              · obtain ⟨bz, oz, haz, hcz2⟩ := HZC.out m hlt2
                subst haz
                have HCELL := Lib.hid (show ∀ i u, (zpc zs[m])[i]? = some u → wq.cell? ⟨bz, oz + m * 259 + i, none⟩ = some u from fun i u hu => by
                  have := cell_below HQ.out (Nat.le_refl _) (hcz2 i u hu)
                  rw [Nat.add_assoc]; exact this)
                have hmem : zs[m] ∈ zs := List.getElem_mem hlt2
                have hwq : Sl wenc wq zs[m].1 zs[m].2.words := ((HZW.out _ hmem).1.below HW.out (Nat.le_refl _)).below HQ.out (Nat.le_refl _)
                have HWQ := Lib.hid hwq
                have hone : zs[m].1.oneCell' = true := by obtain ⟨a, cap, e, -⟩ := hwq; rw [e]; rfl
                have HONE := Lib.hid hone
                have HST := Lib.hid (show nowB ((g.getD k []).take (m + 1)) x = stepB zs[m].2 x (nowB ((g.getD k []).take m) x) by
                  have h1 := HZS.out
                  have h2 : m < (g.getD k []).length := by rw [← h1, List.length_map]; exact hlt2
                  rw [nowB_take h2]
                  congr 1
                  simp only [← h1, List.getElem_map])
                obtain ⟨zz, hzz⟩ : ∃ zz, zz = zs[m] := ⟨_, rfl⟩
                rw [← hzz] at HCELL HWQ HONE HST
                clear hmem hwq hone hzz hcz2
                have HCALL := Lib.hid (fun W (hb : Below wq.heap.size wq W) => step_any zz (.slice (some ⟨gx, 0, none⟩) ((bsl x).size + 1) ((bsl x).size + 1)) (nowB ((g.getD k []).take m) x) (bsl x) W (HWQ.out.below hb (Nat.le_refl _)) ⟨gx, rfl, fun j hj => cell_below hb (Nat.le_refl _) (HCX.out j hj)⟩ hb256)
                go_wp2_with (first
                  | (refine Tryd.stepLoadMid (z := zz) (.tmp 52) bz (oz + m * 259) rfl rfl rfl HCELL.out ?_)
                  | (refine Tryd.stepAllocPc (n := wq.heap.size) rfl rfl rfl ?_
                     intro W5 p5 z5 k5
                     clear z5)
                  | (refine Tryd.stepStorePc (z' := zz) (.tmp 11) (.tmp 53) wq.heap.size rfl rfl rfl rfl p5 HONE.out ?_
                     intro W6 p6 z6 k6
                     clear z6)
                  | (refine Tryd.stepLoadPc (.tmp 11) wq.heap.size rfl rfl rfl p6 ?_))
                have hb6 : Below wq.heap.size wq W6 := (k5.trans_new k6 (fun b hb => .inr (by omega))).below (Nat.le_refl _) (fun b h => h.elim)
                have HB6 := Lib.hid hb6
                refine (HCALL.out W6 hb6).mono ?_
                rintro e w7 ⟨v7, rfl, hv7, hb7⟩
                have HV7 := Lib.hid hv7
                have HB7 := Lib.hid (HQ.out.trans ((HB6.out.trans (hb7.mono HB6.out.size)).mono HQ.out.size))
                clear hb6 hv7 hb7 p5 p6 k5 k6
                go_wp2_with fail
                go_roundw
                case rel => exact ⟨m + 1, by go_num, by omega, by rw [HST.out]; exact HV7.out, HB7.out⟩
                case measure => simp [intOf]; omega
              · obtain rfl : m = zs.length := by omega
                have cx := HCX.out (bsl x).size (Nat.lt_succ_self _)
                have HMT := Lib.hid (show nowB ((g.getD k []).take zs.length) x (bsl x).size = matchN (g.getD k []) (L.getD k []) by
                  rw [HXD.out, List.take_of_length_le (by rw [← HZS.out, List.length_map]; exact Nat.le_refl _), HXS.out]
                  rfl)
                rw [HMT.out] at cx
                obtain ⟨mb, hmb⟩ : ∃ mb, mb = matchN (g.getD k []) (L.getD k []) := ⟨_, rfl⟩
                rw [← hmb] at cx
                have HMB := Lib.hid hmb
                clear hmb
                cases mb with
                | false =>
                  have HF := Lib.hid (show mr = false by rw [HMR.out]; exact matchG_no hkg (by rw [← HLL.out]; exact HMB.out.symm))
                  go_wp2_with fail
                  go_ret
                  exact ⟨by rw [HF.out]; rfl, HB1.out.trans ((HW.out.trans (HQ.out.mono HW.out.size)).mono HB1.out.size)⟩
                | true =>
                  go_wp2_with fail
                  go_roundw
                  case rel =>
                    refine ⟨k + 1, by go_num, by omega, HW.out.trans (HQ.out.mono HW.out.size), fun i hi => ?_⟩
                    by_cases hik : i = k
                    · subst hik; exact HMB.out.symm
                    · exact HM.out i (by omega)
                  case measure => simp [intOf]; omega
          · obtain rfl : k = L.length := by omega
            have HT := Lib.hid (show mr = true by
              rw [HMR.out]
              exact matchG_yes HOK.out (by rw [← HLL.out]; exact HLEN.out) (fun i hi => by rw [← HLL.out]; exact HM.out i (by rw [HLEN.out]; exact hi)))
            go_wp2_with fail
            go_ret
            exact ⟨by rw [HT.out]; rfl, HB1.out.trans (HW.out.mono HB1.out.size)⟩
      · have hn1 : ((L.length : Int) != (g.length : Int)) = true := by rw [bne_iff_ne]; omega
        have hn2 : (L.length != g.length) = true := by rw [bne_iff_ne]; exact hlen
        have HF := Lib.hid (HNE.out hlen)
        clear hlen HNE
        go_wp2_with fail
        go_ret
        exact ⟨by rw [HF.out]; rfl, HB1.out⟩
    · have hd31 : decide ((L.length : Int) ≤ 31) = false := by rw [decide_eq_false_iff_not]; omega
      rw [hd31]
      have HF := Lib.hid (HNO.out h31)
      clear HNO HNE h31 hd31
      go_wp2_with fail
      go_ret
      exact ⟨by rw [HF.out]; rfl, HB1.out⟩
  · have HF := Lib.hid (show mr = false by rw [HMR.out]; unfold matchG okG; rw [← HLL.out, hall, Bool.false_and, Bool.false_and, Bool.false_and])
    have HB1 := Lib.hid hb1
    clear hall hb1
    go_wp2_with fail
    go_ret
    exact ⟨by rw [HF.out]; rfl, HB1.out⟩
end Go.Proofs.YtnnfhcbopchodaaDoor
