/- The document's put: a label into a list that rises. -/
import Derived.Test.YtkflhfdpdgnbfaaLp1
import Derived.Deep.RegionHeld3
import Derived.Deep.AppendLies
import Derived.Deep.DrawnRows
import Derived.Outline
namespace Go.Proofs.Ytkflhfdpdgnbfaa
open Go.RowKit
set_option linter.unusedVariables false
set_option linter.unusedSimpArgs false
set_option maxRecDepth 100000
section
variable {α : Type} {enc : α → List Value} {sz : Nat}
theorem flatMap_take (hsz : ∀ x, (enc x).length = sz) (xs : List α) : ∀ k, (xs.take k).flatMap enc = (xs.flatMap enc).take (k * sz) := by
  induction xs with
  | nil => intro k; simp
  | cons x xs ih =>
    intro k
    cases k with
    | zero => simp
    | succ k =>
      have h1 : (enc x).take ((k + 1) * sz) = enc x := List.take_of_length_le (by rw [hsz, Nat.succ_mul]; omega)
      have h2 : (k + 1) * sz - (enc x).length = k * sz := by rw [hsz, Nat.succ_mul]; omega
      rw [List.take_succ_cons, List.flatMap_cons, List.flatMap_cons, List.take_append, h1, h2, ih k]
theorem flatMap_drop (hsz : ∀ x, (enc x).length = sz) (xs : List α) : ∀ k, (xs.drop k).flatMap enc = (xs.flatMap enc).drop (k * sz) := by
  induction xs with
  | nil => intro k; simp
  | cons x xs ih =>
    intro k
    cases k with
    | zero => simp
    | succ k =>
      rw [List.drop_succ_cons, List.flatMap_cons, ih k, Nat.succ_mul, Nat.add_comm, ← List.drop_drop]
      congr 1
      rw [← hsz x, List.drop_left]
/-- A slice's head. -/
theorem Sl.head {P : Program} {T : TypeId} (hT : P.underlying T = some (.slice (P.elem T))) (hS : ∀ w : World, (sizeOf (P.elem T)).run P w = .ok sz w) (hsz : ∀ x, (enc x).length = sz)
    {w : World} {a : Option Addr} {n cap : Nat} {xs : List α} (h : Sl enc w (.slice a n cap) xs) {k : Nat} (hk : k ≤ xs.length) :
    ∃ a1 c1, (∀ w : World, (Instr.slice T (.slice a n cap) none (some (.int .i64 (k : Int))) none).run P w = .ok (.slice a1 k c1) w) ∧ Sl enc w (.slice a1 k c1) (xs.take k) := by
  obtain ⟨a0, cap0, e, hm, hn, hc⟩ := h
  injection e with e1 e2 e3
  subst e1 e2 e3
  refine ⟨if cap = 0 then a else a.map (·.add (0 * sz)), cap, fun w => ?_, ?_⟩
  · rw [run_slice_h w T a xs.length cap hT .i64 k (by omega) (by omega), hS]
    simp only [Result.andThen, sliced, Int.toNat_natCast, Nat.sub_zero]
  · refine ⟨_, cap, by rw [List.length_take, Nat.min_eq_left hk], by rw [List.length_take, Nat.min_eq_left hk]; omega, fun e => ?_, fun hx => ?_⟩
    · have ha : a = none := by
        split at e
        · exact e
        · simpa using e
      obtain ⟨h1, h2⟩ := hn ha
      exact ⟨h1, by rw [h2]; simp⟩
    · have hx2 : xs ≠ [] := fun e => hx (by rw [e]; simp)
      obtain ⟨b, off, rfl, hd⟩ := hc hx2
      refine ⟨b, off, by split <;> simp [Addr.add_lit], fun j u hu => hd j u ?_⟩
      rw [flatMap_take hsz, List.getElem?_take] at hu
      split at hu
      · exact hu
      · cases hu
/-- A slice's tail. -/
theorem Sl.tail {P : Program} {T : TypeId} (hT : P.underlying T = some (.slice (P.elem T))) (hS : ∀ w : World, (sizeOf (P.elem T)).run P w = .ok sz w) (hsz : ∀ x, (enc x).length = sz)
    {w : World} {a : Option Addr} {n cap : Nat} {xs : List α} (h : Sl enc w (.slice a n cap) xs) {k : Nat} (hk : k ≤ xs.length) :
    ∃ a1 c1, (∀ w : World, (Instr.slice T (.slice a n cap) (some (.int .i64 (k : Int))) none none).run P w = .ok (.slice a1 (xs.length - k) c1) w) ∧ Sl enc w (.slice a1 (xs.length - k) c1) (xs.drop k) := by
  obtain ⟨a0, cap0, e, hm, hn, hc⟩ := h
  injection e with e1 e2 e3
  subst e1 e2 e3
  refine ⟨if cap = k then a else a.map (·.add (k * sz)), cap - k, fun w => ?_, ?_⟩
  · rw [run_slice_l w T a xs.length cap hT .i64 k (by omega) (by omega), hS]
    simp only [Result.andThen, sliced, Int.toNat_natCast, Nat.sub_zero]
  · refine ⟨_, cap - k, by rw [List.length_drop], by rw [List.length_drop]; omega, fun e => ?_, fun hx => ?_⟩
    · have ha : a = none := by
        split at e
        · exact e
        · simpa using e
      obtain ⟨h1, h2⟩ := hn ha
      exact ⟨by omega, by rw [h2]; simp⟩
    · have hx2 : xs ≠ [] := fun e => hx (by rw [e]; simp)
      have hk2 : k < xs.length := by
        by_cases h : k < xs.length
        · exact h
        · exact absurd (List.drop_eq_nil_of_le (by omega)) hx
      obtain ⟨b, off, rfl, hd⟩ := hc hx2
      refine ⟨b, off + k * sz, by rw [if_neg (by omega)]; simp [Addr.add_lit], fun j u hu => ?_⟩
      rw [flatMap_drop hsz, List.getElem?_drop] at hu
      have := hd _ u hu
      rw [← Nat.add_assoc] at this
      exact this
theorem Sl.src (h0 : ∀ x, 0 < (enc x).length) {w : World} {a : Option Addr} {n c : Nat} {xs : List α} (h : Sl enc w (.slice a n c) xs) : n = xs.length ∧ (a = none → n = 0 ∧ c = 0 ∧ xs.flatMap enc = []) ∧ (∀ ad, a = some ad → ∀ j u, (xs.flatMap enc)[j]? = some u → w.cell? (ad.add j) = some u) := by
  obtain ⟨a1, c1, e, -, h1, h2⟩ := h.len h0
  injection e with e1 e2 e3
  subst e1 e2 e3
  refine ⟨rfl, fun e => ?_, h2⟩
  obtain ⟨e1, e2⟩ := h1 e
  exact ⟨by rw [e2]; rfl, e1, by rw [e2]; rfl⟩
end
theorem lenc_pos (x : Lb) : 0 < (lenc x).length := Nat.zero_lt_succ _
theorem Try.elemLbs : Try.prog.underlying 33 = some (.slice (Try.prog.elem 33)) := by kernel_rfl
theorem Try.sizeLb (w : World) : (sizeOf (Try.prog.elem 33)).run Try.prog w = .ok 2 w := by rfl
theorem put_loop_snoc {l : List Lb} {x : Lb} {k : Nat} (h : ∀ j, j < k → cmpS (lx l j).1 x.1 < 0) (hk : cmpS (lx l k).1 x.1 < 0) : ∀ j, j < k + 1 → cmpS (lx l j).1 x.1 < 0 := by
  intro j hj
  by_cases e : j = k
  · subst e; exact hk
  · exact h j (by omega)
theorem S_keep2 {w3 w' : World} {a : Nat} {x0 x1 : Value} (p0 : w3.cell? ⟨a, 0, none⟩ = some x0) (p1 : w3.cell? ⟨a, 1, none⟩ = some x1) (h : Below w3.heap.size w3 w') :
    Below w3.heap.size w3 w' ∧ w'.cell? ⟨a, 0, none⟩ = some x0 ∧ w'.cell? ⟨a, 1, none⟩ = some x1 := ⟨h, cell_below h (Nat.le_refl _) p0, cell_below h (Nat.le_refl _) p1⟩
theorem lenc_one (l : List Lb) : ∀ u ∈ l.flatMap lenc, u.oneCell' = true := oneCell_flat l
set_option maxHeartbeats 4000000 in
theorem rput_any (v : Value) (l : List Lb) (t y : ByteArray) (w : World) (h : Sl lenc w v l) (hl : l.length ≤ 1000000) :
    Calls Try.prog 76 #[v, .agg #[.string t, .string y]] w fun e w' => ∃ v', e = .returned v' ∧ Sl lenc w' v' (putL (t, y) l) ∧ Below w.heap.size w w' := by
  have HSL := Lib.hid h
  obtain ⟨a, cap, rfl, hlen, -, hc⟩ := h.split lenc_len
  have HC := Lib.hid hc
  clear hc h
  obtain ⟨i0, hi, hz0, hz1, hz2⟩ := info_parts Try.infoLb
  go_enter Try.func76, Try.ntmps76
  go_wp2_with fail
  go_loopw [5] (fun i wr => ∃ k : Nat, k ≤ l.length ∧ i = .int .i64 k ∧ Hid (∀ j, j < k → cmpS (lx l j).1 t < 0) ∧ ∃ n, wr = (w.alloc (.cells #[.string t, .string y] 49)).drewN n) (fun i _ => l.length - (intOf i).toNat)
  case atStart => exact ⟨0, Nat.zero_le _, rfl, fun j hj => absurd hj (Nat.not_lt_zero _), 0, rfl⟩
  case round =>
    obtain ⟨k, hk, rfl, HV, n, rfl⟩ := hrel
    have h00 : (0 : Int) ≤ (k : Int) := by omega
    by_cases hgo : k < l.length ∧ cmpS (lx l k).1 t < 0
    · obtain ⟨hlt, hcs⟩ := hgo
      have hltz : (k : Int) < (l.length : Int) := by omega
      have hltb : decide ((k : Int) < (l.length : Int)) = true := decide_eq_true hltz
      obtain ⟨b, off, rfl, hk0, hk1⟩ := lab_cells HC.out (Below.refl _ _) (Nat.le_refl _) hlt
      have hlt3 : b < w.heap.size := World.block_lt_of_cell? w _ hk0
      have hne : b ≠ w.heap.size := by omega
      have hbl : Op.bytesLess (lx l k).1.toList t.toList = true := by
        rw [less_cmp]
        rcases cmpS_cases (lx l k).1 t with h | h | h
        · exact decide_eq_true h
        · omega
        · omega
      have HCS := Lib.hid hcs
      clear hcs
      go_wp2_with fail
      go_quiet (fail)
      go_wp2_with fail
      go_roundw
      case rel => exact ⟨k + 1, by omega, by go_num, put_loop_snoc (x := (t, y)) HV.out HCS.out, _, by first | rfl | (simp only [World.drewN_drewN])⟩
      case measure => simp [intOf]; omega
    · have HP := Lib.hid (put_at (t, y) l k hk HV.out (fun h h2 => hgo ⟨h, h2⟩))
      obtain ⟨a1, c1, E1, hs1⟩ := Sl.head Try.elemLbs Try.sizeLb lenc_len HSL.out hk
      obtain ⟨a2, c2, E2, hs2⟩ := Sl.tail Try.elemLbs Try.sizeLb lenc_len HSL.out hk
      obtain ⟨-, n1, s1⟩ := hs1.src lenc_pos
      obtain ⟨-, n2, s2⟩ := hs2.src lenc_pos
      have N1 := Lib.hid n1
      have N2 := Lib.hid n2
      have S1 := Lib.hid s1
      have S2 := Lib.hid s2
      clear hs1 hs2 n1 n2 s1 s2
      have h01 : (k : Int) ≤ (l.length : Int) := by omega
      have h02 : (k : Int) ≤ (cap : Int) := by omega
      by_cases hlt : k < l.length
      case' pos =>
        have hltz : (k : Int) < (l.length : Int) := by omega
        have hltb : decide ((k : Int) < (l.length : Int)) = true := decide_eq_true hltz
        obtain ⟨b, off, rfl, hk0, hk1⟩ := lab_cells HC.out (Below.refl _ _) (Nat.le_refl _) hlt
        have hlt3 : b < w.heap.size := World.block_lt_of_cell? w _ hk0
        have hne : b ≠ w.heap.size := by omega
        have hbl : Op.bytesLess (lx l k).1.toList t.toList = false := by
          rw [less_cmp]
          exact decide_eq_false (fun h => hgo ⟨hlt, by omega⟩)
        clear hgo
        go_wp2_with fail
        go_quiet (fail)
        go_wp2_with fail
      case' neg =>
        have hltz : ¬ (k : Int) < (l.length : Int) := by omega
        have hltb : decide ((k : Int) < (l.length : Int)) = false := decide_eq_false hltz
        clear hgo
        go_wp2_with fail
        go_quiet (fail)
        go_wp2_with fail
      all_goals
        have q0 : (((w.alloc (.cells #[.string t, .string y] 49)).drewN n).drewN nq).cell? ⟨w.heap.size, 0, none⟩ = some (.string t) := by simp
        have q1 : (((w.alloc (.cells #[.string t, .string y] 49)).drewN n).drewN nq).cell? ⟨w.heap.size, 1, none⟩ = some (.string y) := by simp
        have hb03 : Below w.heap.size w (((w.alloc (.cells #[.string t, .string y] 49)).drewN n).drewN nq) := below_drewN (below_drewN ((Below.refl _ _).alloc (Nat.le_refl _) _) _) _
        generalize ((w.alloc (.cells #[.string t, .string y] 49)).drewN n).drewN nq = w3 at q0 q1 hb03 ⊢
        have hz3 : w.heap.size + 1 ≤ w3.heap.size := by have h : w.heap.size < w3.heap.size := World.block_lt_of_cell? _ _ q0; omega
        have HB03 := Lib.hid hb03
        clear hb03
        go_region_held3 (fun w' => Below w3.heap.size w3 w' ∧ w'.cell? ⟨w.heap.size, 0, none⟩ = some (.string t) ∧ w'.cell? ⟨w.heap.size, 1, none⟩ = some (.string y))
          (exact S_keep2 q0 q1 (by go_grown))
          (first
            | (refine step_append_rd rfl (.tmp 23) (.tmp 26) _ rfl w3.heap.size 49 i0 _ 2 32 Try.underlying33 hi hz0 hz1 hz2 rfl (by decide) (.slice (some ⟨_, 0, none⟩) 0 0) 0 [] rfl
                 ?_ a1 k c1 ((l.take k).flatMap lenc) rfl N1.out (by rw [flat_length lenc_len, List.length_take, Nat.min_eq_left hk]) ?_ ?_ ?_ ?_ ?_ ?_
               (refine owns_lit ?_ ?_; (first | exact lit1 _ _ | exact lit2 _ _ _ | exact lit3 _ _ _); (simp <;> omega))
               (exact fun ad e j u hu => cell_below (B := w3.heap.size) (by go_grown) (Nat.le_refl _) (cell_below HB03.out (Nat.le_refl _) (S1.out ad e j u hu)))
               (exact oneCell_flat _)
               (unfold maxLen; omega)
               (omega)
               (simp <;> omega)
               intro v1 wA hown1 hg1
               have hbA : Below w3.heap.size w3 wA := Below.grown (by go_grown) hg1 (by simp <;> omega) (fun j hj => by simp [Value.ownBlock] at hj; omega)
               have hsA := hbA.size)
            | (refine step_append_rd rfl (.tmp 27) (.tmp 29) _ rfl w3.heap.size 49 i0 _ 2 32 Try.underlying33 hi hz0 hz1 hz2 rfl (by decide) v1 k ((l.take k).flatMap lenc) rfl
                 ?_ (some _) 1 1 (lenc (t, y)) rfl (fun e => by cases e) rfl ?_ ?_ ?_ ?_ ?_ ?_
               (first | exact (by simpa using hown1) | exact World.ownsRow.alloc (by simpa using hown1) _)
               (first
                 | exact fun ad e j u hu => by injection e with e; subst e; exact World.news_of_block (cs := #[.string t, .string y]) (lit1 wA _) j u hu
                 | exact fun ad e j u hu => by injection e with e; subst e; exact World.news_of_block (cs := #[.string t, .string y]) (heap_new wA _) j u hu
                 | exact fun ad e j u hu => by injection e with e; subst e; exact World.news_of_block (cs := #[.string t, .string y]) ((hg1.block _ (by simp) (by simp [Value.ownBlock])).trans (lit3 w3 _ _)) j u hu
                 | exact fun ad e j u hu => by injection e with e; subst e; exact World.news_of_block (cs := #[.string t, .string y]) ((hg1.block _ (by simp <;> omega) (by simp [Value.ownBlock])).trans (lit2 w3 _ _)) j u hu)
               (intro u hu; simp [lenc] at hu; rcases hu with rfl | rfl <;> rfl)
               (unfold maxLen; omega)
               (omega)
               (first | exact hsA | (simp; omega))
               intro v2 wB hown2 hg2
               have hbB : Below w3.heap.size w3 wB := Below.grown (by go_grown) hg2 (by first | exact hsA | (simp; omega)) (fun j hj => (hown1.lt j hj).1)
               have hsB := hbB.size))
      all_goals
        have HBB := Lib.hid hbB
        clear hown1 hg1 hg2 hbA hbB hsA
        go_wp2_with (at_builtin; refine wpList_append_rd rfl _ _ 33 rfl w3.heap.size 49 i0 _ 2 32 Try.underlying33 hi hz0 hz1 hz2 rfl (by decide) v2 (k + 1) ((l.take k).flatMap lenc ++ lenc (t, y)) rfl hown2 a2 (l.length - k) c2 ((l.drop k).flatMap lenc) rfl N2.out (by rw [flat_length lenc_len, List.length_drop]) (fun ad e j u hu => cell_below HBB.out (Nat.le_refl _) (cell_below HB03.out (Nat.le_refl _) (S2.out ad e j u hu))) (oneCell_flat _) (by unfold maxLen; omega) (by omega) hsB ?_)
        intro v3 w9 hown3 hg3
        have hbC : Below w3.heap.size w3 w9 := Below.grown HBB.out hg3 hsB (fun j hj => (hown2.lt j hj).1)
        have hsl : Sl lenc w9 v3 (putL (t, y) l) := Sl.own lenc_len (by decide) (e := 49) (n := k + 1 + (l.length - k)) (base := w3.heap.size) (by
          rw [HP.out, List.flatMap_append, List.flatMap_cons]; exact hown3)
        have HC9 := Lib.hid (HB03.out.trans (hbC.mono (by omega)))
        have HSL9 := Lib.hid hsl
        clear hown2 hown3 hg3 hbC hsl hsB
        go_wp2_with fail
        go_ret
        exact ⟨_, rfl, HSL9.out, HC9.out⟩
end Go.Proofs.Ytkflhfdpdgnbfaa
