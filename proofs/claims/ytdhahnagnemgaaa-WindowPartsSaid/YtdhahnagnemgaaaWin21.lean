/- The plain law of WindowParts. -/
import Derived.Test.YtdhahnagnemgaaaWin10
import Derived.Test.YtdhahnagnemgaaaWhole
namespace Go.Proofs.Ytdhahnagnemgaaa
open Go.RowKit
set_option linter.unusedVariables false
set_option linter.unusedSimpArgs false

/-- Samples that rise, of small whole numbers. -/
structure Rise (S : List (Int × Nat)) (T : Int) : Prop where
  asc : S.Pairwise (fun a b => a.1 < b.1)
  pos : ∀ x ∈ S, 0 < x.1 ∧ x.1 ≤ T
  num : ∀ x ∈ S, ∃ z : Int, x.2 = fenc z ∧ -128 ≤ z ∧ z ≤ 127
theorem cut_parts (S : List (Int × Nat)) (a e : Int) (h0 : 0 ≤ a) (h1 : a ≤ e) (hp : S.Pairwise (fun a b => a.1 < b.1)) : cutL 0 e S = cutL 0 a S ++ cutL a e S := by
  unfold cutL
  induction S with
  | nil => rfl
  | cons x l ih =>
    obtain ⟨hx, hl⟩ := List.pairwise_cons.1 hp
    have ih := ih hl
    rw [List.filter_cons, List.filter_cons, List.filter_cons]
    by_cases hxa : x.1 ≤ a
    · have e1 : inside a e x = false := by simp [inside]; omega
      have e2 : inside 0 e x = inside 0 a x := by
        unfold inside
        rw [show decide (x.1 ≤ e) = true from decide_eq_true (by omega), show decide (x.1 ≤ a) = true from decide_eq_true hxa]
      rw [e1, e2, ih]
      cases inside 0 a x <;> simp
    · have e1 : inside 0 a x = false := by simp [inside]; omega
      have e2 : inside 0 e x = inside a e x := by
        unfold inside
        rw [show decide (0 < x.1) = true from decide_eq_true (by omega), show decide (a < x.1) = true from decide_eq_true (by omega)]
      have e3 : l.filter (inside 0 a) = [] := by
        rw [List.filter_eq_nil_iff]
        intro y hy
        have := hx y hy
        simp [inside]; omega
      rw [e1, e2, ih, e3]
      simp
theorem cut_all (S : List (Int × Nat)) (T e : Int) (hT : T ≤ e) (h : ∀ x ∈ S, 0 < x.1 ∧ x.1 ≤ T) : cutL 0 e S = S := by
  unfold cutL
  rw [List.filter_eq_self]
  intro x hx
  have := h x hx
  simp [inside]; omega

def Zs (V : List Nat) (zs : List Int) : Prop := V = zs.map fenc ∧ ∀ z ∈ zs, -128 ≤ z ∧ z ≤ 127
theorem zs_of (S : List (Int × Nat)) (h : ∀ x ∈ S, ∃ z : Int, x.2 = fenc z ∧ -128 ≤ z ∧ z ≤ 127) : ∃ zs, Zs (S.map Prod.snd) zs ∧ zs.length = S.length := by
  induction S with
  | nil => exact ⟨[], ⟨rfl, by simp⟩, rfl⟩
  | cons x l ih =>
    obtain ⟨zs, ⟨h1, h2⟩, h3⟩ := ih (fun y hy => h y (List.mem_cons_of_mem _ hy))
    obtain ⟨z, hz, hb⟩ := h x (List.mem_cons_self ..)
    refine ⟨z :: zs, ⟨by simp [h1, hz], ?_⟩, by simp [h3]⟩
    intro y hy
    rcases List.mem_cons.1 hy with rfl | hy
    · exact hb
    · exact h2 y hy
theorem canon_fenc {n : Int} (h : n.natAbs < 2 ^ 53) : canon (fenc n) = fenc n := canon_num (fenc_num h)

theorem foldl_fenc (zs : List Int) (h : ∀ z ∈ zs, -128 ≤ z ∧ z ≤ 127) : ∀ (o : Int) (n : Nat), -(128 * n : Int) ≤ o → o ≤ 128 * n → n + zs.length ≤ 1000 → (zs.map fenc).foldl (cop .add) (fenc o) = fenc (zs.foldl (· + ·) o) := by
  induction zs with
  | nil => intro o n _ _ _; rfl
  | cons z zs ih =>
    intro o n h1 h2 h3
    have hz := h z (List.mem_cons_self ..)
    simp only [List.length_cons] at h3
    rw [List.map_cons, List.foldl_cons, List.foldl_cons, cop_fenc_add o z (by omega) (by omega) (by omega)]
    exact ih (fun y hy => h y (List.mem_cons_of_mem _ hy)) (o + z) (n + 1) (by omega) (by omega) (by omega)
theorem foldl_add (zs : List Int) : ∀ o : Int, zs.foldl (· + ·) o = o + zs.foldl (· + ·) (0 : Int) := by
  induction zs with
  | nil => intro o; simp
  | cons z zs ih => intro o; rw [List.foldl_cons, List.foldl_cons, ih, ih (0 + z)]; omega
theorem foldl_bd (zs : List Int) (h : ∀ z ∈ zs, -128 ≤ z ∧ z ≤ 127) : -(128 * zs.length : Int) ≤ zs.foldl (· + ·) (0 : Int) ∧ zs.foldl (· + ·) (0 : Int) ≤ (128 * zs.length : Int) := by
  induction zs with
  | nil => simp
  | cons z zs ih =>
    have := ih (fun y hy => h y (List.mem_cons_of_mem _ hy))
    have hz := h z (List.mem_cons_self ..)
    rw [List.foldl_cons, foldl_add]
    simp only [List.length_cons]
    omega
theorem fsum_fenc (z : Int) (zs : List Int) (h : ∀ y ∈ z :: zs, -128 ≤ y ∧ y ≤ 127) (hl : zs.length ≤ 900) : fsum (fenc z :: zs.map fenc) = fenc ((z :: zs).foldl (· + ·) (0 : Int)) := by
  have hz := h z (List.mem_cons_self ..)
  show (zs.map fenc).foldl (cop .add) (canon (fenc z)) = _
  rw [canon_fenc (by omega), foldl_fenc zs (fun y hy => h y (List.mem_cons_of_mem _ hy)) z 1 (by omega) (by omega) (by omega), List.foldl_cons]
  congr 1
  rw [Int.zero_add]

def mstep (most : Bool) (o x : Int) : Int := if most then max o x else min o x
theorem fo_fenc (x o : Int) (hx : x.natAbs < 2 ^ 53) (ho : o.natAbs < 2 ^ 53) : fo (fenc x) (fenc o) = some (compare x o) := by
  have := order_units (fenc_val x hx) (fenc_val o ho)
  rw [sgn_fenc, sgn_fenc] at this
  have hT : (0 : Int) < (TU : Int) := by have := TU_pos; omega
  show Ieee.double.order (fenc x) (fenc o) = _
  rw [this]
  have lt : x * (TU : Int) < o * (TU : Int) ↔ x < o := Int.mul_lt_mul_right hT
  have eq : x * (TU : Int) = o * (TU : Int) ↔ x = o := Int.mul_eq_mul_right_iff (by omega)
  congr 1
  simp only [compare, compareOfLessAndEq, lt, eq]
theorem lstep_fenc (most : Bool) (o x : Int) (hx : x.natAbs < 2 ^ 53) (ho : o.natAbs < 2 ^ 53) : lstep most (fenc o) (fenc x) = fenc (mstep most o x) := by
  unfold lstep mstep
  rw [fenc_num ho, fo_fenc x o hx ho]
  have hcmp : compare x o = if x < o then .lt else if x = o then .eq else .gt := rfl
  rw [hcmp]
  cases most
  · by_cases h1 : x < o
    · simp [h1]; congr 1; omega
    · by_cases h2 : x = o
      · simp [h1, h2]
      · simp [h1, h2]; congr 1; omega
  · by_cases h1 : x < o
    · simp [h1]; congr 1; omega
    · by_cases h2 : x = o
      · simp [h1, h2]
      · simp [h1, h2]; congr 1; omega
theorem mstep_bd (most : Bool) {o x : Int} (ho : -128 ≤ o ∧ o ≤ 127) (hx : -128 ≤ x ∧ x ≤ 127) : -128 ≤ mstep most o x ∧ mstep most o x ≤ 127 := by unfold mstep; split <;> omega
theorem least_fenc (most : Bool) (zs : List Int) : ∀ z : Int, -128 ≤ z ∧ z ≤ 127 → (∀ y ∈ zs, -128 ≤ y ∧ y ≤ 127) → (zs.map fenc).foldl (lstep most) (fenc z) = fenc (zs.foldl (mstep most) z) ∧ -128 ≤ zs.foldl (mstep most) z ∧ zs.foldl (mstep most) z ≤ 127 := by
  induction zs with
  | nil => intro z hz _; exact ⟨rfl, hz⟩
  | cons x zs ih =>
    intro z hz h
    have hx := h x (List.mem_cons_self ..)
    rw [List.map_cons, List.foldl_cons, List.foldl_cons, lstep_fenc most z x (by omega) (by omega)]
    exact ih _ (mstep_bd most hz hx) (fun y hy => h y (List.mem_cons_of_mem _ hy))
theorem mfold_mstep (most : Bool) (zs : List Int) : ∀ o x : Int, zs.foldl (mstep most) (mstep most o x) = mstep most o (zs.foldl (mstep most) x) := by
  induction zs with
  | nil => intro o x; rfl
  | cons z zs ih =>
    intro o x
    rw [List.foldl_cons, List.foldl_cons, ← ih]
    congr 1
    unfold mstep; split <;> omega

theorem Zs.append {A B : List Nat} {p q : List Int} (h1 : Zs A p) (h2 : Zs B q) : Zs (A ++ B) (p ++ q) := by
  refine ⟨by rw [h1.1, h2.1, List.map_append], ?_⟩
  intro z hz
  rcases List.mem_append.1 hz with h | h
  · exact h1.2 z h
  · exact h2.2 z h
theorem vals_zs (S : List (Int × Nat)) (f e : Int) (h : ∀ x ∈ S, ∃ z : Int, x.2 = fenc z ∧ -128 ≤ z ∧ z ≤ 127) : ∃ zs, Zs (vals f e S) zs ∧ zs.length = (cutL f e S).length :=
  zs_of (cutL f e S) (fun x hx => h x (List.mem_filter.1 hx).1)
def qOf (fn : Int) (zs : List Int) : Int := if fn = 1 then zs.length else zs.foldl (· + ·) (0 : Int)
theorem one_sum (fn d : Int) (V : List Nat) (zs : List Int) (h : Zs V zs) (hl : zs.length ≤ 60) (hf : fn = 1 ∨ fn = 2) : fnP fn d V = (fenc (qOf fn zs), decide (0 < zs.length)) := by
  obtain ⟨rfl, hb⟩ := h
  have hnd : need fn = 1 := by unfold need; rw [if_neg (by omega)]
  rcases zs with _ | ⟨z, zs⟩
  · have e0 : qOf fn [] = 0 := by unfold qOf; split <;> rfl
    rw [e0, fenc_zero]; rfl
  · have hbd := foldl_bd (z :: zs) hb
    simp only [List.length_cons] at hl hbd
    show (if (zs.map fenc).length + 1 < need fn then ((0, false) : Nat × Bool) else (fnV fn.toNat (fenc z) (zs.map fenc) d, true)) = _
    rw [hnd, if_neg (by omega)]
    rcases hf with rfl | rfl
    · show ((fnV 1 _ _ _, true) : Nat × Bool) = _
      rw [fnV_1, List.length_map, canon_fenc (by omega)]
      simp [qOf]
    · show ((fnV 2 _ _ _, true) : Nat × Bool) = _
      rw [fnV_2, fsum_fenc z zs hb (by omega), canon_fenc (by omega)]
      simp [qOf]
theorem qOf_append (fn : Int) (p q : List Int) : qOf fn (p ++ q) = qOf fn p + qOf fn q := by
  unfold qOf
  split
  · simp
  · rw [List.foldl_append, foldl_add]
theorem qOf_bd (fn : Int) (zs : List Int) (h : ∀ z ∈ zs, -128 ≤ z ∧ z ≤ 127) (hl : zs.length ≤ 60) : -7680 ≤ qOf fn zs ∧ qOf fn zs ≤ 7680 := by
  have := foldl_bd zs h
  unfold qOf
  split <;> omega
theorem parts_sum (S : List (Int × Nat)) (T a e fn : Int) (hr : Rise S T) (hn : S.length ≤ 60) (ha : 0 < a) (hae : a < e) (hT : T ≤ e) (hf : fn = 1 ∨ fn = 2) :
    ∃ A B C pA pB, fnR fn 0 a S = (A, pA) ∧ fnR fn a e S = (B, pB) ∧ fnR fn 0 e S = (C, decide (0 < S.length)) ∧ (∀ w, fop .add A B w = C) ∧ FloatKind.f64.format.order C C = some .eq := by
  obtain ⟨p, hp, hpl⟩ := vals_zs S 0 a hr.num
  obtain ⟨q, hq, hql⟩ := vals_zs S a e hr.num
  have hcut := cut_parts S a e (by omega) (by omega) hr.asc
  have hall := cut_all S T e hT hr.pos
  have hv : vals 0 e S = vals 0 a S ++ vals a e S := by unfold vals; rw [hcut, List.map_append]
  have hpq := hp.append hq
  have hlen : (p ++ q).length = S.length := by
    rw [List.length_append, hpl, hql, ← List.length_append, ← hcut, hall]
  have hl2 : p.length + q.length = S.length := by rw [← List.length_append]; exact hlen
  have hA := qOf_bd fn p hp.2 (by omega)
  have hB := qOf_bd fn q hq.2 (by omega)
  have f1 : 1 ≤ fn ∧ fn ≤ 14 := by omega
  refine ⟨fenc (qOf fn p), fenc (qOf fn q), fenc (qOf fn p + qOf fn q), decide (0 < p.length), decide (0 < q.length), ?_, ?_, ?_, ?_, ?_⟩
  · unfold fnR; rw [if_pos ⟨f1.1, f1.2, ha⟩]; exact one_sum fn _ _ p hp (by omega) hf
  · unfold fnR; rw [if_pos ⟨f1.1, f1.2, hae⟩]; exact one_sum fn _ _ q hq (by omega) hf
  · unfold fnR; rw [if_pos ⟨f1.1, f1.2, by omega⟩, hv, one_sum fn _ _ (p ++ q) hpq (by omega) hf, qOf_append, hlen]
  · intro w
    have := fenc_add (qOf fn p) (qOf fn q) (by omega) (by omega)
    unfold fop
    rw [show floatBits .add .f64 (fenc (qOf fn p)) (fenc (qOf fn q)) = some (fenc (qOf fn p + qOf fn q)) from this]
  · have := fenc_num (n := qOf fn p + qOf fn q) (by omega)
    unfold fnan at this; simpa using this
theorem one_most (fn d z : Int) (zs : List Int) (hb : ∀ y ∈ z :: zs, -128 ≤ y ∧ y ≤ 127) (hf : fn = 4 ∨ fn = 5) : fnP fn d (fenc z :: zs.map fenc) = (fenc (zs.foldl (mstep (fn == 5)) z), true) := by
  have hnd : need fn = 1 := by unfold need; rw [if_neg (by omega)]
  have hz := hb z (List.mem_cons_self ..)
  show (if (zs.map fenc).length + 1 < need fn then ((0, false) : Nat × Bool) else (fnV fn.toNat (fenc z) (zs.map fenc) d, true)) = _
  rw [hnd, if_neg (by omega)]
  have h := least_fenc (fn == 5) zs z hz (fun y hy => hb y (List.mem_cons_of_mem _ hy))
  rcases hf with rfl | rfl
  · show ((fnV 4 _ _ _, true) : Nat × Bool) = _
    rw [fnV_4]
    show (canon ((zs.map fenc).foldl (lstep false) (fenc z)), true) = _
    have h := least_fenc false zs z hz (fun y hy => hb y (List.mem_cons_of_mem _ hy))
    rw [h.1, canon_fenc (by omega)]; rfl
  · show ((fnV 5 _ _ _, true) : Nat × Bool) = _
    rw [fnV_5]
    show (canon ((zs.map fenc).foldl (lstep true) (fenc z)), true) = _
    have h := least_fenc true zs z hz (fun y hy => hb y (List.mem_cons_of_mem _ hy))
    rw [h.1, canon_fenc (by omega)]; rfl
theorem order_fenc {n : Int} (h : -128 ≤ n ∧ n ≤ 127) : FloatKind.f64.format.order (fenc n) (fenc n) = some .eq := by
  have := fenc_num (n := n) (by omega)
  unfold fnan at this; simpa using this
theorem parts_most (S : List (Int × Nat)) (T a e fn : Int) (hr : Rise S T) (ha : 0 < a) (hae : a < e) (hT : T ≤ e) (hf : fn = 4 ∨ fn = 5) :
    ∃ A B C pA pB, fnR fn 0 a S = (A, pA) ∧ fnR fn a e S = (B, pB) ∧ fnR fn 0 e S = (C, pA || pB) ∧ (((pA = false ∧ pB = false) ∨ (pA = true ∧ A = C) ∨ (pB = true ∧ B = C)) ∧ (pA = true ∨ pB = true → FloatKind.f64.format.order C C = some .eq)) := by
  obtain ⟨p, ⟨hp, hpb⟩, hpl⟩ := vals_zs S 0 a hr.num
  obtain ⟨q, ⟨hq, hqb⟩, hql⟩ := vals_zs S a e hr.num
  have hcut := cut_parts S a e (by omega) (by omega) hr.asc
  have hv : vals 0 e S = vals 0 a S ++ vals a e S := by unfold vals; rw [hcut, List.map_append]
  have f1 : 1 ≤ fn ∧ fn ≤ 14 := by omega
  unfold fnR
  rw [if_pos ⟨f1.1, f1.2, ha⟩, if_pos ⟨f1.1, f1.2, hae⟩, if_pos ⟨f1.1, f1.2, (by omega : (0:Int) < e)⟩, hv, hp, hq]
  rcases p with _ | ⟨z, zs⟩
  · rcases q with _ | ⟨y, ys⟩
    · exact ⟨_, _, _, _, _, rfl, rfl, rfl, .inl ⟨rfl, rfl⟩, fun h => by rcases h with h | h <;> cases h⟩
    · have hm := (least_fenc (fn == 5) ys y (hqb y (List.mem_cons_self ..)) (fun x hx => hqb x (List.mem_cons_of_mem _ hx))).2
      refine ⟨0, _, _, false, true, rfl, one_most fn _ y ys hqb hf, ?_, .inr (.inr ⟨rfl, rfl⟩), fun _ => order_fenc hm⟩
      exact one_most fn _ y ys hqb hf
  · have hm := (least_fenc (fn == 5) zs z (hpb z (List.mem_cons_self ..)) (fun x hx => hpb x (List.mem_cons_of_mem _ hx))).2
    rcases q with _ | ⟨y, ys⟩
    · refine ⟨_, 0, _, true, false, one_most fn _ z zs hpb hf, rfl, ?_, .inr (.inl ⟨rfl, rfl⟩), fun _ => order_fenc hm⟩
      rw [List.map_nil, List.append_nil]
      exact one_most fn _ z zs hpb hf
    · have hm2 := (least_fenc (fn == 5) ys y (hqb y (List.mem_cons_self ..)) (fun x hx => hqb x (List.mem_cons_of_mem _ hx))).2
      have hab : ∀ x ∈ z :: (zs ++ y :: ys), -128 ≤ x ∧ x ≤ 127 := by
        intro x hx
        rcases List.mem_append.1 (show x ∈ (z :: zs) ++ (y :: ys) from hx) with h | h
        · exact hpb x h
        · exact hqb x h
      have hC : (zs ++ y :: ys).foldl (mstep (fn == 5)) z = mstep (fn == 5) (zs.foldl (mstep (fn == 5)) z) (ys.foldl (mstep (fn == 5)) y) := by
        rw [List.foldl_append, List.foldl_cons, mfold_mstep]
      refine ⟨_, _, fenc (mstep (fn == 5) (zs.foldl (mstep (fn == 5)) z) (ys.foldl (mstep (fn == 5)) y)), true, true, one_most fn _ z zs hpb hf, one_most fn _ y ys hqb hf, ?_, ?_, fun _ => order_fenc (mstep_bd _ hm hm2)⟩
      · rw [← List.map_append]
        show fnP fn _ (fenc z :: (zs ++ y :: ys).map fenc) = _
        rw [one_most fn _ z _ hab hf, hC]; rfl
      · have : mstep (fn == 5) (zs.foldl (mstep (fn == 5)) z) (ys.foldl (mstep (fn == 5)) y) = zs.foldl (mstep (fn == 5)) z ∨ mstep (fn == 5) (zs.foldl (mstep (fn == 5)) z) (ys.foldl (mstep (fn == 5)) y) = ys.foldl (mstep (fn == 5)) y := by
          generalize zs.foldl (mstep (fn == 5)) z = m
          generalize ys.foldl (mstep (fn == 5)) y = n
          unfold mstep; split <;> omega
        rcases this with h | h
        · exact .inr (.inl ⟨rfl, by rw [h]⟩)
        · exact .inr (.inr ⟨rfl, by rw [h]⟩)
end Go.Proofs.Ytdhahnagnemgaaa
