/- Points, sorted by their labels. topk's comparison. Plain law: a stable sort is the insertion of one after the other. A group's points, those that come first ahead: the library's stable sort. Plain law: a point put into points that are in order. Normal: the document's walk. A group's chosen points, the code's walk. A group's value, both sides. Maps keyed by strings that the call makes: what lies at each key, as a function; maps of rows of points. (Several texts in one file, by merge.py.) -/
import Derived.Test.YtogjcaakfnfapaaGreatDoorZC5
import Derived.Test.YtogjcaakfnfapaaGreatDoorZC3
import Derived.Test.YtogjcaakfnfapaaGreatDoorZC1
import Derived.Test.YtogjcaakfnfapaaGreatDoorZC4
import Derived.Maps.OwnSet
import Derived.Maps.OwnOps
import Derived.StringKeys
import Derived.Carry
namespace Go.Proofs.YtogjcaakfnfapaaGreatDoor
open Go Go.RowKit Go.Lib Go.Sort
set_option linter.unusedVariables false
set_option linter.unusedSimpArgs false
set_option maxRecDepth 100000
abbrev ZIn (w : World) (g : Nat) := {z : ZPt // ZOk w (some g) z}
instance (w : World) (g : Nat) : Inhabited (ZIn w g) := ⟨⟨(.slice none 0 0, [], 0), Sl.nil _, fun h => absurd rfl h⟩⟩
def yenc {w : World} {g : Nat} (y : ZIn w g) : List Value := zenc y.1
theorem yenc_len {w : World} {g : Nat} (y : ZIn w g) : (yenc y).length = 2 := rfl
def ycmp {w : World} {g : Nat} (x y : ZIn w g) : Int := cmpL x.1.2.1 y.1.2.1
theorem ycmp_swo {w : World} {g : Nat} : Sort.SWO (ltOf (ycmp (w := w) (g := g))) := swo_of (fun x y => cmpL_neg x.1.2.1 y.1.2.1) (fun x y z h1 h2 => cmpL_trans _ _ _ h1 h2)
theorem ycmp_lays {w : World} {g : Nat} {size : Nat} {d0 : Array (ZIn w g)} : CmpLays Tryz.prog 48 #[] (yenc (w := w) (g := g)) 2 ycmp g 0 size w := by
  intro m os dk hs x y
  have hg : w.grownBy (sortWorldK yenc 2 w g 0 m dk os) (some g) := SWK.grownBy (enc := yenc) (k := 2) (d := dk) ⟨m, os, rfl⟩
  refine (pcmp_any x.1.1 y.1.1 x.1.2.2 y.1.2.2 x.1.2.1 y.1.2.1 _ (x.2.grown hg).1 (y.2.grown hg).1).mono ?_
  rintro e w' ⟨rfl, q, os', rfl⟩
  exact ⟨rfl, q, os', rfl⟩
set_option maxHeartbeats 4000000 in
theorem vsort_any (v : Value) (ps : List Pt) (base : Nat) (w : World) (h : OV w base v ps) (hl : ps.length ≤ 1000000) :
    Calls Tryz.prog 47 #[v, .func (.func 48) #[] #[]] w fun e w' => e = .returned (.tuple #[]) ∧ ∃ qs : List Pt, qs.Perm ps ∧ Weak qs ∧ VS w' v qs ∧ (∀ W, Below base W w → Below base W w') := by
  obtain ⟨zs, h1, h2, h3⟩ := h
  rcases h2.2 with ⟨rfl, h0⟩ | ⟨g, cap, cur, rfl, hbg, hg, hle, hcap, -, -⟩
  · obtain rfl : ps = [] := List.eq_nil_of_length_eq_zero h0
    clear h1 h2 h3 h0
    have mixed : Tryz.prog.follows .mixedOrders = true := by kernel_rfl
    have HS : Calls Tryz.prog 71 #[.slice none 0 0, .int .i64 0, .func (.func 48) #[] #[]] w fun e w' => e = .returned (.tuple #[]) ∧ w' = w := by
      have HI : Calls Tryz.prog 87 #[.slice none 0 0, .int .i64 0, .int .i64 0, .func (.func 48) #[] #[]] w fun e w' => e = .returned (.tuple #[]) ∧ w' = w := by
        go_enter Tryz.func87, Tryz.ntmps87
        go_wp2_with fail
        go_loopw [8] (fun i wr => i = .int .i64 1 ∧ wr = w) (fun _ _ => 0)
        case atStart => exact ⟨rfl, rfl⟩
        case round =>
          obtain ⟨rfl, rfl⟩ := hrel
          go_wp2_with fail
          go_end0
          exact ⟨rfl, rfl⟩
      go_enter Tryz.func71, Tryz.ntmps71
      go_wp2_with fail
      go_loopw [7, 8] (fun i j wr => i = .int .i64 0 ∧ j = .int .i64 20 ∧ wr = w) (fun _ _ _ => 0)
      case atStart => exact ⟨rfl, rfl, rfl⟩
      case round =>
        obtain ⟨rfl, rfl, rfl⟩ := hrel
        go_wp2_with fail
        refine HI.mono ?_
        rintro e w1 ⟨rfl, rfl⟩
        go_wp2_with fail
        go_loopw [6] (fun i wr => i = .int .i64 20 ∧ wr = w1) (fun _ _ => 0)
        case atStart => exact ⟨rfl, rfl⟩
        case round =>
          obtain ⟨rfl, rfl⟩ := hrel
          go_wp2_with fail
          go_end0
          exact ⟨rfl, rfl⟩
    go_enter Tryz.func47, Tryz.ntmps47
    go_wp2_with fail
    refine HS.mono ?_
    rintro e w1 ⟨rfl, rfl⟩
    go_wp2_with fail
    go_end0
    exact ⟨rfl, [], List.Perm.refl _, List.Pairwise.nil, VS.nil _, fun W h => h⟩
  · obtain ⟨N, hN⟩ : ∃ N, N = ps.length := ⟨_, rfl⟩
    have hzl : zs.length = N := by rw [hN, ← h1]; simp
    rw [← hN] at h2 hl hle
    rw [← hN]
    have hgl : g < w.heap.size := (Array.getElem?_eq_some_iff.1 hg).1
    obtain ⟨L, hL⟩ : ∃ L : List (ZIn w g), L.map Subtype.val = zs := ⟨zs.attachWith (ZOk w (some g)) h3, List.attachWith_map_subtype_val ..⟩
    have hLl : L.length = N := by rw [← hzl, ← hL]; simp
    have hfl : L.flatMap yenc = zs.flatMap zenc := by rw [← hL, List.flatMap_map]; rfl
    rw [← hfl] at h2
    have hH := holdsK_own (enc := yenc) yenc_len (by decide) h2
    have R : RowK yenc 2 w g 0 L.toArray := ⟨yenc_len, fun x v hv => by
      obtain ⟨a, c, hs, -⟩ := x.2.1
      simp [yenc, zenc] at hv
      rcases hv with rfl | rfl
      · rw [hs]; rfl
      · rfl, hH, hgl⟩
    have HF := stable_P 2 (fun w => by rfl) 48 #[] (fun args w => by rfl) ycmp g 0 cap L.toArray L.toArray w w R rfl (SWK.start hH) (ycmp_lays (d0 := L.toArray)) ycmp_swo (by simp; omega)
    rw [List.size_toArray, hLl] at HF
    have HFF := Lib.hid HF
    have HR := Lib.hid R
    have HHH := Lib.hid hH
    have H1 := Lib.hid h1
    have HL := Lib.hid hL
    have HLl := Lib.hid hLl
    have HN := Lib.hid hN
    unfold maxLen at hcap
    clear HF R hH h2 h3 hg h1 hL hfl hzl hLl hN
    go_enter Tryz.func47, Tryz.ntmps47
    go_wp2_with fail
    refine HFF.out.mono ?_
    rintro e w1 ⟨rfl, d', hS, hz, hp, hs⟩
    have HS := Lib.hid hS
    have HZ := Lib.hid hz
    have HP := Lib.hid hp
    have HO := Lib.hid hs
    clear hS hz hp hs
    go_wp2_with fail
    go_end0
    have hlL := HLl.out
    have hz : d'.size = N := by have := HZ.out; simpa [hlL] using this
    have hperm : d'.toList.Perm L := by
      have := HP.out.2.2
      simp only [List.extract_toArray, List.extract_eq_take_drop, List.drop_zero] at this
      have e1 : (d'.extract 0 N).toList = d'.toList := by rw [← hz, Array.extract_size]
      rw [e1] at this
      simpa [← hlL] using this
    have hsl := SWK.slice (cap := cap) HS.out yenc_len (by decide) HHH.out hgl (by rw [hz]; simp [hlL]) ⟨by omega, by omega⟩
    rw [hz] at hsl
    have hgr := SWK.grownBy HS.out
    refine ⟨rfl, (d'.toList.map Subtype.val).map (·.2), ?_, ?_, vs_of (Sl.mapped (enc := zenc) (f := Subtype.val) hsl) ?_, ?_⟩
    · rw [← H1.out, ← HL.out]
      exact (hperm.map _).map _
    · unfold Weak
      rw [List.pairwise_map, List.pairwise_map, List.pairwise_iff_getElem]
      intro i j hi hj hij
      have := HO.out i j (Nat.zero_le _) hij (by simpa [hz] using hj)
      have hi2 : i < d'.size := by simpa using hi
      have hj2 : j < d'.size := by simpa using hj
      rw [getElem!_pos d' i hi2, getElem!_pos d' j hj2] at this
      have h2 : ¬ cmpL d'[j].1.2.1 d'[i].1.2.1 < 0 := of_decide_eq_false this
      have h3 := cmpL_neg d'[j].1.2.1 d'[i].1.2.1
      simp only [Array.getElem_toList]
      omega
    · intro z hz
      obtain ⟨y, hy, rfl⟩ := List.mem_map.1 hz
      exact (y.2.grown hgr).1
    · intro W hW
      exact hW.grown hgr (by omega) (fun j hj => by injection hj with hj; omega)
end Go.Proofs.YtogjcaakfnfapaaGreatDoor
namespace Go.Proofs.YtogjcaakfnfapaaGreatDoor
open Go Go.RowKit
set_option linter.unusedVariables false
set_option linter.unusedSimpArgs false
set_option maxRecDepth 100000
/-- What the sort is told of two values. -/
def acf (op : Int) (a b : Nat) : Int := if aheadF op a b then -1 else if aheadF op b a then 1 else 0
end Go.Proofs.YtogjcaakfnfapaaGreatDoor
namespace Go.Proofs.YtogjcaakfnfapaaGreatDoor
open Go.Sort
set_option linter.unusedVariables false
set_option linter.unusedSimpArgs false
section
variable {α : Type}
/-- x put ahead of the first that it comes ahead of. -/
def insF (lt : α → α → Bool) (x : α) : List α → List α
  | [] => [x]
  | y :: r => if lt x y then x :: y :: r else y :: insF lt x r
def stabF (lt : α → α → Bool) (l : List α) : List α := l.foldl (fun out x => insF lt x out) []
theorem insF_perm (lt : α → α → Bool) (x : α) : ∀ l : List α, (insF lt x l).Perm (x :: l)
  | [] => List.Perm.refl _
  | y :: r => by
    unfold insF
    split
    · exact List.Perm.refl _
    · exact ((insF_perm lt x r).cons y).trans (List.Perm.swap x y r)
theorem stab_snoc (lt : α → α → Bool) (l : List α) (x : α) : stabF lt (l ++ [x]) = insF lt x (stabF lt l) := by
  unfold stabF; rw [List.foldl_append]; rfl
theorem stab_perm (lt : α → α → Bool) (l : List α) : (stabF lt l).Perm l := by
  have : ∀ (l out : List α), (l.foldl (fun out x => insF lt x out) out).Perm (out ++ l) := by
    intro l
    induction l with
    | nil => intro out; simp
    | cons x l ih =>
      intro out
      refine (ih _).trans ?_
      refine ((insF_perm lt x out).append_right l).trans ?_
      simpa using (List.perm_middle (l₁ := out) (l₂ := l) (a := x)).symm
  have h := this l []
  rw [List.nil_append] at h
  exact h
theorem insF_map {β : Type} (f : α → β) (lt : β → β → Bool) (x : α) : ∀ l : List α, (insF (fun a b => lt (f a) (f b)) x l).map f = insF lt (f x) (l.map f)
  | [] => rfl
  | y :: r => by
    unfold insF
    simp only [List.map_cons]
    split
    · rfl
    · rw [List.map_cons, insF_map f lt x r]
theorem stab_map {β : Type} (f : α → β) (lt : β → β → Bool) (l : List α) : (stabF (fun a b => lt (f a) (f b)) l).map f = stabF lt (l.map f) := by
  have : ∀ (l out : List α), (l.foldl (fun out x => insF (fun a b => lt (f a) (f b)) x out) out).map f = (l.map f).foldl (fun out x => insF lt x out) (out.map f) := by
    intro l
    induction l with
    | nil => intro out; rfl
    | cons x l ih => intro out; rw [List.foldl_cons, ih, insF_map]; rfl
  exact this l []
/-- With its place: what is told of two that neither comes ahead of. -/
def lexI (lt : α → α → Bool) (p q : α × Nat) : Bool := lt p.1 q.1 || (!lt q.1 p.1 && decide (p.2 < q.2))
theorem lexI_swo {lt : α → α → Bool} (h : SWO lt) : SWO (lexI lt) := by
  have na : ∀ {x y z : α}, lt x z = true → lt x y = true ∨ lt y z = true := fun {x y z} h1 => by
    cases h2 : lt x y with
    | true => exact .inl rfl
    | false =>
      cases h3 : lt y z with
      | true => exact .inr rfl
      | false => rw [h.ntrans x y z h2 h3] at h1; cases h1
  refine ⟨fun x => ?_, fun x y z h1 h2 => ?_, fun x y z h1 h2 => ?_⟩
  · simp [lexI, h.irrefl]
  · unfold lexI at *
    simp only [Bool.or_eq_true, Bool.and_eq_true, Bool.not_eq_true', decide_eq_true_eq] at *
    rcases h1 with h1 | ⟨h1, i1⟩
    · rcases h2 with h2 | ⟨h2, i2⟩
      · exact .inl (h.trans _ _ _ h1 h2)
      · refine .inl ?_
        rcases na (y := z.1) h1 with h3 | h3
        · exact h3
        · rw [h3] at h2; cases h2
    · rcases h2 with h2 | ⟨h2, i2⟩
      · refine .inl ?_
        rcases na (y := x.1) h2 with h3 | h3
        · rw [h3] at h1; cases h1
        · exact h3
      · exact .inr ⟨h.ntrans _ _ _ h2 h1, by omega⟩
  · unfold lexI at *
    simp only [Bool.or_eq_false_iff, Bool.and_eq_false_iff, Bool.not_eq_false', decide_eq_false_iff_not] at *
    obtain ⟨a1, a2⟩ := h1
    obtain ⟨b1, b2⟩ := h2
    refine ⟨h.ntrans _ _ _ a1 b1, ?_⟩
    rcases a2 with a2 | a2
    · rcases na (y := z.1) a2 with h3 | h3
      · rw [h3] at b1; cases b1
      · exact .inl h3
    · rcases b2 with b2 | b2
      · rcases na (y := x.1) b2 with h3 | h3
        · exact .inl h3
        · rw [h3] at a1; cases a1
      · exact .inr (by omega)
theorem insF_sorted {lt : α → α → Bool} (h : SWO lt) (p : α × Nat) : ∀ l : List (α × Nat), l.Pairwise (fun a b => lexI lt b a = false) → (∀ q ∈ l, q.2 < p.2) → (insF (fun a b : α × Nat => lt a.1 b.1) p l).Pairwise (fun a b => lexI lt b a = false)
  | [], _, _ => by simp [insF]
  | y :: r, hp, hi => by
    obtain ⟨h1, h2⟩ := List.pairwise_cons.1 hp
    unfold insF
    split
    · rename_i hlt
      refine List.pairwise_cons.2 ⟨fun z hz => ?_, hp⟩
      have key : lt p.1 z.1 = true := by
        rcases List.mem_cons.1 hz with rfl | hz
        · exact hlt
        · have h3 := h1 z hz
          unfold lexI at h3
          rw [Bool.or_eq_false_iff] at h3
          cases h4 : lt p.1 z.1 with
          | true => rfl
          | false => rw [h.ntrans _ _ _ h4 h3.1] at hlt; cases hlt
      have k2 : lt z.1 p.1 = false := by
        cases h5 : lt z.1 p.1 with
        | false => rfl
        | true => have := h.trans _ _ _ key h5; rw [h.irrefl] at this; cases this
      simp [lexI, key, k2]
    · rename_i hlt
      refine List.pairwise_cons.2 ⟨fun z hz => ?_, insF_sorted h p r h2 (fun q hq => hi q (List.mem_cons_of_mem _ hq))⟩
      rcases List.mem_cons.1 ((insF_perm _ p r).subset hz) with rfl | hz
      · have := hi y (List.mem_cons_self ..)
        have hlt : lt z.1 y.1 = false := by simpa using hlt
        simp [lexI, hlt]
        intro _; omega
      · exact h1 z hz
theorem stab_sorted {lt : α → α → Bool} (h : SWO lt) (l : List α) : (stabF (fun a b : α × Nat => lt a.1 b.1) l.zipIdx).Pairwise (fun a b => lexI lt b a = false) := by
  have : ∀ (n : Nat), n ≤ l.length → (stabF (fun a b : α × Nat => lt a.1 b.1) (l.zipIdx.take n)).Pairwise (fun a b => lexI lt b a = false) := by
    intro n
    induction n with
    | zero => intro _; simp [stabF]
    | succ n ih =>
      intro hn
      rw [List.take_succ_eq_append_getElem (by rw [List.length_zipIdx]; omega), stab_snoc]
      refine insF_sorted h _ _ (ih (by omega)) fun q hq => ?_
      have := (stab_perm _ _).subset hq
      obtain ⟨j, hj, rfl⟩ := List.mem_iff_getElem.1 this
      have : j < n := by simp at hj; omega
      simpa using this
  have h2 := this l.length (Nat.le_refl _)
  rwa [List.take_of_length_le (by simp)] at h2
/-- Whatever is a permutation of the pairs, in order, is the stable sort. -/
theorem stab_unique {lt : α → α → Bool} (h : SWO lt) (l : List α) {d : List (α × Nat)} (hp : d.Perm l.zipIdx) (hs : d.Pairwise (fun a b => lexI lt b a = false)) : d.map Prod.fst = stabF lt l := by
  have e : d = stabF (fun a b : α × Nat => lt a.1 b.1) l.zipIdx := by
    refine List.Perm.eq_of_pairwise (le := fun a b => lexI lt b a = false) (fun a b ha hb h1 h2 => ?_) hs (stab_sorted h l) (hp.trans (stab_perm _ _).symm)
    have ha' := List.mem_zipIdx_iff_getElem?.1 (hp.subset ha)
    have hb' := List.mem_zipIdx_iff_getElem?.1 ((stab_perm _ _).subset hb)
    unfold lexI at h1 h2
    rw [Bool.or_eq_false_iff] at h1 h2
    have e2 : a.2 = b.2 := by
      have i1 := h1.2
      have i2 := h2.2
      rw [h2.1] at i1
      rw [h1.1] at i2
      simp at i1 i2
      omega
    rw [e2, hb'] at ha'
    injection ha' with e1
    exact Prod.ext e1.symm e2
  rw [e, stab_map Prod.fst lt, List.zipIdx_map_fst]
end
end Go.Proofs.YtogjcaakfnfapaaGreatDoor
namespace Go.Proofs.YtogjcaakfnfapaaGreatDoor
open Go Go.RowKit Go.Lib Go.Sort
set_option linter.unusedVariables false
set_option linter.unusedSimpArgs false
set_option maxRecDepth 100000
def aheadZ (op : Int) (x y : ZPt) : Bool := aheadF op x.2.2 y.2.2
theorem aheadZ_swo (op : Int) : SWO (aheadZ op) := by
  have h := keylt_swo (fun z : ZPt => akey op z.2.2)
  have e : aheadZ op = fun x y => keylt (akey op x.2.2) (akey op y.2.2) := by
    funext x y; exact ahead_key op _ _
  rw [e]; exact h
abbrev AIn (w : World) (g : Nat) := {p : ZPt × Nat // ZOk w (some g) p.1 ∧ FB p.1.2.2}
instance (w : World) (g : Nat) : Inhabited (AIn w g) := ⟨⟨((.slice none 0 0, [], 0), 0), ⟨Sl.nil _, fun h => absurd rfl h⟩, (by show (0 : Nat) < 18446744073709551616; decide)⟩⟩
def aenc {w : World} {g : Nat} (y : AIn w g) : List Value := zenc y.1.1
theorem aenc_len {w : World} {g : Nat} (y : AIn w g) : (aenc y).length = 2 := rfl
def acfK (op : Int) {w : World} {g : Nat} (x y : AIn w g) : Int := acf op x.1.1.2.2 y.1.1.2.2
def altK (op : Int) {w : World} {g : Nat} (x y : AIn w g) : Bool := lexI (aheadZ op) x.1 y.1
theorem altK_swo (op : Int) {w : World} {g : Nat} : SWO (altK op (w := w) (g := g)) := by
  have h := lexI_swo (aheadZ_swo op)
  exact ⟨fun x => h.irrefl _, fun x y z => h.trans _ _ _, fun x y z => h.ntrans _ _ _⟩
def AQ {w : World} {g : Nat} (p q : AIn w g) : Prop := q.1.2 < p.1.2
theorem alt_tests (op : Int) {w : World} {g : Nat} : Tests AQ (acfK op (w := w) (g := g)) (altK op) := by
  refine ⟨fun p q hq h => ?_, fun p q hq h => ?_⟩
  · have h1 : aheadZ op p.1.1 q.1.1 = true := by
      unfold acfK acf at h
      unfold aheadZ
      cases hh : aheadF op p.1.1.2.2 q.1.1.2.2 with
      | true => rfl
      | false => rw [hh] at h; simp at h; split at h <;> omega
    simp [altK, lexI, h1]
  · have h1 : aheadZ op p.1.1 q.1.1 = false := by
      unfold acfK acf at h
      unfold aheadZ
      cases hh : aheadF op p.1.1.2.2 q.1.1.2.2 with
      | false => rfl
      | true => rw [hh] at h; simp at h
    have h2 : ¬ p.1.2 < q.1.2 := by unfold AQ at hq; omega
    simp [altK, lexI, h1, h2]
end Go.Proofs.YtogjcaakfnfapaaGreatDoor
namespace Go.Proofs.YtogjcaakfnfapaaGreatDoor
open Go Go.RowKit
set_option linter.unusedVariables false
set_option linter.unusedSimpArgs false
def putAt (q : List Pt) (j : Nat) (p : Pt) : List Pt := q.take j ++ p :: q.drop j
theorem putAt_perm (q : List Pt) (j : Nat) (p : Pt) : (putAt q j p).Perm (q ++ [p]) := by
  refine List.perm_middle.trans ?_
  rw [List.take_append_drop]
  exact (List.perm_append_singleton p q).symm
theorem low_take {q : List Pt} {p : Pt} {j : Nat} (h1 : ∀ m (hm : m < q.length), m < j → cmpL q[m].1 p.1 < 0) : ∀ a ∈ q.take j, cmpL a.1 p.1 < 0 := by
  intro a ha
  obtain ⟨m, hm, rfl⟩ := List.mem_iff_getElem.1 ha
  rw [List.length_take] at hm
  rw [List.getElem_take]
  exact h1 m (by omega) (by omega)
theorem high_drop {q : List Pt} {p : Pt} {j : Nat} (h : Weak q) (h2 : ∀ hj : j < q.length, 0 ≤ cmpL q[j].1 p.1) : ∀ b ∈ q.drop j, cmpL p.1 b.1 ≤ 0 := by
  intro b hb
  obtain ⟨m, hm, rfl⟩ := List.mem_iff_getElem.1 hb
  rw [List.length_drop] at hm
  rw [List.getElem_drop]
  have hj : j < q.length := by omega
  have e1 := h2 hj
  have e2 := cmpL_neg q[j].1 p.1
  cases m with
  | zero => simp only [Nat.add_zero]; omega
  | succ m =>
    have e3 := List.pairwise_iff_getElem.1 h j (j + (m + 1)) hj (by omega) (by omega)
    exact (cmpL_trans _ _ _ (by omega) e3).1
theorem high_drop' {q : List Pt} {p : Pt} {j : Nat} (h : Weak q) (h2 : ∀ hj : j < q.length, 0 < cmpL q[j].1 p.1) : ∀ b ∈ q.drop j, cmpL p.1 b.1 < 0 := by
  intro b hb
  obtain ⟨m, hm, rfl⟩ := List.mem_iff_getElem.1 hb
  rw [List.length_drop] at hm
  rw [List.getElem_drop]
  have hj : j < q.length := by omega
  have e1 := h2 hj
  have e2 := cmpL_neg q[j].1 p.1
  cases m with
  | zero => simp only [Nat.add_zero]; omega
  | succ m =>
    have e3 := List.pairwise_iff_getElem.1 h j (j + (m + 1)) hj (by omega) (by omega)
    exact (cmpL_trans _ _ _ (by omega) e3).2 (.inl (by omega))
theorem putAt_weak {q : List Pt} {p : Pt} {j : Nat} (h : Weak q) (h1 : ∀ m (hm : m < q.length), m < j → cmpL q[m].1 p.1 < 0) (h2 : ∀ hj : j < q.length, 0 ≤ cmpL q[j].1 p.1) : Weak (putAt q j p) := by
  have hl := low_take h1
  have hh := high_drop h h2
  unfold Weak putAt
  rw [List.pairwise_append, List.pairwise_cons]
  refine ⟨h.sublist (List.take_sublist _ _), ⟨hh, h.sublist (List.drop_sublist _ _)⟩, fun a ha b hb => ?_⟩
  rcases List.mem_cons.1 hb with rfl | hb
  · have := hl a ha; omega
  · have := hl a ha
    exact (cmpL_trans _ _ _ (by omega) (hh b hb)).1
theorem putAt_strict {q : List Pt} {p : Pt} {j : Nat} (h : Strict q) (h1 : ∀ m (hm : m < q.length), m < j → cmpL q[m].1 p.1 < 0) (h2 : ∀ hj : j < q.length, 0 < cmpL q[j].1 p.1) : Strict (putAt q j p) := by
  have hw : Weak q := h.imp fun h => by omega
  have hl := low_take h1
  have hh := high_drop' hw h2
  unfold Strict putAt
  rw [List.pairwise_append, List.pairwise_cons]
  refine ⟨h.sublist (List.take_sublist _ _), ⟨hh, h.sublist (List.drop_sublist _ _)⟩, fun a ha b hb => ?_⟩
  rcases List.mem_cons.1 hb with rfl | hb
  · exact hl a ha
  · have e1 := hl a ha
    have e2 := hh b hb
    exact (cmpL_trans _ _ _ (by omega) (by omega)).2 (.inl e1)
theorem putAt_dup {q : List Pt} {p : Pt} {j : Nat} (hj : j < q.length) (he : cmpL q[j].1 p.1 = 0) : ¬ ((putAt q j p).map (·.1)).Nodup := by
  intro hn
  have h1 := ((putAt_perm q j p).map (·.1)).nodup_iff.1 hn
  rw [List.map_append, List.nodup_append] at h1
  exact h1.2.2 q[j].1 (List.mem_map.2 ⟨_, List.getElem_mem hj, rfl⟩) p.1 (by simp) ((cmpL_eq _ _).1 he)
theorem putAt_dup' {q : List Pt} {p : Pt} {j : Nat} (h : ¬ (q.map (·.1)).Nodup) : ¬ ((putAt q j p).map (·.1)).Nodup := by
  intro hn
  have h1 := ((putAt_perm q j p).map (·.1)).nodup_iff.1 hn
  rw [List.map_append, List.nodup_append] at h1
  exact h h1.1
end Go.Proofs.YtogjcaakfnfapaaGreatDoor
namespace Go.Proofs.YtogjcaakfnfapaaGreatDoor
open Go Go.RowKit
set_option linter.unusedVariables false
set_option linter.unusedSimpArgs false
set_option maxRecDepth 100000
theorem ownsRow_low {w : World} {base base' : Nat} {e : TypeId} {size : Nat} {v : Value} {n : Nat} {xs : List Value} (h : w.ownsRow base e size v n xs) (hb : base' ≤ base) : w.ownsRow base' e size v n xs :=
  ⟨h.1, h.2.imp id fun ⟨g, cap, cur, e, h1, rest⟩ => ⟨g, cap, cur, e, Nat.le_trans hb h1, rest⟩⟩
theorem S_keepP {w3 w' : World} {p q : Addr} {x0 x1 : Value} (p0 : w3.cell? p = some x0) (p1 : w3.cell? q = some x1) (h : Below w3.heap.size w3 w') :
    Below w3.heap.size w3 w' ∧ w'.cell? p = some x0 ∧ w'.cell? q = some x1 := ⟨h, cell_below h (Nat.le_refl _) p0, cell_below h (Nat.le_refl _) p1⟩
theorem zenc_pos (x : ZPt) : 0 < (zenc x).length := Nat.zero_lt_succ _
theorem Tryz.elemPts : Tryz.prog.underlying 27 = some (.slice (Tryz.prog.elem 27)) := by kernel_rfl
theorem Tryz.sizePt (w : World) : (sizeOf (Tryz.prog.elem 27)).run Tryz.prog w = .ok 2 w := by rfl
theorem zenc_one {w : World} {zs : List ZPt} (h : ∀ z ∈ zs, Sl lenc w z.1 z.2.1) : ∀ u ∈ zs.flatMap zenc, u.oneCell' = true := by
  intro u hu
  rw [List.mem_flatMap] at hu
  obtain ⟨x, hx, hu⟩ := hu
  obtain ⟨a, c, e, -⟩ := h x hx
  simp [zenc] at hu
  rcases hu with rfl | rfl
  · rw [e]; rfl
  · rfl
/-- The row of what the document's Normal has so far. -/
def RN (ps : List Pt) (w : World) (k : Nat) (zs : List ZPt) (dup : Bool) : Prop :=
  zs.length = k ∧ (∀ z ∈ zs, Sl lenc w z.1 z.2.1) ∧ (zs.map (·.2)).Perm ((ps.take k).map canonP) ∧ Weak (zs.map (·.2)) ∧ (dup = true → ¬ ((zs.map (·.2)).map (·.1)).Nodup) ∧ (dup = false → Strict (zs.map (·.2))) ∧ ∀ j (hj : j < ps.length), j < k → rightL ps[j].1 = true
theorem take_canon2 (ps : List Pt) (k : Nat) (h : k < ps.length) : (ps.take (k + 1)).map canonP = (ps.take k).map canonP ++ [canonP ps[k]] := by
  rw [List.take_succ_eq_append_getElem h, List.map_append]; rfl
theorem RN.step {ps : List Pt} {w : World} {k j : Nat} {zs : List ZPt} {dup d' : Bool} {lv : Value} (h : RN ps w k zs dup) (hk : k < ps.length) (hr : rightL ps[k].1 = true) (hs : Sl lenc w lv ps[k].1)
    (h1 : ∀ i (hi : i < zs.length), i < j → cmpL zs[i].2.1 ps[k].1 < 0) (h2 : ∀ hj : j < zs.length, 0 ≤ cmpL zs[j].2.1 ps[k].1)
    (hd : (d' = dup ∧ ∀ hj : j < zs.length, cmpL zs[j].2.1 ps[k].1 ≠ 0) ∨ (d' = true ∧ ∃ hj : j < zs.length, cmpL zs[j].2.1 ps[k].1 = 0)) :
    RN ps w (k + 1) (zs.take j ++ (lv, ps[k].1, canon ps[k].2) :: zs.drop j) d' := by
  obtain ⟨g1, g2, g3, g4, g5, g6, g7⟩ := h
  have hm : (zs.take j ++ (lv, ps[k].1, canon ps[k].2) :: zs.drop j).map (·.2) = putAt (zs.map (·.2)) j (canonP ps[k]) := by
    unfold putAt
    rw [List.map_append, List.map_cons, List.map_take, List.map_drop]; rfl
  have e1 : ∀ m (hm : m < (zs.map (·.2)).length), m < j → cmpL (zs.map (fun z : ZPt => z.2))[m].1 (canonP ps[k]).1 < 0 := fun m hm hmj => by
    rw [List.getElem_map]; exact h1 m (by simpa using hm) hmj
  have e2 : ∀ hj : j < (zs.map (·.2)).length, 0 ≤ cmpL (zs.map (fun z : ZPt => z.2))[j].1 (canonP ps[k]).1 := fun hj => by
    rw [List.getElem_map]; exact h2 (by simpa using hj)
  refine ⟨?_, ?_, ?_, ?_, ?_, ?_, ?_⟩
  · simp; omega
  · intro z hz
    rcases List.mem_append.1 hz with hz | hz
    · exact g2 z (List.mem_of_mem_take hz)
    · rcases List.mem_cons.1 hz with rfl | hz
      · exact hs
      · exact g2 z (List.mem_of_mem_drop hz)
  · rw [hm, take_canon2 ps k hk]
    exact (putAt_perm _ _ _).trans (g3.append_right _)
  · rw [hm]; exact putAt_weak g4 e1 e2
  · intro e
    rw [hm]
    rcases hd with ⟨rfl, hd⟩ | ⟨-, hj, hd⟩
    · exact putAt_dup' (g5 e)
    · exact putAt_dup (j := j) (by simpa using hj) (by rw [List.getElem_map]; exact hd)
  · intro e
    rw [hm]
    rcases hd with ⟨rfl, hd⟩ | ⟨e2, -⟩
    · refine putAt_strict (g6 e) e1 fun hj => ?_
      have := e2 hj
      have hj2 : j < zs.length := by simpa using hj
      have h3 := hd hj2
      rw [List.getElem_map] at this ⊢
      have h4 : cmpL zs[j].2.1 (canonP ps[k]).1 ≠ 0 := h3
      omega
    · rw [e] at e2; cases e2
  · intro i hi hik
    by_cases he : i = k
    · subst he; exact hr
    · exact g7 i hi (by omega)
set_option maxHeartbeats 8000000 in
theorem rnormal_any (v : Value) (ps : List Pt) (w : World) (h : VS w v ps) (hl : ps.length ≤ 100000) :
    Calls Tryz.prog 33 #[v] w fun e w' => Below w.heap.size w w' ∧ NR ps e w' := by
  obtain ⟨a, cap, rfl, hlen, hc⟩ := h.split
  have HC := Lib.hid hc
  clear hc h
  obtain ⟨i0, hi, hz0, hz1, hz2⟩ := info_parts Tryz.infoPt
  go_enter Tryz.func33, Tryz.ntmps33
  go_wp2_with fail
  go_loopw [4, 5, 6] (fun v d i wr => ∃ (k : Nat) (zs : List ZPt) (dup : Bool), k ≤ ps.length ∧ i = .int .i64 k ∧ d = .bool dup ∧ wr.ownsRow w.heap.size 50 2 v k (zs.flatMap zenc) ∧ Hid (RN ps w k zs dup) ∧ Hid (Below w.heap.size w wr)) (fun _ _ i _ => ps.length - (intOf i).toNat)
  case atStart => exact ⟨0, [], false, Nat.zero_le _, rfl, rfl, World.ownsRow_nil _ _ _ _, ⟨rfl, (fun z hz => by cases hz), List.Perm.refl _, List.Pairwise.nil, (fun e => by cases e), (fun _ => List.Pairwise.nil), fun j _ hj => absurd hj (Nat.not_lt_zero _)⟩, Below.refl _ _⟩
  case round =>
    obtain ⟨k, zs, dup, hk, rfl, rfl, hown, HR, HB⟩ := hrel
    have hBz := HB.out.size
    have h00 : (0 : Int) ≤ (k : Int) := by omega
    by_cases hlt : k < ps.length
    · have hltz : (k : Int) < (ps.length : Int) := by omega
      obtain ⟨b, off, lv, rfl, k0, k1, hsl⟩ := HC.out k hlt
      have p0 := cell_below HB.out (Nat.le_refl _) k0
      have p1 := cell_below HB.out (Nat.le_refl _) k1
      have hslr := hsl.below HB.out (Nat.le_refl _)
      obtain ⟨a2, n2, c2, rfl⟩ : ∃ a2 n2 c2, lv = .slice a2 n2 c2 := by
        obtain ⟨a2, c2, e, -⟩ := hsl
        exact ⟨a2, _, c2, e⟩
      obtain ⟨x, hx⟩ : ∃ x, x = ps[k].2 := ⟨_, rfl⟩
      rw [← hx] at p1
      have HX := Lib.hid hx
      have HFR := Lib.hid (fun q => rright_any (.slice a2 n2 c2) ps[k].1 (wr.drewN q) (hslr.below (below_drewN (Below.refl _ _) q) (Nat.le_refl _)))
      have HSL := Lib.hid hsl
      have HSR := Lib.hid hslr
      obtain ⟨rk, hrk⟩ : ∃ r, r = rightL ps[k].1 := ⟨_, rfl⟩
      rw [← hrk] at HFR
      have HRK := Lib.hid hrk
      clear hsl hslr k0 k1 hx hrk
      have hzs : Sl zenc wr u4 zs := Sl.own zenc_len (by decide) hown
      have hzl : zs.length = k := HR.out.1
      obtain ⟨a4, c4, rfl, hlen4, -, hc4⟩ := hzs.split zenc_len
      rw [hzl] at hlen4 hown hzs ⊢
      have HO := Lib.hid hown
      have HC4 := Lib.hid hc4
      have HZ := Lib.hid hzs
      have HZL := Lib.hid hzl
      clear hc4 hown hzs hzl
      cases rk with
      | false =>
        have HF := Lib.hid (show ∃ p ∈ ps, rightL p.1 = false from ⟨_, List.getElem_mem hlt, HRK.out.symm⟩)
        go_wp2_with fail
        refine (HFR.out 0).mono ?_
        rintro e w2 ⟨rfl, n1, rfl⟩
        go_wp2_with fail
        go_ret2
        exact ⟨below_drewN HB.out _, .inl ⟨HF.out, rfl⟩⟩
      | true =>
        go_wp2_with fail
        refine (HFR.out 0).mono ?_
        rintro e w2 ⟨rfl, n1, rfl⟩
        go_wp2_with fail
        go_loopw [7] (fun j wq => ∃ (m n : Nat), m ≤ k ∧ j = .int .i64 m ∧ Hid (∀ i (hi : i < zs.length), i < m → cmpL zs[i].2.1 ps[k].1 < 0) ∧ wq = wr.drewN n) (fun j _ => k - (intOf j).toNat)
        case atStart => exact ⟨0, _, Nat.zero_le _, rfl, fun j _ hj => absurd hj (Nat.not_lt_zero _), by first | rfl | exact World.drewN_drewN _ _ _⟩
        case round =>
          obtain ⟨m, n, hm, rfl, HV, rfl⟩ := hrel
          have hm0 : (0 : Int) ≤ (m : Int) := by omega
          have hthree : (∃ hm : m < zs.length, cmpL zs[m].2.1 ps[k].1 < 0) ∨ (∃ hm : m < zs.length, cmpL zs[m].2.1 ps[k].1 = 0) ∨ (∃ hm : m < zs.length, 0 < cmpL zs[m].2.1 ps[k].1) ∨ m = k := by
            have := HZL.out
            by_cases h : m < zs.length
            · rcases Int.lt_trichotomy (cmpL zs[m].2.1 ps[k].1) 0 with h1 | h1 | h1
              · exact .inl ⟨h, h1⟩
              · exact .inr (.inl ⟨h, h1⟩)
              · exact .inr (.inr (.inl ⟨h, h1⟩))
            · exact .inr (.inr (.inr (by omega)))
          by_cases hgo : ∃ hm : m < zs.length, cmpL zs[m].2.1 ps[k].1 < 0
          · obtain ⟨hmzs, hcn⟩ := hgo
            clear hthree
            have hmk : m < k := by have := HZL.out; omega
            have hmz : (m : Int) < (k : Int) := by omega
            have hmb : decide ((m : Int) < (k : Int)) = true := decide_eq_true hmz
            have hmb2 : decide (m < k) = true := decide_eq_true hmk
            obtain ⟨b4, off4, rfl, hcc⟩ := HC4.out m hmzs
            have r0 : wr.cell? ⟨b4, off4 + m * 2, none⟩ = some zs[m].1 := hcc 0 _ rfl
            have hzm : Sl lenc wr zs[m].1 zs[m].2.1 := (HR.out.2.1 _ (List.getElem_mem hmzs)).below HB.out (Nat.le_refl _)
            obtain ⟨lz, hlz⟩ : ∃ l, l = zs[m].1 := ⟨_, rfl⟩
            rw [← hlz] at r0 hzm
            obtain ⟨cc, hccE⟩ : ∃ c, c = cmpL zs[m].2.1 ps[k].1 := ⟨_, rfl⟩
            have HCP := Lib.hid (fun q => rcompare_any lz (.slice a2 n2 c2) zs[m].2.1 ps[k].1 (wr.drewN q) (hzm.below (below_drewN (Below.refl _ _) q) (Nat.le_refl _)) (HSR.out.below (below_drewN (Below.refl _ _) q) (Nat.le_refl _)))
            rw [← hccE] at HCP hcn
            have HCE := Lib.hid hccE
            have HN := Lib.hid hcn
            clear hcc hlz hzm hccE hcn
            go_wp2_with fail
            have hcb : decide (cc < 0) = true := decide_eq_true HN.out
            go_quiet ((go_at_call 53; refine qd (HCP.out _)))
            go_wp2_with fail
            go_roundw
            case rel => exact ⟨m + 1, _, by omega, by go_num, (fun i hi him => by
              by_cases he : i = m
              · subst he; rw [← HCE.out]; exact HN.out
              · exact HV.out i hi (by omega)), by first | rfl | (simp only [World.drewN_drewN]; done) | exact World.drewN_drewN _ _ _⟩
            case measure => simp [intOf]; omega
          · have hthree := hthree.resolve_left hgo
            obtain ⟨a5, c5, E1, hs1⟩ := Sl.head Tryz.elemPts Tryz.sizePt zenc_len HZ.out (k := m) (by have := HZL.out; omega)
            obtain ⟨a6, c6, E2, hs2⟩ := Sl.tail Tryz.elemPts Tryz.sizePt zenc_len HZ.out (k := m) (by have := HZL.out; omega)
            obtain ⟨-, n5, s5⟩ := hs1.src zenc_pos
            obtain ⟨-, n6, s6⟩ := hs2.src zenc_pos
            rw [HZL.out] at E2 n6
            have N5 := Lib.hid n5
            have N6 := Lib.hid n6
            have S5 := Lib.hid s5
            have S6 := Lib.hid s6
            clear hs1 hs2 n5 n6 s5 s6 hgo
            have h01 : (m : Int) ≤ (k : Int) := by omega
            have h02 : (m : Int) ≤ (c4 : Int) := by omega
            rcases hthree with hA | hA | hA
            case' inr.inr =>
              have HD := Lib.hid (HR.out.step hlt HRK.out.symm HSL.out (d' := dup) HV.out (fun h => absurd h (by have := HZL.out; omega)) (.inl ⟨rfl, fun h => absurd h (by have := HZL.out; omega)⟩))
              have hmz : ¬ (m : Int) < (k : Int) := by omega
              have hmb : decide ((m : Int) < (k : Int)) = false := decide_eq_false hmz
              have hmb2 : decide (m < k) = false := decide_eq_false (by omega)
              have HA := Lib.hid hA
              clear hA
              go_wp2_with fail
              go_quiet (fail)
              (revert nq; intro nq1)
              go_wp2_with fail
              go_quiet (fail)
              go_wp2_with fail
            case' inl =>
              obtain ⟨hmzs, hcz⟩ := hA
              have HD := Lib.hid (HR.out.step hlt HRK.out.symm HSL.out (d' := true) HV.out (fun _ => by omega) (.inr ⟨rfl, hmzs, hcz⟩))
              have hmk : m < k := by have := HZL.out; omega
              have hmz : (m : Int) < (k : Int) := by omega
              have hmb : decide ((m : Int) < (k : Int)) = true := decide_eq_true hmz
              have hmb2 : decide (m < k) = true := decide_eq_true hmk
              obtain ⟨b4, off4, rfl, hcc⟩ := HC4.out m hmzs
              have r0 : wr.cell? ⟨b4, off4 + m * 2, none⟩ = some zs[m].1 := hcc 0 _ rfl
              have hzm : Sl lenc wr zs[m].1 zs[m].2.1 := (HR.out.2.1 _ (List.getElem_mem hmzs)).below HB.out (Nat.le_refl _)
              obtain ⟨lz, hlz⟩ : ∃ l, l = zs[m].1 := ⟨_, rfl⟩
              rw [← hlz] at r0 hzm
              obtain ⟨cc, hccE⟩ : ∃ c, c = cmpL zs[m].2.1 ps[k].1 := ⟨_, rfl⟩
              have HCP := Lib.hid (fun q => rcompare_any lz (.slice a2 n2 c2) zs[m].2.1 ps[k].1 (wr.drewN q) (hzm.below (below_drewN (Below.refl _ _) q) (Nat.le_refl _)) (HSR.out.below (below_drewN (Below.refl _ _) q) (Nat.le_refl _)))
              rw [← hccE] at HCP hcz
              clear hcc hlz hzm hccE
              have HCZ := Lib.hid hcz
              clear hcz
              go_wp2_with fail
              have hcb : decide (cc < 0) = false := decide_eq_false (by have := HCZ.out; omega)
              go_quiet ((go_at_call 53; refine qd (HCP.out _)))
              (revert nq; intro nq1)
              have hcb2 : (cc == 0) = true := by have := HCZ.out; simpa using this
              go_wp2_with fail
              go_quiet ((go_at_call 53; refine qd (HCP.out _)))
              go_wp2_with fail
            case' inr.inl =>
              obtain ⟨hmzs, hcz⟩ := hA
              have HD := Lib.hid (HR.out.step hlt HRK.out.symm HSL.out (d' := dup) HV.out (fun _ => by omega) (.inl ⟨rfl, fun _ => by omega⟩))
              have hmk : m < k := by have := HZL.out; omega
              have hmz : (m : Int) < (k : Int) := by omega
              have hmb : decide ((m : Int) < (k : Int)) = true := decide_eq_true hmz
              have hmb2 : decide (m < k) = true := decide_eq_true hmk
              obtain ⟨b4, off4, rfl, hcc⟩ := HC4.out m hmzs
              have r0 : wr.cell? ⟨b4, off4 + m * 2, none⟩ = some zs[m].1 := hcc 0 _ rfl
              have hzm : Sl lenc wr zs[m].1 zs[m].2.1 := (HR.out.2.1 _ (List.getElem_mem hmzs)).below HB.out (Nat.le_refl _)
              obtain ⟨lz, hlz⟩ : ∃ l, l = zs[m].1 := ⟨_, rfl⟩
              rw [← hlz] at r0 hzm
              obtain ⟨cc, hccE⟩ : ∃ c, c = cmpL zs[m].2.1 ps[k].1 := ⟨_, rfl⟩
              have HCP := Lib.hid (fun q => rcompare_any lz (.slice a2 n2 c2) zs[m].2.1 ps[k].1 (wr.drewN q) (hzm.below (below_drewN (Below.refl _ _) q) (Nat.le_refl _)) (HSR.out.below (below_drewN (Below.refl _ _) q) (Nat.le_refl _)))
              rw [← hccE] at HCP hcz
              clear hcc hlz hzm hccE
              have HCZ := Lib.hid hcz
              clear hcz
              go_wp2_with fail
              have hcb : decide (cc < 0) = false := decide_eq_false (by have := HCZ.out; omega)
              go_quiet ((go_at_call 53; refine qd (HCP.out _)))
              (revert nq; intro nq1)
              have hcb2 : (cc == 0) = false := by have := HCZ.out; have h2 : cc ≠ 0 := (by omega); simpa using h2
              go_wp2_with fail
              go_quiet ((go_at_call 53; refine qd (HCP.out _)))
              go_wp2_with fail
            all_goals
              try rw [World.drewN_drewN wr n nq1]
              have q0 : ((wr.drewN (n + nq1)).drewN nq).cell? ⟨b, off + k * 2, none⟩ = some (.slice a2 n2 c2) := p0
              have q1 : ((wr.drewN (n + nq1)).drewN nq).cell? ⟨b, off + k * 2 + 1, none⟩ = some (.float .f64 x) := p1
              have hb03 : Below wr.heap.size wr ((wr.drewN (n + nq1)).drewN nq) := below_drewN (below_drewN (Below.refl _ _) _) _
              generalize (wr.drewN (n + nq1)).drewN nq = w3 at q0 q1 hb03 ⊢
              have hz3 : wr.heap.size ≤ w3.heap.size := hb03.size
              have HB03 := Lib.hid hb03
              clear hb03
              go_region_held3 (fun w' => Below w3.heap.size w3 w' ∧ w'.cell? ⟨b, off + k * 2, none⟩ = some (.slice a2 n2 c2) ∧ w'.cell? ⟨b, off + k * 2 + 1, none⟩ = some (.float .f64 x))
                (exact S_keepP q0 q1 (by go_grown))
                (first
                  | (go_at_call 63
                     refine (rcanon_any _ _).mono ?_
                     rintro e w8 ⟨rfl, rfl⟩)
                  | (refine step_append_rd rfl (.tmp 60) (.tmp 63) _ rfl w3.heap.size 50 i0 _ 2 32 Tryz.underlying27 hi hz0 hz1 hz2 rfl (by decide) (.slice (some ⟨_, 0, none⟩) 0 0) 0 [] rfl
                       ?_ a5 m c5 ((zs.take m).flatMap zenc) rfl N5.out (by rw [flat_length zenc_len, List.length_take, HZL.out, Nat.min_eq_left hm]) ?_ ?_ ?_ ?_ ?_ ?_
                     (refine owns_lit ?_ ?_; (first | exact lit1 _ _ | exact lit2 _ _ _ | exact lit3 _ _ _); (simp <;> omega))
                     (exact fun ad e j u hu => cell_below (B := w3.heap.size) (by go_grown) (Nat.le_refl _) (cell_below HB03.out (Nat.le_refl _) (S5.out ad e j u hu)))
                     (exact zenc_one (w := w) fun z hz => HR.out.2.1 z (List.mem_of_mem_take hz))
                     (unfold maxLen; omega)
                     (omega)
                     (simp <;> omega)
                     intro v1 wA hown1 hg1
                     have hbA : Below w3.heap.size w3 wA := Below.grown (by go_grown) hg1 (by simp <;> omega) (fun j hj => by simp [Value.ownBlock] at hj; omega)
                     have hsA := hbA.size)
                  | (refine step_append_rd rfl (.tmp 64) (.tmp 77) _ rfl w3.heap.size 50 i0 _ 2 32 Tryz.underlying27 hi hz0 hz1 hz2 rfl (by decide) v1 m ((zs.take m).flatMap zenc) rfl
                       ?_ (some _) 1 1 (zenc (.slice a2 n2 c2, ps[k].1, canon x)) rfl (fun e => by cases e) rfl ?_ ?_ ?_ ?_ ?_ ?_
                     (first | exact (by simpa using hown1) | exact World.ownsRow.alloc (by simpa using hown1) _)
                     (first
                       | exact fun ad e j u hu => by injection e with e; subst e; exact World.news_of_block (cs := #[.slice a2 n2 c2, .float .f64 (canon x)]) (lit1 wA _) j u hu
                       | exact fun ad e j u hu => by injection e with e; subst e; exact World.news_of_block (cs := #[.slice a2 n2 c2, .float .f64 (canon x)]) (heap_new wA _) j u hu)
                     (intro u hu; simp [zenc] at hu; rcases hu with rfl | rfl <;> rfl)
                     (unfold maxLen; omega)
                     (omega)
                     (first | exact hsA | (simp; omega))
                     intro v2 wB hown2 hg2
                     have hbB : Below w3.heap.size w3 wB := Below.grown (by go_grown) hg2 (by first | exact hsA | (simp; omega)) (fun j hj => (hown1.lt j hj).1)
                     have hsB := hbB.size))
            all_goals
              have HBB := Lib.hid hbB
              clear hown1 hg1 hg2 hbA hbB hsA
              go_wp2_with (at_builtin; refine wpList_append_rd rfl _ _ 27 rfl w3.heap.size 50 i0 _ 2 32 Tryz.underlying27 hi hz0 hz1 hz2 rfl (by decide) v2 (m + 1) ((zs.take m).flatMap zenc ++ zenc (.slice a2 n2 c2, ps[k].1, canon x)) rfl hown2 a6 (k - m) c6 ((zs.drop m).flatMap zenc) rfl N6.out (by rw [flat_length zenc_len, List.length_drop, HZL.out]) (fun ad e j u hu => cell_below HBB.out (Nat.le_refl _) (cell_below HB03.out (Nat.le_refl _) (S6.out ad e j u hu))) (zenc_one (w := w) fun z hz => HR.out.2.1 z (List.mem_of_mem_drop hz)) (by unfold maxLen; omega) (by omega) hsB ?_)
              intro v3 w9 hown3 hg3
              have hbC : Below w3.heap.size w3 w9 := Below.grown HBB.out hg3 hsB (fun j hj => (hown2.lt j hj).1)
              have HC9 := Lib.hid (HB.out.trans ((HB03.out.trans (hbC.mono hz3)).mono hBz))
              have HO3 := Lib.hid (ownsRow_low hown3 (Nat.le_trans hBz hz3))
              clear hown2 hown3 hg3 hbC hsB
              go_wp2_with fail
              go_roundw
              case rel =>
                refine ⟨k + 1, _, _, by omega, by go_num, rfl, ?_, HD.out, HC9.out⟩
                rw [← HX.out, List.flatMap_append, List.flatMap_cons]
                have := HO3.out
                rw [show m + 1 + (k - m) = k + 1 by omega] at this
                exact this
              case measure => simp [intOf]; omega
    · have hltz : ¬ (k : Int) < (ps.length : Int) := by omega
      obtain rfl : k = ps.length := by omega
      have HR2 := Lib.hid (show (∀ p ∈ ps, rightL p.1 = true) from fun p hp => by
        obtain ⟨j, hj, rfl⟩ := List.mem_iff_getElem.1 hp
        exact HR.out.2.2.2.2.2.2 j hj hj)
      have HP := Lib.hid (show (zs.map (fun z : ZPt => z.2)).Perm (ps.map canonP) by have := HR.out.2.2.1; rwa [List.take_of_length_le (Nat.le_refl _)] at this)
      have hzs : Sl zenc wr u4 zs := Sl.own zenc_len (by decide) hown
      have HVS := Lib.hid (vs_of hzs fun z hz => (HR.out.2.1 z hz).below HB.out (Nat.le_refl _))
      clear hown hzs
      cases dup with
      | true =>
        go_wp2_with fail
        go_ret2
        exact ⟨HB.out, .inr (.inl ⟨HR2.out, no_strict (HR.out.2.2.2.2.1 rfl) HP.out, rfl⟩)⟩
      | false =>
        go_wp2_with fail
        go_ret2
        exact ⟨HB.out, .inr (.inr ⟨HR2.out, _, _, HP.out, HR.out.2.2.2.2.2.1 rfl, rfl, HVS.out⟩)⟩
end Go.Proofs.YtogjcaakfnfapaaGreatDoor
namespace Go.Proofs.YtogjcaakfnfapaaGreatDoor
open Go Go.RowKit
set_option linter.unusedVariables false
set_option linter.unusedSimpArgs false
set_option maxRecDepth 100000
/-- How many numbers are at most k. -/
def leF (x y : Nat) : Bool := fo x y == some .lt || fo x y == some .eq
def cntP (k n : Nat) : Bool := leF (fenc ((n : Int) + 1)) k
def cntN (k len : Nat) : Nat := ((List.range len).takeWhile (cntP k)).length
theorem takeWhile_len {α : Type} (p : α → Bool) : ∀ (l : List α) (n : Nat), n ≤ l.length → (∀ j (h : j < l.length), j < n → p l[j] = true) → (∀ h : n < l.length, p l[n] = false) → (l.takeWhile p).length = n
  | [], n, h, _, _ => by simp at h; simp [h]
  | x :: r, 0, _, _, h2 => by
    have := h2 (by simp)
    simp at this
    simp [List.takeWhile_cons, this]
  | x :: r, n + 1, h, h1, h2 => by
    have h0 := h1 0 (by simp) (by omega)
    simp at h0
    rw [List.takeWhile_cons, if_pos h0, List.length_cons]
    congr 1
    exact takeWhile_len p r n (by simpa using h) (fun j hj hjn => by have := h1 (j + 1) (by simpa using hj) (by omega); simpa using this) (fun hn => by have := h2 (by simpa using hn); simpa using this)
theorem cntN_of {k n len : Nat} (h1 : ∀ j, j < n → cntP k j = true) (h2 : n ≤ len) (h3 : n < len → cntP k n = false) : cntN k len = n := by
  unfold cntN
  exact takeWhile_len _ _ n (by simpa using h2) (fun j hj hjn => by simpa using h1 j hjn) (fun hn => by simpa using h3 (by simpa using hn))
theorem Sl.upto {α : Type} {enc : α → List Value} {sz : Nat} (hsz : ∀ x, (enc x).length = sz) {w : World} {g o n cap : Nat} {xs : List α} (h : Sl enc w (.slice (some ⟨g, o, none⟩) n cap) xs) {k : Nat} (hk : k ≤ xs.length) : Sl enc w (.slice (some ⟨g, o, none⟩) k cap) (xs.take k) := by
  obtain ⟨a, c, e, hm, hn, hc⟩ := h
  injection e with e1 e2 e3
  subst e1 e2 e3
  refine ⟨_, _, by rw [List.length_take, Nat.min_eq_left hk], by rw [List.length_take, Nat.min_eq_left hk]; omega, (fun e => by cases e), fun hx => ?_⟩
  obtain ⟨b, off, e, hd⟩ := hc (fun e => hx (by rw [e]; simp))
  refine ⟨b, off, e, fun j u hu => hd j u ?_⟩
  rw [flatMap_take hsz, List.getElem?_take] at hu
  split at hu
  · exact hu
  · cases hu
end Go.Proofs.YtogjcaakfnfapaaGreatDoor
namespace Go.Proofs.YtogjcaakfnfapaaGreatDoor
open Go Go.RowKit
set_option linter.unusedVariables false
set_option linter.unusedSimpArgs false
set_option maxRecDepth 100000
def F1 : Nat := 4607182418800017408
/-- A group's value (what it is made one by Canon). -/
def oneF (op : Int) (vals : List Nat) : Nat := if op = 1 then fsum vals else if op = 2 then fenc vals.length else if op = 3 then least false vals else if op = 4 then least true vals else if op = 5 then cop .quo (fsum vals) (fenc vals.length) else F1
end Go.Proofs.YtogjcaakfnfapaaGreatDoor
namespace Go.Proofs.YtogjcaakfnfapaaGreatDoor
open Go Go.RowKit Go.Maps
open Go.ChangeMaps (setBlock heap_setBlock_same)
set_option linter.unusedVariables false
set_option linter.unusedSimpArgs false
set_option maxRecDepth 100000
/-- An element, as it lies. -/
def holdV (v : Value) : Option (DataW Value × List MemPlace) := some (.held v, [])
def kl (s : ByteArray) : Lit := .string s.data.toList
theorem kl_inj {s t : ByteArray} (h : kl s = kl t) : s = t := by
  unfold kl at h
  injection h with h
  exact ByteArray.ext (Array.toList_inj.1 h)
theorem kl_key (s : ByteArray) : WideAt.IsKeyLit (kl s) := by unfold kl; trivial
theorem str_keyed : Keyed Tryz.prog 9 := string_keyed Tryz.underlying9
theorem key_of {s : ByteArray} (h : s.size ≤ maxLen) : keyOf Tryz.prog 9 (.string s) = some (kl s) := Go.WideMaps.keyOf_string_mk Tryz.underlying9 h
def upd {β : Type} (f : ByteArray → β) (s : ByteArray) (b : β) : ByteArray → β := fun t => if t.toList = s.toList then b else f t
theorem ba_ext {s t : ByteArray} (h : s.toList = t.toList) : s = t := by
  have e : s.data.toList = t.data.toList := by simpa [ByteArray.toList_eq] using h
  exact ByteArray.ext (Array.toList_inj.1 e)
theorem upd_same {β : Type} (f : ByteArray → β) (s : ByteArray) (b : β) : upd f s b s = b := by simp [upd]
theorem upd_other {β : Type} (f : ByteArray → β) {s t : ByteArray} (b : β) (h : t ≠ s) : upd f s b t = f t := by
  unfold upd
  rw [if_neg (fun e => h (ba_ext e))]
/-- Block b is a map keyed by strings, of at most n entries: h: what is there; V: what lies at a key (z where there is nothing). -/
def MapV (w : World) (b n : Nat) (h : ByteArray → Bool) (V : ByteArray → Value) (z : Value) : Prop :=
  ∃ D : DataW Value, w.ownsMap Tryz.prog 9 holdV b n D ∧ (∀ s, has D (kl s) = h s) ∧ ∀ s, D.atKey (kl s) (.held z) = .held (V s)
section
variable {w w' : World} {b n : Nat} {h : ByteArray → Bool} {V : ByteArray → Value} {z : Value}
theorem MapV.made (w : World) (z : Value) : MapV (w.alloc (.map #[] 0)) w.heap.size 0 (fun _ => false) (fun _ => z) z :=
  ⟨.map [], World.ownsMap_made _ _ _ _, fun _ => rfl, fun _ => rfl⟩
theorem MapV.mono (H : MapV w b n h V z) {n' : Nat} (hn : n ≤ n') : MapV w b n' h V z := by
  obtain ⟨D, h1, h2, h3⟩ := H
  exact ⟨D, h1.mono hn, h2, h3⟩
theorem MapV.lt (H : MapV w b n h V z) : b < w.heap.size := by obtain ⟨D, h1, h2, h3⟩ := H; exact h1.lt
theorem MapV.kept {row : Option Nat} (H : MapV w b n h V z) (hg : w.grownBy w' row) (hne : some b ≠ row) : MapV w' b n h V z := by
  obtain ⟨D, h1, h2, h3⟩ := H
  exact ⟨D, h1.kept hg hne, h2, h3⟩
theorem MapV.below {B : Nat} (H : MapV w b n h V z) (hb : Below B w w') (hB : w.heap.size ≤ B) : MapV w' b n h V z :=
  H.kept (row := none) ⟨hb.os, hb.tape, hb.output, hb.size, fun i hi _ => hb.block i (Nat.lt_of_lt_of_le hi hB)⟩ (by simp)
/-- The map's block is no block of cells. -/
theorem MapV.notCells (H : MapV w b n h V z) {cs : Array Value} {t : TypeId} {c : Nat × Nat} {g : Nat} (hg : w.heap[g]? = some (.cells cs t c)) : g ≠ b := by
  rintro rfl
  obtain ⟨D, ⟨es, clock, hb, _⟩, _⟩ := H
  rw [hb] at hg
  cases hg
theorem MapV.look (H : MapV w b n h V z) {t e : TypeId} (ht : Tryz.prog.underlying t = some (.map 9 e)) (hz : (zeroValue e).run Tryz.prog w = .ok z w) {s : ByteArray} (hs : s.size ≤ maxLen) :
    (Instr.lookup t (.map (some b)) (.string s) false).run Tryz.prog w = .ok (V s) w := by
  obtain ⟨D, h1, h2, h3⟩ := H
  obtain ⟨v, ps, hr, hv⟩ := h1.lookup str_keyed ht hz (zd := .held z) (zp := []) rfl (key_of hs)
  rw [h3 s] at hv
  simp only [holdV] at hv
  injection hv with hv
  injection hv with hv _
  injection hv with hv
  rw [hr, hv]
theorem MapV.lookOk (H : MapV w b n h V z) {t e : TypeId} (ht : Tryz.prog.underlying t = some (.map 9 e)) (hz : (zeroValue e).run Tryz.prog w = .ok z w) {s : ByteArray} (hs : s.size ≤ maxLen) :
    (Instr.lookup t (.map (some b)) (.string s) true).run Tryz.prog w = .ok (.tuple #[V s, .bool (h s)]) w := by
  obtain ⟨D, h1, h2, h3⟩ := H
  obtain ⟨v, ps, hr, hv⟩ := h1.look_ok str_keyed ht hz (zd := .held z) (zp := []) rfl (key_of hs)
  rw [h3 s] at hv
  simp only [holdV] at hv
  injection hv with hv
  injection hv with hv _
  injection hv with hv
  rw [hr, hv, h2]
theorem MapV.put (H : MapV w b n h V z) {t e : TypeId} (ht : Tryz.prog.underlying t = some (.map 9 e)) (hn : n < maxLen) {s : ByteArray} (hs : s.size ≤ maxLen) (v : Value) :
    ∃ w', (Instr.mapUpdate t (.map (some b)) (.string s) v).run Tryz.prog w = .ok () w' ∧ MapV w' b (n + 1) (upd h s true) (upd V s v) z ∧ w.grownBy w' (some b) := by
  obtain ⟨D, h1, h2, h3⟩ := H
  obtain ⟨w', hr, h4, h5⟩ := h1.update str_keyed ht hn (val := v) (d := .held v) (ps := []) (key_of hs) rfl
  refine ⟨w', hr, ⟨_, h4, fun t => ?_, fun t => ?_⟩, h5⟩
  · by_cases e : t = s
    · subst e
      rw [upd_same, has_put_same h1.isMap (kl_key _)]
    · rw [upd_other _ _ e, has_put_other (fun q => e (kl_inj q)), h2]
  · by_cases e : t = s
    · subst e
      rw [upd_same, atKey_put_same h1.isMap (kl_key _)]
    · rw [upd_other _ _ e, atKey_put_other (fun q => e (kl_inj q)), h3]
end
/-- The operations, by their runs. -/
theorem wpList_lookup_of {P : Program} (w : World) {ops : Array Oper} {rest : List Oper} {o : Oper} {a : Act} {Q : Exit → Act → World → Prop}
    (hg : o.guard = none) (m x : Operand) (t : TypeId) (c : Bool) (hop : o.op = Op.lookup t m x c) (mv key v : Value) (hm : a.eval m = mv) (hx : a.eval x = key) (hrun : (Instr.lookup t mv key c).run P w = .ok v w)
    (hK : wpList P ops Q rest (a.put o.dst v) w) : wpList P ops Q (o :: rest) a w := by
  refine wpList_plain hg fun K' hK' => ?_
  unfold Oper.wp
  simp [execOp, hop, hm, hx, hrun, Result.andThen]
  exact hK' _ _ hK
theorem wpList_mapUpdate_of {P : Program} (w : World) {ops : Array Oper} {rest : List Oper} {o : Oper} {a : Act} {Q : Exit → Act → World → Prop}
    (hg : o.guard = none) (m x u : Operand) (t : TypeId) (hop : o.op = Op.mapUpdate t m x u) (mv key v : Value) (hm : a.eval m = mv) (hx : a.eval x = key) (hu : a.eval u = v) {R : World → Prop} (hrun : ∃ w', (Instr.mapUpdate t mv key v).run P w = .ok () w' ∧ R w')
    (hK : ∀ w', R w' → wpList P ops Q rest (a.put o.dst undef) w') : wpList P ops Q (o :: rest) a w := by
  refine wpList_plain hg fun K' hK' => ?_
  obtain ⟨w', hr, h1⟩ := hrun
  unfold Oper.wp
  simp [execOp, hop, hm, hx, hu, hr, Result.andThen]
  exact hK' _ _ (hK _ h1)
/-- A map of rows of points: f s: the points at s. -/
structure GMap (w : World) (base b n : Nat) (f : ByteArray → List ZPt) (V : ByteArray → Value) : Prop where
  m : MapV w b n (fun s => !(f s).isEmpty) V (.slice none 0 0)
  hb : b < base
  r : ∀ s, w.ownsRow base 50 2 (V s) (f s).length ((f s).flatMap zenc)
  ap : ∀ s t, s ≠ t → (V s).ownBlock = none ∨ (V s).ownBlock ≠ (V t).ownBlock
section
variable {w w' : World} {base b n : Nat} {f : ByteArray → List ZPt} {V : ByteArray → Value}
theorem GMap.made (w : World) : GMap (w.alloc (.map #[] 0)) (w.heap.size + 1) w.heap.size 0 (fun _ => []) (fun _ => .slice none 0 0) :=
  ⟨MapV.made w _, Nat.lt_succ_self _, fun s => World.ownsRow_nil _ _ _ _, fun s t _ => .inl rfl⟩
theorem GMap.kept {row : Option Nat} (G : GMap w base b n f V) (hg : w.grownBy w' row) (hne : some b ≠ row) (hr : ∀ s, (V s).ownBlock = none ∨ (V s).ownBlock ≠ row) : GMap w' base b n f V :=
  ⟨G.m.kept hg hne, G.hb, fun s => (G.r s).kept hg (hr s), G.ap⟩
theorem GMap.below {B : Nat} (G : GMap w base b n f V) (hb : Below B w w') (hB : w.heap.size ≤ B) : GMap w' base b n f V :=
  G.kept (row := none) ⟨hb.os, hb.tape, hb.output, hb.size, fun i hi _ => hb.block i (Nat.lt_of_lt_of_le hi hB)⟩ (by simp) (fun s => by cases (V s).ownBlock <;> simp)
/-- A row of another type that grows. -/
theorem GMap.beside (G : GMap w base b n f V) {e : TypeId} {b2 m sz : Nat} {u : Value} {xs : List Value} (hu : w.ownsRow b2 e sz u m xs) (he : e ≠ 50) (hg : w.grownBy w' u.ownBlock) : GMap w' base b n f V := by
  refine G.kept hg (fun q => ?_) (fun s => ?_)
  · rcases hu.2 with ⟨rfl, -⟩ | ⟨k, cap, cur, rfl, -, hk, -⟩
    · cases q
    · injection q with q
      exact G.m.notCells hk q.symm
  · rcases (G.r s).2 with ⟨hv, -⟩ | ⟨k, cap, cur, hv, -, hk, -⟩
    · rw [hv]; exact .inl rfl
    · refine .inr (fun q => ?_)
      rcases hu.2 with ⟨rfl, -⟩ | ⟨k2, cap2, cur2, rfl, -, hk2, -⟩
      · rw [hv] at q; cases q
      · rw [hv] at q
        injection q with q
        simp only at q
        subst q
        rw [hk] at hk2
        injection hk2 with hk2
        injection hk2 with _ h2 _
        exact he h2.symm
/-- The store of a longer row at a key. -/
theorem GMap.put (G : GMap w base b n f V) {w1 : World} {s : ByteArray} (hs : s.size ≤ maxLen) (hn : n < maxLen) {v' : Value} {zs : List ZPt} (hne : zs ≠ []) (hg : w.grownBy w1 (V s).ownBlock)
    (ho : w1.ownsRow base 50 2 v' zs.length (zs.flatMap zenc)) (hat : v'.ownBlock = (V s).ownBlock ∨ ∃ g, v'.ownBlock = some g ∧ w.heap.size ≤ g) :
    ∃ w2, (Instr.mapUpdate 53 (.map (some b)) (.string s) v').run Tryz.prog w1 = .ok () w2 ∧ (GMap w2 base b (n + 1) (upd f s zs) (upd V s v') ∧ w1.grownBy w2 (some b)) := by
  have hbr : some b ≠ (V s).ownBlock := fun q => by
    have := ((G.r s).lt b q.symm).1
    have := G.hb
    omega
  have hm1 := G.m.kept hg hbr
  obtain ⟨w2, hr, h1, h2⟩ := hm1.put Tryz.underlying53 hn hs v'
  have keep2 : ∀ {u : Value} {m : Nat} {xs : List Value}, w1.ownsRow base 50 2 u m xs → w2.ownsRow base 50 2 u m xs := fun {u m xs} hu => by
    refine hu.kept h2 ?_
    cases hq : u.ownBlock with
    | none => exact .inl rfl
    | some g =>
      refine .inr (fun q => ?_)
      injection q with q
      have := (hu.lt g hq).1
      have := G.hb
      omega
  refine ⟨w2, hr, ⟨⟨?_, G.hb, fun t => ?_, fun t u htu => ?_⟩, h2⟩⟩
  · obtain ⟨D, k1, k2, k3⟩ := h1
    refine ⟨D, k1, fun t => ?_, k3⟩
    rw [k2 t]
    by_cases e : t = s
    · subst e; simp [upd_same, hne]
    · simp only [upd_other _ _ e]
  · by_cases e : t = s
    · subst e; rw [upd_same, upd_same]; exact keep2 ho
    · rw [upd_other _ _ e, upd_other _ _ e]
      exact keep2 ((G.r t).kept hg (G.ap t s e))
  · have old : ∀ t, t ≠ s → (V t).ownBlock = none ∨ (V t).ownBlock ≠ v'.ownBlock := fun t ht => by
      rcases hat with q | ⟨g, q, hge⟩
      · rw [q]; exact G.ap t s ht
      · cases hq : (V t).ownBlock with
        | none => exact .inl rfl
        | some k =>
          refine .inr (fun e => ?_)
          rw [q] at e
          injection e with e
          have := ((G.r t).lt k hq).2
          omega
    by_cases e : t = s
    · subst e
      rw [upd_same, upd_other _ _ (Ne.symm htu)]
      rcases old u (Ne.symm htu) with q | q
      · cases hq : v'.ownBlock with
        | none => exact .inl rfl
        | some k => exact .inr (by rw [q]; simp)
      · exact .inr (Ne.symm q)
    · rw [upd_other _ _ e]
      by_cases e2 : u = s
      · subst e2; rw [upd_same]; exact old t e
      · rw [upd_other _ _ e2]; exact G.ap t u htu
end
end Go.Proofs.YtogjcaakfnfapaaGreatDoor
