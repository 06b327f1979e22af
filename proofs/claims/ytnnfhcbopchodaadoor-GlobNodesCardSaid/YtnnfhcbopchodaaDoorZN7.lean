/- The library's stable sort at elements of k cells: swapRange, rotate. The library's stable sort at elements of k cells: symMerge where one part is a single element. The library's stable sort at elements of k cells: symMerge, whole. The library's stable sort at elements of k cells: symMerge, at every part. The library's stable sort at elements of k cells: the blocks, sorted by insertion. (Several texts in one file, by merge.py.) -/
import Derived.Test.YtnnfhcbopchodaaDoorZN6
import Derived.Deep.LoopGhost
import Derived.BigRegion
import Derived.Deep.DeepCutAuto
import Derived.Shelf.SlSortCmp.QuietGrown
namespace Go.Proofs.YtnnfhcbopchodaaDoor
open Go.Shelf Go.RowKit Go.Lib Go.Sort
set_option linter.unusedVariables false
set_option linter.unusedSimpArgs false
set_option maxRecDepth 100000

section
variable {α : Type} [Inhabited α] {enc : α → List Value}
set_option maxHeartbeats 4000000 in
theorem swapRange_Lb (k : Nat) (zE : ∀ w, (Go.sizeOf 88).run Tryd.prog w = .ok k w) (blk off cap a b n : Nat) (d0 d : Array α) (w0 w : World) (fv : Value)
    (R : RowK enc k w0 blk off d0) (hs : d0.size = d.size) (S : SWK enc k w0 blk off d w) (ha : a + n ≤ d.size) (hb : b + n ≤ d.size) (hsz : d.size < 4611686018427387904) :
    Calls Tryd.prog 107 #[.slice (some ⟨blk, off, none⟩) d.size cap, .int .i64 a, .int .i64 b, .int .i64 n, fv] w fun e w' => e = .returned (.tuple #[]) ∧ SWK enc k w0 blk off (swapFrom a b n 0 d) w' := by
  have S0 : Aside (SWK enc k w0 blk off d w) := S
  have mixed : Tryd.prog.follows .mixedOrders = true := by kernel_rfl
  clear S
  go_enter Tryd.func107, Tryd.ntmps107
  go_wp2_with fail
  go_loopg [10] n (fun g1 iv wr => ∃ (i : Nat) (dk : Array α), iv = .int .i64 i ∧ i ≤ n ∧ n - i ≤ g1 ∧ dk.size = d.size ∧ Aside (SWK enc k w0 blk off dk wr) ∧ Hid (swapFrom a b n i dk = swapFrom a b n 0 d))
  case atStart => exact ⟨0, d, rfl, by omega, by omega, rfl, S0, rfl⟩
  case round =>
    clear S0
    obtain ⟨i, dk, rfl, hi, hg, hds, S1, HE⟩ := hrel
    by_cases hlt : i < n
    · have hltz : (i : Int) < (n : Int) := by omega
      have ea : ((a : Int) + (i : Int)).toNat = a + i := by omega
      have pa : (0 : Int) ≤ (a : Int) + (i : Int) := by omega
      have ba : (a : Int) + (i : Int) < (d.size : Int) := by omega
      have ra : IntKind.i64.wrap ((a : Int) + (i : Int)) = (a : Int) + (i : Int) := by rw [IntKind.wrap_i64]; omega
      have ec : ((b : Int) + (i : Int)).toNat = b + i := by omega
      have pc : (0 : Int) ≤ (b : Int) + (i : Int) := by omega
      have bc : (b : Int) + (i : Int) < (d.size : Int) := by omega
      have rc : IntKind.i64.wrap ((b : Int) + (i : Int)) = (b : Int) + (i : Int) := by rw [IntKind.wrap_i64]; omega
      have S2 : Aside (SWK enc k w0 blk off (swp dk (a + i) (b + i)) ((wr.drew.setCells blk (off + (a + i) * k) (enc dk[b + i]!)).setCells blk (off + (b + i) * k) (enc dk[a + i]!))) := S1.out.swapped R (a + i) (b + i) (by omega) (by omega)
      have l1 := S1.out.ld1 R (by omega) Tryd.prog (a + i) (by omega)
      have l2 := S1.out.ld1 R (by omega) Tryd.prog (b + i) (by omega)
      have s1 := S1.out.st1 R (by omega) Tryd.prog (a + i) (by omega) dk[b + i]!
      have s2 := S1.out.st2 R (by omega) Tryd.prog (a + i) (b + i) (by omega) (by omega) dk[b + i]! dk[a + i]!
      have n1 : (enc dk[a + i]!).length = k := R.hk _
      have n2 : (enc dk[b + i]!).length = k := R.hk _
      generalize enc dk[a + i]! = cI at S2 l1 s2 n1
      generalize enc dk[b + i]! = cJ at S2 l2 s1 s2 n2
      clear S1
      go_wp2_with fail
      go_big_region_o
      clear l1 l2 s1 s2
      generalize (wr.drew.setCells blk (off + (a + i) * k) cJ).setCells blk (off + (b + i) * k) cI = w2 at S2 ⊢
      go_wp2_with fail
      go_roundg (n - (i + 1))
      case measure => omega
      case rel =>
        have he := HE.out
        rw [swapFrom, dif_pos hlt] at he
        exact ⟨i + 1, swp dk (a + i) (b + i), by simp, by omega, Nat.le_refl _, by rw [size_swp]; exact hds, S2, he⟩
    · obtain rfl : i = n := by omega
      go_wp2_with fail
      go_end0
      refine ⟨rfl, ?_⟩
      have he := HE.out
      rw [swapFrom, dif_neg (by omega)] at he
      rw [← he]
      exact S1.out

/-- A row of the sort's, its part from a to b turned at m. -/
def Turned (enc : α → List Value) (k : Nat) (w0 : World) (blk off a m b : Nat) (d : Array α) (w : World) : Prop := ∃ d', SWK enc k w0 blk off d' w ∧ d'.size = d.size ∧ PermIn a b d d' ∧ ∀ x, d'[x]! = rot a m b d x
def RotRel (enc : α → List Value) (k : Nat) (w0 : World) (blk off a m b : Nat) (d : Array α) (iv jv : Value) (wr : World) : Prop := ∃ (i j : Nat) (dk : Array α), iv = .int .i64 i ∧ jv = .int .i64 j ∧ 0 < i ∧ 0 < j ∧ a + i ≤ m ∧ m + j ≤ b ∧ dk.size = d.size ∧ SWK enc k w0 blk off dk wr ∧ PermIn a b d dk ∧ ∀ x, rot (m - i) m (m + j) dk x = rot a m b d x
set_option maxHeartbeats 4000000 in
theorem rotate_Lb (k : Nat) (zE : ∀ w, (Go.sizeOf 88).run Tryd.prog w = .ok k w) (blk off cap a m b : Nat) (d0 d : Array α) (w0 w : World) (fv : Value)
    (R : RowK enc k w0 blk off d0) (hs : d0.size = d.size) (S : SWK enc k w0 blk off d w) (ham : a < m) (hmb : m < b) (hb : b ≤ d.size) (hsz : d.size < 4611686018427387904) :
    Calls Tryd.prog 96 #[.slice (some ⟨blk, off, none⟩) d.size cap, .int .i64 a, .int .i64 m, .int .i64 b, fv] w fun e w' => e = .returned (.tuple #[]) ∧ Turned enc k w0 blk off a m b d w' := by
  have S0 : Aside (SWK enc k w0 blk off d w) := S
  have hsw := fun (x y n : Nat) (dk : Array α) (wk : World) (h : d0.size = dk.size) (hS : SWK enc k w0 blk off dk wk) (h1 : x + n ≤ dk.size) (h2 : y + n ≤ dk.size) (h3 : dk.size < 4611686018427387904) => swapRange_Lb k zE blk off cap x y n d0 dk w0 wk fv R h hS h1 h2 h3
  have HSW := Lib.hid hsw
  have HS := Lib.hid hs
  clear S hsw hs
  go_enter Tryd.func96, Tryd.ntmps96
  go_wp2_with fail
  go_loopw [10, 11] (fun iv jv wr => RotRel enc k w0 blk off a m b d iv jv wr) (fun iv jv _ => (intOf iv).toNat + (intOf jv).toNat)
  case atStart => exact ⟨m - a, b - m, d, by go_num, by go_num, by omega, by omega, by omega, by omega, rfl, S0.out, permIn_refl _ _ _, fun x => by rw [show m - (m - a) = a by omega, show m + (b - m) = b by omega]⟩
  case round =>
    clear S0
    obtain ⟨i, j, dk, rfl, rfl, hi, hj, hai, hjb, hds, hS, hP, hR⟩ := hrel
    have HSS := Lib.hid hS
    have HP := Lib.hid hP
    have HR := Lib.hid hR
    have HDS := Lib.hid hds
    have hmi : m - i + i = m := by omega
    have hm0 : (i : Int) ≤ (m : Int) := by omega
    have hb0 : (m : Int) + (j : Int) ≤ (d.size : Int) := by omega
    clear hS hP hR hds hmi
    by_cases h1 : j < i
    · have n1 : ((i : Int) == (j : Int)) = false := by simp; omega
      have n2 : (j : Int) < (i : Int) := by omega
      have HC := Lib.hid (show Calls Tryd.prog 107 #[.slice (some ⟨blk, off, none⟩) d.size cap, .int .i64 ((m : Int) - (i : Int)), .int .i64 m, .int .i64 j, fv] wr fun e w' => e = .returned (.tuple #[]) ∧ SWK enc k w0 blk off (swapFrom (m - i) m j 0 dk) w' by
        have h := HSW.out (m - i) m j dk wr (by rw [HDS.out]; exact HS.out) HSS.out (by have := HDS.out; omega) (by have := HDS.out; omega) (by have := HDS.out; omega)
        rw [show ((m - i : Nat) : Int) = (m : Int) - (i : Int) by omega, HDS.out] at h
        exact h)
      have hne : (i : Int) ≠ (j : Int) := by omega
      go_wp2_with fail
      refine HC.out.mono ?_
      rintro e w2 ⟨rfl, hs2⟩
      have HS2 := Lib.hid hs2
      clear hs2
      go_wp2_with fail
      go_roundw
      case rel =>
        exact ⟨i - j, j, swapFrom (m - i) m j 0 dk, by congr 1; omega, rfl, by omega, hj, by omega, hjb, by rw [swapFrom_size]; exact HDS.out, HS2.out,
          permIn_trans _ _ _ _ _ HP.out (swapFrom_perm (m - i) m j a b (by omega) (by omega) (by omega) (by omega) 0 dk (by have := HDS.out; omega)),
          fun x => (rot_more m i j dk (by omega) h1 hj (by have := HDS.out; omega) x).symm.trans (HR.out x)⟩
      case measure => simp [intOf]; omega
    · by_cases h2 : i < j
      · have n1 : ((i : Int) == (j : Int)) = false := by simp; omega
        have n2 : ¬ (j : Int) < (i : Int) := by omega
        have n3 : (i : Int) ≤ (j : Int) := by omega
        have HC := Lib.hid (show Calls Tryd.prog 107 #[.slice (some ⟨blk, off, none⟩) d.size cap, .int .i64 ((m : Int) - (i : Int)), .int .i64 ((m : Int) + (j : Int) - (i : Int)), .int .i64 i, fv] wr fun e w' => e = .returned (.tuple #[]) ∧ SWK enc k w0 blk off (swapFrom (m - i) (m + j - i) i 0 dk) w' by
          have h := HSW.out (m - i) (m + j - i) i dk wr (by rw [HDS.out]; exact HS.out) HSS.out (by have := HDS.out; omega) (by have := HDS.out; omega) (by have := HDS.out; omega)
          rw [show ((m - i : Nat) : Int) = (m : Int) - (i : Int) by omega, show ((m + j - i : Nat) : Int) = (m : Int) + (j : Int) - (i : Int) by omega, HDS.out] at h
          exact h)
        have hne : (i : Int) ≠ (j : Int) := by omega
        go_wp2_with fail
        refine HC.out.mono ?_
        rintro e w2 ⟨rfl, hs2⟩
        have HS2 := Lib.hid hs2
        clear hs2
        go_wp2_with fail
        go_roundw
        case rel =>
          exact ⟨i, j - i, swapFrom (m - i) (m + j - i) i 0 dk, rfl, by congr 1; omega, hi, by omega, hai, by omega, by rw [swapFrom_size]; exact HDS.out, HS2.out,
            permIn_trans _ _ _ _ _ HP.out (swapFrom_perm (m - i) (m + j - i) i a b (by omega) (by omega) (by omega) (by omega) 0 dk (by have := HDS.out; omega)),
            fun x => (rot_less m i j dk (by omega) h2 hi (by have := HDS.out; omega) x).symm.trans (HR.out x)⟩
        case measure => simp [intOf]; omega
      · obtain rfl : i = j := by omega
        have HC := Lib.hid (show Calls Tryd.prog 107 #[.slice (some ⟨blk, off, none⟩) d.size cap, .int .i64 ((m : Int) - (i : Int)), .int .i64 m, .int .i64 i, fv] wr fun e w' => e = .returned (.tuple #[]) ∧ SWK enc k w0 blk off (swapFrom (m - i) m i 0 dk) w' by
          have h := HSW.out (m - i) m i dk wr (by rw [HDS.out]; exact HS.out) HSS.out (by have := HDS.out; omega) (by have := HDS.out; omega) (by have := HDS.out; omega)
          rw [show ((m - i : Nat) : Int) = (m : Int) - (i : Int) by omega, HDS.out] at h
          exact h)
        clear h1 h2
        go_wp2_with fail
        refine HC.out.mono ?_
        rintro e w2 ⟨rfl, hs2⟩
        have HS2 := Lib.hid hs2
        clear hs2
        go_wp2_with fail
        go_end0
        exact ⟨rfl, swapFrom (m - i) m i 0 dk, HS2.out, by rw [swapFrom_size]; exact HDS.out,
          permIn_trans _ _ _ _ _ HP.out (swapFrom_perm (m - i) m i a b (by omega) (by omega) (by omega) (by omega) 0 dk (by have := HDS.out; omega)),
          fun x => (rot_end m i dk (by omega) (by have := HDS.out; omega) x).trans (HR.out x)⟩
end
end Go.Proofs.YtnnfhcbopchodaaDoor
namespace Go.Proofs.YtnnfhcbopchodaaDoor
open Go.Shelf Go.RowKit Go.Lib Go.Sort
set_option linter.unusedVariables false
set_option linter.unusedSimpArgs false
set_option maxRecDepth 100000

section
variable {α : Type} [Inhabited α] {enc : α → List Value}
def SrchA (enc : α → List Value) (k : Nat) (w0 : World) (blk off : Nat) (lt : α → α → Bool) (a m b : Nat) (d : Array α) (iv jv : Value) (wr : World) : Prop := ∃ i j : Nat, iv = .int .i64 i ∧ jv = .int .i64 j ∧ m ≤ i ∧ i ≤ j ∧ j ≤ b ∧ (i = m ∨ lt d[i - 1]! d[a]! = true) ∧ (j = b ∨ lt d[j]! d[a]! = false) ∧ SWK enc k w0 blk off d wr
def ShftA (enc : α → List Value) (k : Nat) (w0 : World) (blk off a i : Nat) (d : Array α) (kv : Value) (wr : World) : Prop := ∃ (q : Nat) (dk : Array α), kv = .int .i64 q ∧ a ≤ q ∧ q + 1 ≤ i ∧ dk.size = d.size ∧ PermIn a i d dk ∧ (∀ x, dk[x]! = if a ≤ x ∧ x < q then d[x + 1]! else if x = q then d[a]! else d[x]!) ∧ SWK enc k w0 blk off dk wr
/-- A row of the sort's, its part from a to b in order. -/
def Merged (enc : α → List Value) (k : Nat) (w0 : World) (blk off : Nat) (lt : α → α → Bool) (a b : Nat) (d : Array α) (w : World) : Prop := ∃ d', SWK enc k w0 blk off d' w ∧ d'.size = d.size ∧ PermIn a b d d' ∧ SortedIn lt a b d'
theorem shiftA_step {a i q : Nat} {d dk : Array α} (hq : a ≤ q) (hi : q + 1 < i) (his : i ≤ d.size) (hs : dk.size = d.size) (h : ∀ x, dk[x]! = if a ≤ x ∧ x < q then d[x + 1]! else if x = q then d[a]! else d[x]!) :
    ∀ x, (swp dk q (q + 1))[x]! = if a ≤ x ∧ x < q + 1 then d[x + 1]! else if x = q + 1 then d[a]! else d[x]! := by
  intro x
  by_cases c1 : x = q
  · subst c1
    rw [swp_left _ _ _ (by omega) (by omega), h, if_neg (by omega), if_neg (by omega), if_pos (by omega)]
  · by_cases c2 : x = q + 1
    · subst c2
      rw [swp_right _ _ _ (by omega), h, if_neg (by omega), if_pos rfl, if_neg (by omega), if_pos rfl]
    · rw [swp_other _ _ _ _ c1 c2, h]
      by_cases c3 : a ≤ x ∧ x < q
      · rw [if_pos c3, if_pos (by omega)]
      · rw [if_neg c3, if_neg c1, if_neg (by omega), if_neg c2]
theorem shiftA_rot {a i : Nat} {d dk : Array α} (hi : a + 1 ≤ i) (h : ∀ x, dk[x]! = if a ≤ x ∧ x < i - 1 then d[x + 1]! else if x = i - 1 then d[a]! else d[x]!) : ∀ x, dk[x]! = rot a (a + 1) i d x := by
  intro x
  rw [h, rot]
  repeat' split
  all_goals first | (exfalso; omega) | rfl | (congr 1; omega)
/-- What the way with one element ahead comes to. -/
theorem mergeA_end {lt : α → α → Bool} {a m b i : Nat} {d d1 : Array α} (hS : SWO lt) (hm : m = a + 1) (hmi : m ≤ i) (hib : i ≤ b) (hb : b ≤ d.size) (hsz : d1.size = d.size) (h2 : SortedIn lt m b d) (hlo : i = m ∨ lt d[i - 1]! d[a]! = true) (hhi : i = b ∨ lt d[i]! d[a]! = false) (hp : PermIn a i d d1) (hr : ∀ x, d1[x]! = rot a m i d x) :
    PermIn a b d d1 ∧ SortedIn lt a b d1 := by
  have h1 : SortedIn lt a m d := fun x y hx hxy hy => by omega
  obtain ⟨-, e2, -, e4, -, s2, s3, s4, hx⟩ := merge_turn hS (Nat.le_refl a) (by omega) hmi hib h1 h2 (.inl rfl) (by rcases hlo with h | h; exact .inr (.inl h); exact .inr (.inr h)) hr
  refine ⟨permIn_mono _ _ a i a b (Nat.le_refl _) hib (by omega) hp, sorted_join s2 (sorted_join s3 s4 ?_) hx⟩
  intro x y hx1 hx2 hy1 hy2
  rw [e4 x hx1 hx2, e2 y hy1 hy2]
  have hxa : x - (i - m) = a := by omega
  rw [hxa]
  rcases hhi with h | h
  · omega
  · exact hS.ntrans _ _ _ (sorted_le hS h2 (i := i) (j := y) (by omega) hy1 hy2) h

set_option maxHeartbeats 8000000 in
theorem mergeA_Lb (k : Nat) (zE : ∀ w, (Go.sizeOf 88).run Tryd.prog w = .ok k w) (g : Nat) (cb : Array Value) (eg : ∀ args w, (callFunc g args).run Tryd.prog w = .ok (.enter g args) w) (cf : α → α → Int) (blk off cap a m b : Nat) (d0 d : Array α) (w0 w : World)
    (R : RowK enc k w0 blk off d0) (hs : d0.size = d.size) (S : SWK enc k w0 blk off d w) (hC : CmpLays Tryd.prog g cb enc k cf blk off d0.size w0) (hS : SWO (ltOf cf)) (ham : m = a + 1) (hmb : m < b) (hb : b ≤ d.size) (hsz : d.size < 4611686018427387904) (h2 : SortedIn (ltOf cf) m b d) :
    Calls Tryd.prog 83 #[.slice (some ⟨blk, off, none⟩) d.size cap, .int .i64 a, .int .i64 m, .int .i64 b, .func (.func g) #[] cb] w fun e w' => e = .returned (.tuple #[]) ∧ Merged enc k w0 blk off (ltOf cf) a b d w' := by
  have S0 : Aside (SWK enc k w0 blk off d w) := S
  have mixed : Tryd.prog.follows .mixedOrders = true := by kernel_rfl
  have HC := Lib.hid hC
  have HSW := Lib.hid hS
  have HS := Lib.hid hs
  have HM := Lib.hid ham
  have H2 := Lib.hid h2
  have t1 : ((m : Int) - (a : Int) == 1) = true := by simp; omega
  have t2 : (m : Int) - (a : Int) = 1 := by omega
  have T2 := Lib.hid t2
  have ma : a < m := by omega
  clear S hC hS hs ham h2 t2
  go_enter Tryd.func83, Tryd.ntmps83
  go_wp2_with fail
  go_loopw [10, 11] (fun iv jv wr => SrchA enc k w0 blk off (ltOf cf) a m b d iv jv wr) (fun iv jv _ => (intOf jv).toNat - (intOf iv).toNat)
  case atStart => exact ⟨m, b, rfl, rfl, Nat.le_refl _, by omega, Nat.le_refl _, .inl rfl, .inl rfl, S0.out⟩
  case round =>
    clear S0
    obtain ⟨i, j, rfl, rfl, hmi, hij, hjb, hlo, hhi, hSr⟩ := hrel
    have S1 := Lib.hid hSr
    have HLO := Lib.hid hlo
    have HHI := Lib.hid hhi
    clear hSr hlo hhi
    by_cases hlt : i < j
    · have hltz : (i : Int) < (j : Int) := by omega
      have p0 : (0 : Int) ≤ ((i : Int) + (j : Int)) / 2 := by omega
      have p1 : ((i : Int) + (j : Int)) / 2 < (d.size : Int) := by omega
      have p2 : (((i : Int) + (j : Int)) / 2).toNat = (i + j) / 2 := by omega
      have p3 : (a : Int) < (d.size : Int) := by omega
      have p4 : (0 : Int) ≤ (a : Int) := by omega
      obtain ⟨xh, hxh⟩ : ∃ x, d[(i + j) / 2]! = x := ⟨_, rfl⟩
      obtain ⟨xa, hxa⟩ : ∃ x, d[a]! = x := ⟨_, rfl⟩
      have lj := fun n' os' => S1.out.ld R HS.out.symm Tryd.prog ((i + j) / 2) (by omega) n' os'
      have lp := fun n' os' => S1.out.ld R HS.out.symm Tryd.prog a (by omega) n' os'
      rw [hxh] at lj
      rw [hxa] at lp
      have hcg := fun n' os' => S1.out.cmp HC.out HS.out.symm xh xa n' os'
      have HXH := Lib.hid hxh
      have HXA := Lib.hid hxa
      clear hxh hxa
      by_cases hlv : cf xh xa < 0
      · go_wp2_with fail
        go_quiet_grown (first | (go_at_fn g; refine Calls.grown_of (hcg _ _)))
        go_wp2_with fail
        go_roundw
        case rel => exact ⟨(i + j) / 2 + 1, j, by congr 1, rfl, by omega, by omega, hjb, .inr (by rw [show (i + j) / 2 + 1 - 1 = (i + j) / 2 by omega, HXH.out, HXA.out]; simpa [ltOf] using hlv), HHI.out, S1.out.grown nq osq⟩
        case measure => simp [intOf]; omega
      · have hlv2 : 0 ≤ cf xh xa := by omega
        clear hlv
        go_wp2_with fail
        go_quiet_grown (first | (go_at_fn g; refine Calls.grown_of (hcg _ _)))
        go_wp2_with fail
        go_roundw
        case rel => exact ⟨i, (i + j) / 2, rfl, by congr 1, hmi, by omega, by omega, HLO.out, .inr (by rw [HXH.out, HXA.out]; simp [ltOf]; omega), S1.out.grown nq osq⟩
        case measure => simp [intOf]; omega
    · obtain rfl : i = j := by omega
      have hltz : ¬ (i : Int) < (i : Int) := by omega
      clear hlt
      go_wp2_with fail
      obtain ⟨wo, hwo⟩ : ∃ wo, wo = wr := ⟨_, rfl⟩
      rw [← hwo] at S1 ⊢
      clear hwo
      go_loopw [13] (fun kv wk => ShftA enc k w0 blk off a i d kv wk) (fun kv _ => i - (intOf kv).toNat)
      case atStart => exact ⟨a, d, rfl, Nat.le_refl _, by have := HM.out; omega, rfl, permIn_refl _ _ _, fun x => by split; omega; split; (subst_vars; rfl); rfl, S1.out⟩
      case round =>
        obtain ⟨q, dk, rfl, haq, hqi, hds, hP, hX, hSk⟩ := hrel
        have S2 := Lib.hid hSk
        have HP := Lib.hid hP
        have HX := Lib.hid hX
        have HDS := Lib.hid hds
        clear hSk hP hX hds S1
        by_cases hq : q + 1 < i
        · have hqz : (q : Int) < (i : Int) - 1 := by omega
          have hz1 : dk.size = d.size := HDS.out
          have ea : ((q : Int)).toNat = q := by omega
          have pa : (0 : Int) ≤ (q : Int) := by omega
          have ba : (q : Int) < (d.size : Int) := by omega
          have ec : ((q : Int) + 1).toNat = q + 1 := by omega
          have pc : (0 : Int) ≤ (q : Int) + 1 := by omega
          have bc : (q : Int) + 1 < (d.size : Int) := by omega
          have rc : IntKind.i64.wrap ((q : Int) + 1) = (q : Int) + 1 := by rw [IntKind.wrap_i64]; omega
          have S3 : Aside (SWK enc k w0 blk off (swp dk q (q + 1)) ((wr.drew.setCells blk (off + q * k) (enc dk[q + 1]!)).setCells blk (off + (q + 1) * k) (enc dk[q]!))) := S2.out.swapped R q (q + 1) (by omega) (by omega)
          have l1 := S2.out.ld1 R (by have := HS.out; omega) Tryd.prog q (by omega)
          have l2 := S2.out.ld1 R (by have := HS.out; omega) Tryd.prog (q + 1) (by omega)
          have s1 := S2.out.st1 R (by have := HS.out; omega) Tryd.prog q (by omega) dk[q + 1]!
          have s2 := S2.out.st2 R (by have := HS.out; omega) Tryd.prog q (q + 1) (by omega) (by omega) dk[q + 1]! dk[q]!
          have n1 : (enc dk[q]!).length = k := R.hk _
          have n2 : (enc dk[q + 1]!).length = k := R.hk _
          generalize enc dk[q]! = cI at S3 l1 s2 n1
          generalize enc dk[q + 1]! = cJ at S3 l2 s1 s2 n2
          have HQ := Lib.hid hq
          clear S2 hz1 hq
          go_wp2_with fail
          go_big_region_o
          clear l1 l2 s1 s2
          generalize (wr.drew.setCells blk (off + q * k) cJ).setCells blk (off + (q + 1) * k) cI = w2 at S3 ⊢
          go_wp2_with fail
          go_roundw
          case rel => exact ⟨q + 1, swp dk q (q + 1), by go_num, by omega, by have := HQ.out; omega, by rw [size_swp]; exact HDS.out, permIn_trans _ _ _ _ _ HP.out (swp_permIn dk a i q (q + 1) (by omega) (by omega) (by omega) (by have := HQ.out; omega) (by have := HDS.out; omega)), shiftA_step haq HQ.out (by omega) HDS.out HX.out, S3.out⟩
          case measure => simp [intOf]; omega
        · have hqz : ¬ (q : Int) < (i : Int) - 1 := by omega
          have hqi2 : i ≤ q + 1 := by omega
          clear hq
          go_wp2_with fail
          refine bodyPost_ret (v := .tuple #[]) (results_none rfl _ _ _) rfl ?_
          obtain rfl : q = i - 1 := by omega
          have hM := HM.out
          have hX2 := shiftA_rot (by omega) HX.out
          rw [← hM] at hX2
          have hlo2 := HLO.out
          have hhi2 := HHI.out
          obtain ⟨r1, r2⟩ := mergeA_end HSW.out hM hmi hjb hb HDS.out H2.out hlo2 hhi2 HP.out hX2
          exact ⟨rfl, dk, S2.out, HDS.out, r1, r2⟩

def SrchB (enc : α → List Value) (k : Nat) (w0 : World) (blk off : Nat) (lt : α → α → Bool) (a m : Nat) (d : Array α) (iv jv : Value) (wr : World) : Prop := ∃ i j : Nat, iv = .int .i64 i ∧ jv = .int .i64 j ∧ a ≤ i ∧ i ≤ j ∧ j ≤ m ∧ (i = a ∨ lt d[m]! d[i - 1]! = false) ∧ (j = m ∨ lt d[m]! d[j]! = true) ∧ SWK enc k w0 blk off d wr
def ShftB (enc : α → List Value) (k : Nat) (w0 : World) (blk off m i : Nat) (d : Array α) (kv : Value) (wr : World) : Prop := ∃ (q : Nat) (dk : Array α), kv = .int .i64 q ∧ i ≤ q ∧ q ≤ m ∧ dk.size = d.size ∧ PermIn i (m + 1) d dk ∧ (∀ x, dk[x]! = if q < x ∧ x ≤ m then d[x - 1]! else if x = q then d[m]! else d[x]!) ∧ SWK enc k w0 blk off dk wr
theorem shiftB_step {m q : Nat} {d dk : Array α} (hq : q + 1 ≤ m) (his : m < d.size) (hs : dk.size = d.size) (h : ∀ x, dk[x]! = if q + 1 < x ∧ x ≤ m then d[x - 1]! else if x = q + 1 then d[m]! else d[x]!) :
    ∀ x, (swp dk (q + 1) q)[x]! = if q < x ∧ x ≤ m then d[x - 1]! else if x = q then d[m]! else d[x]! := by
  intro x
  by_cases c1 : x = q + 1
  · subst c1
    rw [swp_left _ _ _ (by omega) (by omega), h, if_neg (by omega), if_neg (by omega), if_pos (by omega)]
    rfl
  · by_cases c2 : x = q
    · subst c2
      rw [swp_right _ _ _ (by omega), h, if_neg (by omega), if_pos rfl, if_neg (by omega), if_pos rfl]
    · rw [swp_other _ _ _ _ c1 c2, h]
      by_cases c3 : q + 1 < x ∧ x ≤ m
      · rw [if_pos c3, if_pos (by omega)]
      · rw [if_neg c3, if_neg c1, if_neg (by omega), if_neg c2]
theorem shiftB_rot {m i : Nat} {d dk : Array α} (hi : i ≤ m) (h : ∀ x, dk[x]! = if i < x ∧ x ≤ m then d[x - 1]! else if x = i then d[m]! else d[x]!) : ∀ x, dk[x]! = rot i m (m + 1) d x := by
  intro x
  rw [h, rot]
  repeat' split
  all_goals first | (exfalso; omega) | rfl | (congr 1; omega)
theorem mergeB_end {lt : α → α → Bool} {a m b i : Nat} {d d1 : Array α} (hS : SWO lt) (ham : a < m) (hmb : b = m + 1) (hai : a ≤ i) (him : i ≤ m) (hb : b ≤ d.size) (hsz : d1.size = d.size) (h1 : SortedIn lt a m d) (hlo : i = a ∨ lt d[m]! d[i - 1]! = false) (hhi : i = m ∨ lt d[m]! d[i]! = true) (hp : PermIn i (m + 1) d d1) (hr : ∀ x, d1[x]! = rot i m (m + 1) d x) :
    PermIn a b d d1 ∧ SortedIn lt a b d1 := by
  subst hmb
  have h2 : SortedIn lt m (m + 1) d := fun x y hx hxy hy => by omega
  obtain ⟨e1, -, e3, -, s1, s2, s3, -, hx⟩ := merge_turn hS hai him (Nat.le_succ m) (Nat.le_refl _) h1 h2 (.inr (.inl rfl)) (by rcases hhi with h | h; exact .inl h; exact .inr (.inr h)) hr
  rw [show i + (m + 1 - m) = i + 1 by omega] at s2 s3 hx e3
  refine ⟨permIn_mono _ _ i (m + 1) a (m + 1) hai (Nat.le_refl _) hb hp, sorted_join (sorted_join s1 s2 ?_) s3 hx⟩
  intro x y hx1 hx2 hy1 hy2
  rw [e1 x hx1 hx2, e3 y hy1 hy2, show y - i + m = m by omega]
  rcases hlo with h | h
  · omega
  · exact hS.ntrans _ _ _ h (sorted_le hS h1 (i := x) (j := i - 1) hx1 (by omega) (by omega))

set_option maxHeartbeats 8000000 in
theorem mergeB_Lb (k : Nat) (zE : ∀ w, (Go.sizeOf 88).run Tryd.prog w = .ok k w) (g : Nat) (cb : Array Value) (eg : ∀ args w, (callFunc g args).run Tryd.prog w = .ok (.enter g args) w) (cf : α → α → Int) (blk off cap a m b : Nat) (d0 d : Array α) (w0 w : World)
    (R : RowK enc k w0 blk off d0) (hs : d0.size = d.size) (S : SWK enc k w0 blk off d w) (hC : CmpLays Tryd.prog g cb enc k cf blk off d0.size w0) (hS : SWO (ltOf cf)) (ham : a + 1 < m) (hmb : b = m + 1) (hb : b ≤ d.size) (hsz : d.size < 4611686018427387904) (h1 : SortedIn (ltOf cf) a m d) :
    Calls Tryd.prog 83 #[.slice (some ⟨blk, off, none⟩) d.size cap, .int .i64 a, .int .i64 m, .int .i64 b, .func (.func g) #[] cb] w fun e w' => e = .returned (.tuple #[]) ∧ Merged enc k w0 blk off (ltOf cf) a b d w' := by
  have S0 : Aside (SWK enc k w0 blk off d w) := S
  have mixed : Tryd.prog.follows .mixedOrders = true := by kernel_rfl
  have HC := Lib.hid hC
  have HSW := Lib.hid hS
  have HS := Lib.hid hs
  have HM := Lib.hid hmb
  have H1 := Lib.hid h1
  have t1 : ((m : Int) - (a : Int) == 1) = false := by simp; omega
  have t2 : ((b : Int) - (m : Int) == 1) = true := by simp; omega
  have t3 : (m : Int) - (a : Int) ≠ 1 := by omega
  have mb : m < b := by omega
  have mb2 : b ≤ m + 1 := by omega
  clear S hC hS hs hmb h1
  go_enter Tryd.func83, Tryd.ntmps83
  go_wp2_with fail
  go_loopw [14, 15] (fun iv jv wr => SrchB enc k w0 blk off (ltOf cf) a m d iv jv wr) (fun iv jv _ => (intOf jv).toNat - (intOf iv).toNat)
  case atStart => exact ⟨a, m, rfl, rfl, Nat.le_refl _, by omega, Nat.le_refl _, .inl rfl, .inl rfl, S0.out⟩
  case round =>
    clear S0
    obtain ⟨i, j, rfl, rfl, hai, hij, hjm, hlo, hhi, hSr⟩ := hrel
    have S1 := Lib.hid hSr
    have HLO := Lib.hid hlo
    have HHI := Lib.hid hhi
    clear hSr hlo hhi
    by_cases hlt : i < j
    · have hltz : (i : Int) < (j : Int) := by omega
      have p0 : (0 : Int) ≤ ((i : Int) + (j : Int)) / 2 := by omega
      have p1 : ((i : Int) + (j : Int)) / 2 < (d.size : Int) := by omega
      have p2 : (((i : Int) + (j : Int)) / 2).toNat = (i + j) / 2 := by omega
      have p3 : (m : Int) < (d.size : Int) := by omega
      have p4 : (0 : Int) ≤ (m : Int) := by omega
      obtain ⟨xh, hxh⟩ : ∃ x, d[(i + j) / 2]! = x := ⟨_, rfl⟩
      obtain ⟨xm, hxm⟩ : ∃ x, d[m]! = x := ⟨_, rfl⟩
      have lj := fun n' os' => S1.out.ld R HS.out.symm Tryd.prog ((i + j) / 2) (by omega) n' os'
      have lp := fun n' os' => S1.out.ld R HS.out.symm Tryd.prog m (by omega) n' os'
      rw [hxh] at lj
      rw [hxm] at lp
      have hcg := fun n' os' => S1.out.cmp HC.out HS.out.symm xm xh n' os'
      have HXH := Lib.hid hxh
      have HXM := Lib.hid hxm
      clear hxh hxm
      by_cases hlv : cf xm xh < 0
      · have hb1 : decide (cf xm xh < 0) = true := by simpa using hlv
        go_wp2_with fail
        go_quiet_grown (first | (go_at_fn g; refine Calls.grown_of (hcg _ _)))
        go_wp2_with fail
        go_roundw
        case rel => exact ⟨i, (i + j) / 2, rfl, by congr 1, hai, by omega, by omega, HLO.out, .inr (by rw [HXH.out, HXM.out]; simpa [ltOf] using hlv), S1.out.grown nq osq⟩
        case measure => simp [intOf]; omega
      · have hlv2 : 0 ≤ cf xm xh := by omega
        have hb1 : decide (cf xm xh < 0) = false := by simp; omega
        clear hlv
        go_wp2_with fail
        go_quiet_grown (first | (go_at_fn g; refine Calls.grown_of (hcg _ _)))
        go_wp2_with fail
        go_roundw
        case rel => exact ⟨(i + j) / 2 + 1, j, by congr 1, rfl, by omega, by omega, hjm, .inr (by rw [show (i + j) / 2 + 1 - 1 = (i + j) / 2 by omega, HXH.out, HXM.out]; simp [ltOf]; omega), HHI.out, S1.out.grown nq osq⟩
        case measure => simp [intOf]; omega
    · obtain rfl : i = j := by omega
      have hltz : ¬ (i : Int) < (i : Int) := by omega
      clear hlt
      go_wp2_with fail
      obtain ⟨wo, hwo⟩ : ∃ wo, wo = wr := ⟨_, rfl⟩
      rw [← hwo] at S1 ⊢
      clear hwo
      go_loopw [17] (fun kv wk => ShftB enc k w0 blk off m i d kv wk) (fun kv _ => (intOf kv).toNat)
      case atStart => exact ⟨m, d, rfl, hjm, Nat.le_refl _, rfl, permIn_refl _ _ _, fun x => by split; omega; split; (subst_vars; rfl); rfl, S1.out⟩
      case round =>
        obtain ⟨q, dk, rfl, hiq, hqm, hds, hP, hX, hSk⟩ := hrel
        have S2 := Lib.hid hSk
        have HP := Lib.hid hP
        have HX := Lib.hid hX
        have HDS := Lib.hid hds
        clear hSk hP hX hds S1
        by_cases hq : i < q
        · obtain ⟨q, rfl⟩ : ∃ n, q = n + 1 := ⟨q - 1, by omega⟩
          have hqz : (i : Int) < (q : Int) + 1 := by omega
          have hz1 : dk.size = d.size := HDS.out
          have ea : ((q : Int)).toNat = q := by omega
          have pa : (0 : Int) ≤ (q : Int) := by omega
          have ba : (q : Int) < (d.size : Int) := by omega
          have ra : IntKind.i64.wrap (q : Int) = (q : Int) := by rw [IntKind.wrap_i64]; omega
          have ec : ((q : Int) + 1).toNat = q + 1 := by omega
          have pc : (0 : Int) ≤ (q : Int) + 1 := by omega
          have bc : (q : Int) + 1 < (d.size : Int) := by omega
          have S3 : Aside (SWK enc k w0 blk off (swp dk (q + 1) q) ((wr.drew.setCells blk (off + (q + 1) * k) (enc dk[q]!)).setCells blk (off + q * k) (enc dk[q + 1]!))) := S2.out.swapped R (q + 1) q (by omega) (by omega)
          have l1 := S2.out.ld1 R (by have := HS.out; omega) Tryd.prog q (by omega)
          have l2 := S2.out.ld1 R (by have := HS.out; omega) Tryd.prog (q + 1) (by omega)
          have s1 := S2.out.st1 R (by have := HS.out; omega) Tryd.prog (q + 1) (by omega) dk[q]!
          have s2 := S2.out.st2 R (by have := HS.out; omega) Tryd.prog (q + 1) q (by omega) (by omega) dk[q]! dk[q + 1]!
          have n1 : (enc dk[q]!).length = k := R.hk _
          have n2 : (enc dk[q + 1]!).length = k := R.hk _
          generalize enc dk[q]! = cI at S3 l1 s1 s2 n1
          generalize enc dk[q + 1]! = cJ at S3 l2 s2 n2
          have HQ := Lib.hid hq
          have HQM := Lib.hid hqm
          clear S2 hz1 hq hqm
          go_wp2_with fail
          go_big_region_o
          clear l1 l2 s1 s2
          generalize (wr.drew.setCells blk (off + (q + 1) * k) cI).setCells blk (off + q * k) cJ = w2 at S3 ⊢
          go_wp2_with fail
          go_roundw
          case rel => exact ⟨q, swp dk (q + 1) q, rfl, by have := HQ.out; omega, by have := HQM.out; omega, by rw [size_swp]; exact HDS.out, permIn_trans _ _ _ _ _ HP.out (swp_permIn dk i (m + 1) (q + 1) q (by have := HQ.out; omega) (by have := HQM.out; omega) (by have := HQ.out; omega) (by have := HQM.out; omega) (by have := HDS.out; omega)), shiftB_step HQM.out (by omega) HDS.out HX.out, S3.out⟩
          case measure => first | (simp [intOf]; done) | (simp [intOf]; omega)
        · have hqz : ¬ (i : Int) < (q : Int) := by omega
          have hqi2 : q ≤ i := by omega
          clear hq
          go_wp2_with fail
          refine bodyPost_ret (v := .tuple #[]) (results_none rfl _ _ _) rfl ?_
          obtain rfl : q = i := by omega
          have hX2 := shiftB_rot hjm HX.out
          obtain ⟨r1, r2⟩ := mergeB_end HSW.out (by omega) HM.out hai hjm hb HDS.out H1.out HLO.out HHI.out HP.out hX2
          exact ⟨rfl, dk, S2.out, HDS.out, r1, r2⟩
end
end Go.Proofs.YtnnfhcbopchodaaDoor
namespace Go.Proofs.YtnnfhcbopchodaaDoor
open Go.Shelf Go.RowKit Go.Lib Go.Sort
set_option linter.unusedVariables false
set_option linter.unusedSimpArgs false
set_option maxRecDepth 100000

section
variable {α : Type} [Inhabited α] {enc : α → List Value}
def SrchC (enc : α → List Value) (k : Nat) (w0 : World) (blk off : Nat) (lt : α → α → Bool) (lo hi n : Nat) (d : Array α) (iv jv : Value) (wr : World) : Prop := ∃ i j : Nat, iv = .int .i64 i ∧ jv = .int .i64 j ∧ lo ≤ i ∧ i ≤ j ∧ j ≤ hi ∧ (i = lo ∨ lt d[n - i]! d[i - 1]! = false) ∧ (j = hi ∨ lt d[n - 1 - j]! d[j]! = true) ∧ SWK enc k w0 blk off d wr
/-- The bounds of the merge's search. -/
def Bnds (a m b mid lo hi : Nat) : Prop := a ≤ lo ∧ lo ≤ hi ∧ hi ≤ m ∧ hi ≤ mid ∧ mid + m ≤ b + lo ∧ (lo = a ∨ lo + b = mid + m) ∧ (hi = m ∨ hi = mid)

set_option maxHeartbeats 16000000 in
theorem mergeC_Lb (k : Nat) (zE : ∀ w, (Go.sizeOf 88).run Tryd.prog w = .ok k w) (g : Nat) (cb : Array Value) (eg : ∀ args w, (callFunc g args).run Tryd.prog w = .ok (.enter g args) w) (cf : α → α → Int) (blk off cap a m b : Nat) (d0 d : Array α) (w0 w : World)
    (R : RowK enc k w0 blk off d0) (hs : d0.size = d.size) (S : SWK enc k w0 blk off d w) (hC : CmpLays Tryd.prog g cb enc k cf blk off d0.size w0) (hS : SWO (ltOf cf)) (ham : a + 1 < m) (hmb : m + 1 < b) (hb : b ≤ d.size) (hsz : d.size < 4611686018427387904) (h1 : SortedIn (ltOf cf) a m d) (h2 : SortedIn (ltOf cf) m b d)
    (hrec : ∀ (a' m' b' : Nat) (d' : Array α) (w' : World), b' - a' < b - a → d'.size = d.size → SWK enc k w0 blk off d' w' → a' < m' → m' < b' → b' ≤ d.size → SortedIn (ltOf cf) a' m' d' → SortedIn (ltOf cf) m' b' d' →
      Calls Tryd.prog 83 #[.slice (some ⟨blk, off, none⟩) d.size cap, .int .i64 a', .int .i64 m', .int .i64 b', .func (.func g) #[] cb] w' fun e w2 => e = .returned (.tuple #[]) ∧ Merged enc k w0 blk off (ltOf cf) a' b' d' w2) :
    Calls Tryd.prog 83 #[.slice (some ⟨blk, off, none⟩) d.size cap, .int .i64 a, .int .i64 m, .int .i64 b, .func (.func g) #[] cb] w fun e w' => e = .returned (.tuple #[]) ∧ Merged enc k w0 blk off (ltOf cf) a b d w' := by
  have S0 : Aside (SWK enc k w0 blk off d w) := S
  have mixed : Tryd.prog.follows .mixedOrders = true := by kernel_rfl
  have HC := Lib.hid hC
  have HSW := Lib.hid hS
  have HS := Lib.hid hs
  have H1 := Lib.hid h1
  have H2 := Lib.hid h2
  have HREC := Lib.hid hrec
  have t1 : ((m : Int) - (a : Int) == 1) = false := by simp; omega
  have t2 : ((b : Int) - (m : Int) == 1) = false := by simp; omega
  have t3 : (m : Int) - (a : Int) ≠ 1 := by omega
  have t4 : (b : Int) - (m : Int) ≠ 1 := by omega
  obtain ⟨mid, hmid⟩ : ∃ mid : Nat, (mid : Int) = ((a : Int) + (b : Int)) / 2 := ⟨(a + b) / 2, by omega⟩
  have hm1 : 2 * mid ≤ a + b := by omega
  have hm2 : a + b ≤ 2 * mid + 1 := by omega
  have HMID := Lib.hid hmid
  clear S hC hS hs h1 h2 hrec hmid
  go_enter Tryd.func83, Tryd.ntmps83
  by_cases hc : mid < m
  case' pos =>
    have hcz : ((a : Int) + (b : Int)) / 2 < (m : Int) := by have := HMID.out; omega
    have hcb : decide (((a : Int) + (b : Int)) / 2 < (m : Int)) = true := by simpa using hcz
    go_wp2_with fail
    rw [← HMID.out]
    obtain ⟨lo, elo⟩ : ∃ lo : Nat, lo = mid + m - b := ⟨_, rfl⟩
    obtain ⟨hi, ehi⟩ : ∃ hi : Nat, hi = mid := ⟨_, rfl⟩
    have HB : Hid (Bnds a m b mid lo hi) := by show Bnds _ _ _ _ _ _; unfold Bnds; omega
    have HLE : Hid ((lo : Int) = (mid : Int) + (m : Int) - (b : Int)) := by show _ = _; omega
    have HHE : Hid ((hi : Int) = (mid : Int)) := by show _ = _; omega
    clear elo ehi
  case' neg =>
    have hcz : ¬ ((a : Int) + (b : Int)) / 2 < (m : Int) := by have := HMID.out; omega
    have hcb : decide (((a : Int) + (b : Int)) / 2 < (m : Int)) = false := by simp only [decide_eq_false_iff_not]; exact hcz
    go_wp2_with fail
    rw [← HMID.out]
    obtain ⟨lo, elo⟩ : ∃ lo : Nat, lo = a := ⟨_, rfl⟩
    obtain ⟨hi, ehi⟩ : ∃ hi : Nat, hi = m := ⟨_, rfl⟩
    have HB : Hid (Bnds a m b mid lo hi) := by show Bnds _ _ _ _ _ _; unfold Bnds; omega
    have HLE : Hid ((lo : Int) = (a : Int)) := by show _ = _; omega
    have HHE : Hid ((hi : Int) = (m : Int)) := by show _ = _; omega
    clear elo ehi
  all_goals go_loopw [20, 21] (fun iv jv wr => SrchC enc k w0 blk off (ltOf cf) lo hi (mid + m) d iv jv wr) (fun iv jv _ => (intOf jv).toNat - (intOf iv).toNat)
  case atStart => exact ⟨lo, hi, by congr 1; exact HLE.out.symm, by congr 1; exact HHE.out.symm, Nat.le_refl _, HB.out.2.1, Nat.le_refl _, .inl rfl, .inl rfl, S0.out⟩
  case atStart => exact ⟨lo, hi, by congr 1; exact HLE.out.symm, by congr 1; exact HHE.out.symm, Nat.le_refl _, HB.out.2.1, Nat.le_refl _, .inl rfl, .inl rfl, S0.out⟩
  all_goals
    clear S0
    obtain ⟨i, j, rfl, rfl, hai, hij, hjm, hlo, hhi, hSr⟩ := hrel
    have S1 := Lib.hid hSr
    have HLO := Lib.hid hlo
    have HHI := Lib.hid hhi
    obtain ⟨b1, b2, b3, b4, b5, b6, b7⟩ := HB.out
    have B6 := Lib.hid b6
    have B7 := Lib.hid b7
    clear hSr hlo hhi b6 b7
  all_goals by_cases hlt : i < j
  case pos =>
      have hltz : (i : Int) < (j : Int) := by omega
      have p0 : (0 : Int) ≤ ((i : Int) + (j : Int)) / 2 := by omega
      have p1 : ((i : Int) + (j : Int)) / 2 < (d.size : Int) := by omega
      have p2 : (((i : Int) + (j : Int)) / 2).toNat = (i + j) / 2 := by omega
      have p3 : (0 : Int) ≤ (mid : Int) + (m : Int) - 1 - ((i : Int) + (j : Int)) / 2 := by omega
      have p7 : ((i : Int) + (j : Int)) / 2 ≤ (mid : Int) + (m : Int) - 1 := by omega
      have p4 : (mid : Int) + (m : Int) - 1 - ((i : Int) + (j : Int)) / 2 < (d.size : Int) := by omega
      have p5 : ((mid : Int) + (m : Int) - 1 - ((i : Int) + (j : Int)) / 2).toNat = mid + m - 1 - (i + j) / 2 := by omega
      have p6 : IntKind.i64.wrap ((mid : Int) + (m : Int) - 1 - ((i : Int) + (j : Int)) / 2) = (mid : Int) + (m : Int) - 1 - ((i : Int) + (j : Int)) / 2 := by rw [IntKind.wrap_i64]; omega
      obtain ⟨xc, hxc⟩ : ∃ x, d[(i + j) / 2]! = x := ⟨_, rfl⟩
      obtain ⟨xp, hxp⟩ : ∃ x, d[mid + m - 1 - (i + j) / 2]! = x := ⟨_, rfl⟩
      have lj := fun n' os' => S1.out.ld R HS.out.symm Tryd.prog ((i + j) / 2) (by omega) n' os'
      have lp := fun n' os' => S1.out.ld R HS.out.symm Tryd.prog (mid + m - 1 - (i + j) / 2) (by omega) n' os'
      rw [hxc] at lj
      rw [hxp] at lp
      have hcg := fun n' os' => S1.out.cmp HC.out HS.out.symm xp xc n' os'
      have HXC := Lib.hid hxc
      have HXP := Lib.hid hxp
      clear hxc hxp
      by_cases hlv : cf xp xc < 0
      · have hb1 : decide (cf xp xc < 0) = true := by simpa using hlv
        go_wp2_with fail
        go_quiet_grown (first | (go_at_fn g; refine Calls.grown_of (hcg _ _)))
        go_wp2_with fail
        go_roundw
        case rel => exact ⟨i, (i + j) / 2, rfl, by congr 1, hai, by omega, by omega, HLO.out, .inr (by rw [HXC.out, HXP.out]; simpa [ltOf] using hlv), S1.out.grown nq osq⟩
        case measure => simp [intOf]; omega
      · have hlv2 : 0 ≤ cf xp xc := by omega
        have hb1 : decide (cf xp xc < 0) = false := by simp; omega
        clear hlv
        go_wp2_with fail
        go_quiet_grown (first | (go_at_fn g; refine Calls.grown_of (hcg _ _)))
        go_wp2_with fail
        go_roundw
        case rel => exact ⟨(i + j) / 2 + 1, j, by congr 1, rfl, by omega, by omega, hjm, .inr (by rw [show (i + j) / 2 + 1 - 1 = (i + j) / 2 by omega, show mid + m - ((i + j) / 2 + 1) = mid + m - 1 - (i + j) / 2 by omega, HXC.out, HXP.out]; simp [ltOf]; omega), HHI.out, S1.out.grown nq osq⟩
        case measure => simp [intOf]; omega
  case pos =>
      have hltz : (i : Int) < (j : Int) := by omega
      have p0 : (0 : Int) ≤ ((i : Int) + (j : Int)) / 2 := by omega
      have p1 : ((i : Int) + (j : Int)) / 2 < (d.size : Int) := by omega
      have p2 : (((i : Int) + (j : Int)) / 2).toNat = (i + j) / 2 := by omega
      have p3 : (0 : Int) ≤ (mid : Int) + (m : Int) - 1 - ((i : Int) + (j : Int)) / 2 := by omega
      have p7 : ((i : Int) + (j : Int)) / 2 ≤ (mid : Int) + (m : Int) - 1 := by omega
      have p4 : (mid : Int) + (m : Int) - 1 - ((i : Int) + (j : Int)) / 2 < (d.size : Int) := by omega
      have p5 : ((mid : Int) + (m : Int) - 1 - ((i : Int) + (j : Int)) / 2).toNat = mid + m - 1 - (i + j) / 2 := by omega
      have p6 : IntKind.i64.wrap ((mid : Int) + (m : Int) - 1 - ((i : Int) + (j : Int)) / 2) = (mid : Int) + (m : Int) - 1 - ((i : Int) + (j : Int)) / 2 := by rw [IntKind.wrap_i64]; omega
      obtain ⟨xc, hxc⟩ : ∃ x, d[(i + j) / 2]! = x := ⟨_, rfl⟩
      obtain ⟨xp, hxp⟩ : ∃ x, d[mid + m - 1 - (i + j) / 2]! = x := ⟨_, rfl⟩
      have lj := fun n' os' => S1.out.ld R HS.out.symm Tryd.prog ((i + j) / 2) (by omega) n' os'
      have lp := fun n' os' => S1.out.ld R HS.out.symm Tryd.prog (mid + m - 1 - (i + j) / 2) (by omega) n' os'
      rw [hxc] at lj
      rw [hxp] at lp
      have hcg := fun n' os' => S1.out.cmp HC.out HS.out.symm xp xc n' os'
      have HXC := Lib.hid hxc
      have HXP := Lib.hid hxp
      clear hxc hxp
      by_cases hlv : cf xp xc < 0
      · have hb1 : decide (cf xp xc < 0) = true := by simpa using hlv
        go_wp2_with fail
        go_quiet_grown (first | (go_at_fn g; refine Calls.grown_of (hcg _ _)))
        go_wp2_with fail
        go_roundw
        case rel => exact ⟨i, (i + j) / 2, rfl, by congr 1, hai, by omega, by omega, HLO.out, .inr (by rw [HXC.out, HXP.out]; simpa [ltOf] using hlv), S1.out.grown nq osq⟩
        case measure => simp [intOf]; omega
      · have hlv2 : 0 ≤ cf xp xc := by omega
        have hb1 : decide (cf xp xc < 0) = false := by simp; omega
        clear hlv
        go_wp2_with fail
        go_quiet_grown (first | (go_at_fn g; refine Calls.grown_of (hcg _ _)))
        go_wp2_with fail
        go_roundw
        case rel => exact ⟨(i + j) / 2 + 1, j, by congr 1, rfl, by omega, by omega, hjm, .inr (by rw [show (i + j) / 2 + 1 - 1 = (i + j) / 2 by omega, show mid + m - ((i + j) / 2 + 1) = mid + m - 1 - (i + j) / 2 by omega, HXC.out, HXP.out]; simp [ltOf]; omega), HHI.out, S1.out.grown nq osq⟩
        case measure => simp [intOf]; omega
  all_goals obtain rfl : i = j := by omega
  all_goals have hltz : ¬ (i : Int) < (i : Int) := by omega
  all_goals clear hlt
  all_goals obtain ⟨e, he⟩ : ∃ e, e = mid + m - i := ⟨_, rfl⟩
  all_goals
    have hE : (e : Int) = (mid : Int) + (m : Int) - (i : Int) := by omega
    have hN : e + i = mid + m := by omega
    have hK1 : i = a ∨ e = b ∨ ltOf cf d[e]! d[i - 1]! = false := by
      rcases HLO.out with h | h
      · rcases B6.out with h2 | h2
        · exact .inl (by omega)
        · exact .inr (.inl (by omega))
      · exact .inr (.inr (by rw [he]; exact h))
    have hK2 : i = m ∨ e = m ∨ ltOf cf d[e - 1]! d[i]! = true := by
      rcases HHI.out with h | h
      · rcases B7.out with h2 | h2
        · exact .inl (by omega)
        · exact .inr (.inl (by omega))
      · exact .inr (.inr (by rw [show e - 1 = mid + m - 1 - i by omega]; exact h))
    have hR : i < m → i < mid → Calls Tryd.prog 96 #[.slice (some ⟨blk, off, none⟩) d.size cap, .int .i64 i, .int .i64 m, .int .i64 ((mid : Int) + (m : Int) - (i : Int)), .func (.func g) #[] cb] wr fun en w' => en = .returned (.tuple #[]) ∧ Turned enc k w0 blk off i m e d w' := by
      intro hA hB
      have h := rotate_Lb k zE blk off cap i m e d0 d w0 wr (.func (.func g) #[] cb) R HS.out S1.out hA (by omega) (by omega) hsz
      rw [hE] at h
      exact h
    have HE := Lib.hid hE
    have HN := Lib.hid hN
    have HK1 := Lib.hid hK1
    have HK2 := Lib.hid hK2
    have HROT := Lib.hid hR
    have HIN := Lib.hid (show i ≤ m ∧ i ≤ mid ∧ a ≤ i ∧ e ≤ b ∧ m ≤ e by omega)
    have HHC := Lib.hid hc
    have bi1 : i ≤ m := by omega
    have bi2 : i ≤ mid := by omega
    have bi3 : mid + m - i ≤ b := by omega
    clear he hE hN hK1 hK2 hR HLO HHI HC hij hjm hai b1 b2 b3 b4 b5 B6 B7 hc HLE HHE HB
  all_goals by_cases hA : i < m
  all_goals by_cases hB : i < mid
  all_goals by_cases hC : a < i
  all_goals by_cases hD : e < b
  all_goals
    first | have fA : (i : Int) < (m : Int) := by omega | have fA : ¬ (i : Int) < (m : Int) := by omega
    first | have fB : (m : Int) < (mid : Int) + (m : Int) - (i : Int) := by omega | have fB : ¬ (m : Int) < (mid : Int) + (m : Int) - (i : Int) := by omega
    first | have fC : (a : Int) < (i : Int) := by omega | have fC : ¬ (a : Int) < (i : Int) := by omega
    first | have fE : (i : Int) < (mid : Int) := by omega | have fE : ¬ (i : Int) < (mid : Int) := by omega
    first | have fF : (mid : Int) < (mid : Int) + (m : Int) - (i : Int) := by omega | have fF : ¬ (mid : Int) < (mid : Int) + (m : Int) - (i : Int) := by omega
    first | have fD : (mid : Int) + (m : Int) - (i : Int) < (b : Int) := by have := HE.out; omega | have fD : ¬ (mid : Int) + (m : Int) - (i : Int) < (b : Int) := by have := HE.out; omega
    have HA := Lib.hid hA
    have HB := Lib.hid hB
    have HCC := Lib.hid hC
    have HD := Lib.hid hD
    clear hA hB hC hD
  all_goals go_wp2_with fail
  all_goals try (exfalso; have := HE.out; have := HN.out; have := HIN.out; have := HA.out; have := HB.out; have := HCC.out; have := HD.out; omega)
  all_goals
    first
      | (have hA := HA.out
         have hB := HB.out
         refine (HROT.out hA hB).mono ?_
         rintro e1 w1 ⟨rfl, d1, hSd, hz, hp, hr⟩
         have S2 := Lib.hid hSd
         have HZ := Lib.hid hz
         have HP := Lib.hid hp
         have HR := Lib.hid hr
         clear hSd hz hp hr hA hB S1
         go_wp2_with fail)
      | (obtain ⟨d1, w1, hw1, hSd, hz, hp, hr⟩ : ∃ d1 w1, w1 = wr ∧ SWK enc k w0 blk off d1 w1 ∧ d1.size = d.size ∧ PermIn i e d d1 ∧ ∀ x, d1[x]! = rot i m e d x := by
           have hAB : i = m ∨ e = m := by have := HA.out; have := HB.out; have := HN.out; have := HIN.out; omega
           have hin := HIN.out
           refine ⟨d, wr, rfl, S1.out, rfl, permIn_refl _ _ _, fun x => ?_⟩
           rw [rot]
           repeat' split
           all_goals first | rfl | (congr 1; omega)
         rw [← hw1]
         have S2 := Lib.hid hSd
         have HZ := Lib.hid hz
         have HP := Lib.hid hp
         have HR := Lib.hid hr
         clear hSd hz hp hr S1 hw1)
  all_goals
    obtain ⟨-, -, -, -, q1, q2, q3, q4, qx⟩ := merge_turn HSW.out HIN.out.2.2.1 HIN.out.1 HIN.out.2.2.2.2 HIN.out.2.2.2.1 H1.out H2.out HK1.out HK2.out HR.out
    rw [show i + (e - m) = mid by have := HIN.out; have := HN.out; omega] at q2 q3 qx
    have Q1 := Lib.hid q1
    have Q2 := Lib.hid q2
    have Q3 := Lib.hid q3
    have Q4 := Lib.hid q4
    have QX := Lib.hid qx
    clear q1 q2 q3 q4 qx HROT HR HK1 HK2 H1 H2
    first
      | (have hA := HCC.out
         have hB := HB.out
         have hin := HIN.out
         refine (HREC.out a i mid d1 w1 (by omega) HZ.out S2.out hA hB (by omega) Q1.out Q2.out).mono ?_
         rintro e2 w2 ⟨rfl, d2, hSd, hz, hp, hs⟩
         have S3 := Lib.hid hSd
         have HZ2 := Lib.hid hz
         have HP2 := Lib.hid hp
         have HS2 := Lib.hid hs
         clear hSd hz hp hs hA hB hin S2
         go_wp2_with fail)
      | (obtain ⟨d2, w2, hw2, hSd, hz, hp, hs⟩ : ∃ d2 w2, w2 = w1 ∧ SWK enc k w0 blk off d2 w2 ∧ d2.size = d1.size ∧ PermIn a mid d1 d2 ∧ SortedIn (ltOf cf) a mid d2 := by
           have hin := HIN.out
           refine ⟨d1, w1, rfl, S2.out, rfl, permIn_refl _ _ _, ?_⟩
           by_cases hx : i = a
           · rw [← hx]; exact Q2.out
           · have hy : i = mid := by have := HCC.out; have := HB.out; omega
             rw [← hy]; exact Q1.out
         rw [← hw2]
         have S3 := Lib.hid hSd
         have HZ2 := Lib.hid hz
         have HP2 := Lib.hid hp
         have HS2 := Lib.hid hs
         clear hSd hz hp hs S2 hw2)
  all_goals
    have q3 : SortedIn (ltOf cf) mid e d2 := SortedIn.congr Q3.out fun x hx hx2 => HP2.out.2.1 x (.inr hx)
    have q4 : SortedIn (ltOf cf) e b d2 := SortedIn.congr Q4.out fun x hx hx2 => HP2.out.2.1 x (.inr (by have := HIN.out; have := HN.out; omega))
    have Q3' := Lib.hid q3
    have Q4' := Lib.hid q4
    clear q3 q4
    first
      | (have hA := HA.out
         have hB := HD.out
         have hin := HIN.out
         have hn := HN.out
         have h := HREC.out mid e b d2 w2 (by omega) (by rw [HZ2.out]; exact HZ.out) S3.out (by omega) hB (by omega) Q3'.out Q4'.out
         rw [HE.out] at h
         refine h.mono ?_
         clear h
         rintro e3 w3 ⟨rfl, d3, hSd, hz, hp, hs⟩
         have S4 := Lib.hid hSd
         have HZ3 := Lib.hid hz
         have HP3 := Lib.hid hp
         have HS3 := Lib.hid hs
         clear hSd hz hp hs hA hB hin hn S3
         go_wp2_with fail)
      | (obtain ⟨d3, w3, hw3, hSd, hz, hp, hs⟩ : ∃ d3 w3, w3 = w2 ∧ SWK enc k w0 blk off d3 w3 ∧ d3.size = d2.size ∧ PermIn mid b d2 d3 ∧ SortedIn (ltOf cf) mid b d3 := by
           have hin := HIN.out
           have hn := HN.out
           refine ⟨d2, w2, rfl, S3.out, rfl, permIn_refl _ _ _, ?_⟩
           by_cases hx : e = b
           · rw [← hx]; exact Q3'.out
           · have hy : e = mid := by have := HA.out; have := HD.out; omega
             rw [← hy]; exact Q4'.out
         rw [← hw3]
         have S4 := Lib.hid hSd
         have HZ3 := Lib.hid hz
         have HP3 := Lib.hid hp
         have HS3 := Lib.hid hs
         clear hSd hz hp hs S3 hw3)
  all_goals
    go_end0
    have hin := HIN.out
    have hn := HN.out
    have z1 := HZ.out
    have z2 := HZ2.out
    have z3 := HZ3.out
    obtain ⟨r1, r2⟩ := merge_halves (a := a) (mid := mid) (b := b) (by omega) (by omega) (by omega) QX.out HP2.out HS2.out HP3.out HS3.out
    exact ⟨rfl, d3, S4.out, by omega, permIn_trans _ _ _ _ _ (permIn_mono _ _ i e a b (by omega) (by omega) (by omega) HP.out) r1, r2⟩
end
end Go.Proofs.YtnnfhcbopchodaaDoor
namespace Go.Proofs.YtnnfhcbopchodaaDoor
open Go.Shelf Go.RowKit Go.Lib Go.Sort
set_option linter.unusedVariables false
set_option linter.unusedSimpArgs false
set_option maxRecDepth 100000

section
variable {α : Type} [Inhabited α] {enc : α → List Value}
theorem symMerge_Lb (k : Nat) (zE : ∀ w, (Go.sizeOf 88).run Tryd.prog w = .ok k w) (g : Nat) (cb : Array Value) (eg : ∀ args w, (callFunc g args).run Tryd.prog w = .ok (.enter g args) w) (cf : α → α → Int) (blk off cap : Nat) (d0 : Array α) (w0 : World)
    (R : RowK enc k w0 blk off d0) (hC : CmpLays Tryd.prog g cb enc k cf blk off d0.size w0) (hS : SWO (ltOf cf)) (hsz : d0.size < 4611686018427387904) :
    ∀ (f a m b : Nat) (d : Array α) (w : World), b - a ≤ f → d0.size = d.size → SWK enc k w0 blk off d w → a < m → m < b → b ≤ d.size → SortedIn (ltOf cf) a m d → SortedIn (ltOf cf) m b d →
      Calls Tryd.prog 83 #[.slice (some ⟨blk, off, none⟩) d.size cap, .int .i64 a, .int .i64 m, .int .i64 b, .func (.func g) #[] cb] w fun e w' => e = .returned (.tuple #[]) ∧ Merged enc k w0 blk off (ltOf cf) a b d w' := by
  intro f
  induction f with
  | zero => intro a m b d w h; intros; omega
  | succ f ih =>
    intro a m b d w hf hs S ham hmb hb h1 h2
    by_cases c1 : m = a + 1
    · exact mergeA_Lb k zE g cb eg cf blk off cap a m b d0 d w0 w R hs S hC hS c1 hmb hb (by omega) h2
    · by_cases c2 : b = m + 1
      · exact mergeB_Lb k zE g cb eg cf blk off cap a m b d0 d w0 w R hs S hC hS (by omega) c2 hb (by omega) h1
      · refine mergeC_Lb k zE g cb eg cf blk off cap a m b d0 d w0 w R hs S hC hS (by omega) (by omega) hb (by omega) h1 h2 ?_
        intro a' m' b' d' w' hlt hz hS' ham' hmb' hb' h1' h2'
        have h := ih a' m' b' d' w' (by omega) (by omega) hS' ham' hmb' (by omega) h1' h2'
        rw [hz] at h
        exact h
end
end Go.Proofs.YtnnfhcbopchodaaDoor
namespace Go.Proofs.YtnnfhcbopchodaaDoor
open Go.Shelf Go.RowKit Go.Lib Go.Sort
set_option linter.unusedVariables false
set_option linter.unusedSimpArgs false
set_option maxRecDepth 100000

section
variable {α : Type} [Inhabited α] {enc : α → List Value}
set_option maxHeartbeats 8000000 in
theorem insertion_Lb (k : Nat) (zE : ∀ w, (Go.sizeOf 88).run Tryd.prog w = .ok k w) (g : Nat) (cb : Array Value) (eg : ∀ args w, (callFunc g args).run Tryd.prog w = .ok (.enter g args) w) (cf : α → α → Int) (blk off cap a b : Nat) (d0 d : Array α) (w0 w : World)
    (R : RowK enc k w0 blk off d0) (hs : d0.size = d.size) (S : SWK enc k w0 blk off d w) (hC : CmpLays Tryd.prog g cb enc k cf blk off d0.size w0) (hS : SWO (ltOf cf)) (hab : a ≤ b) (hb : b ≤ d.size) (hsz : d.size < 4611686018427387904) :
    Calls Tryd.prog 82 #[.slice (some ⟨blk, off, none⟩) d.size cap, .int .i64 a, .int .i64 b, .func (.func g) #[] cb] w fun e w' => e = .returned (.tuple #[]) ∧ Merged enc k w0 blk off (ltOf cf) a b d w' := by
  have S0 : Aside (SWK enc k w0 blk off d w) := S
  have mixed : Tryd.prog.follows .mixedOrders = true := by kernel_rfl
  have HC := Lib.hid hC
  have HSW := Lib.hid hS
  have HS := Lib.hid hs
  clear S hC hS hs
  go_enter Tryd.func82, Tryd.ntmps82
  go_wp2_with fail
  go_loopg [8] (b - a) (fun g1 vi wr => ∃ (i : Nat) (dk : Array α), vi = .int .i64 i ∧ a < i ∧ i ≤ b + 1 ∧ b + 1 - i ≤ g1 + 1 ∧ dk.size = d.size ∧ Aside (SWK enc k w0 blk off dk wr) ∧ Hid (insOuter (ltOf cf) a b i dk = insOuter (ltOf cf) a b (a + 1) d))
  case atStart => exact ⟨a + 1, d, by go_num, by omega, by omega, by omega, rfl, S0, rfl⟩
  case round =>
    clear S0
    obtain ⟨i, dk, rfl, hai, hib, hg1, hsk, S1, HO⟩ := hrel
    by_cases hlt : i < b
    · have hltz : (i : Int) < (b : Int) := by omega
      go_wp2_with fail
      go_loopg [9] i (fun g2 vj wr2 => ∃ (j : Nat) (dj : Array α), vj = .int .i64 j ∧ a ≤ j ∧ j ≤ i ∧ j ≤ g2 ∧ dj.size = d.size ∧ Aside (SWK enc k w0 blk off dj wr2) ∧ Hid (insInner (ltOf cf) a j dj = insInner (ltOf cf) a i dk))
      case atStart => exact ⟨i, dk, rfl, by omega, Nat.le_refl _, Nat.le_refl _, hsk, S1, rfl⟩
      case round =>
        clear S1
        obtain ⟨j, dj, rfl, haj, hji, hg2, hsj, S1, HI⟩ := hrel
        have out : (j ≤ a ∨ ltOf cf dj[j]! dj[j - 1]! = false) → Hid (insOuter (ltOf cf) a b (i + 1) dj = insOuter (ltOf cf) a b (a + 1) d) := fun hs => by
          show _ = _
          rw [← HO.out, insOuter_go _ _ _ _ _ hlt, ← HI.out, insInner_stop _ _ _ _ hs]
        have OUT : Aside _ := out
        clear out
        by_cases hja : a < j
        · have hjaz : (a : Int) < (j : Int) := by omega
          obtain ⟨jp, rfl⟩ : ∃ jp, j = jp + 1 := ⟨j - 1, by omega⟩
          obtain ⟨xj, hxj⟩ : ∃ x, dj[jp + 1]! = x := ⟨_, rfl⟩
          obtain ⟨xp, hxp⟩ : ∃ x, dj[jp]! = x := ⟨_, rfl⟩
          have hwp : IntKind.i64.wrap (jp : Int) = (jp : Int) := by rw [IntKind.wrap_i64]; omega
          have jz : (jp : Int) + 1 < (d.size : Int) := by omega
          have jz1 : (jp : Int) < (d.size : Int) := by omega
          have hjaz' : (a : Int) < (jp : Int) + 1 := by omega
          have p0 : (0 : Int) ≤ (jp : Int) + 1 := by omega
          have p1 : (0 : Int) ≤ (jp : Int) := by omega
          have e0 : ((jp : Int) + 1).toNat = jp + 1 := by omega
          have e1 : ((jp : Int)).toNat = jp := by omega
          have lj := fun n' os' => S1.out.ld R (hsj.trans HS.out.symm) Tryd.prog (jp + 1) (by omega) n' os'
          have lp := fun n' os' => S1.out.ld R (hsj.trans HS.out.symm) Tryd.prog jp (by omega) n' os'
          rw [hxj] at lj
          rw [hxp] at lp
          have hcg := fun n' os' => S1.out.cmp HC.out (hsj.trans HS.out.symm) xj xp n' os'
          have HXJ := Lib.hid hxj
          have HXP := Lib.hid hxp
          clear hxj hxp
          by_cases hlv : cf xj xp < 0
          · go_wp2_with fail
            go_quiet_grown (first | (go_at_fn g; refine Calls.grown_of (hcg _ _)))
            go_wp2_with fail
            have S2 : Aside (SWK enc k w0 blk off dj (grow (wr.drewN nq) osq)) := S1.out.grown nq osq
            have hz0 : dj.size = d0.size := hsj.trans HS.out.symm
            clear lj lp hcg S1
            generalize grow (wr.drewN nq) osq = wq at S2 ⊢
            have S3 : Aside (SWK enc k w0 blk off (swp dj (jp + 1) jp) ((wq.drew.setCells blk (off + (jp + 1) * k) (enc dj[jp]!)).setCells blk (off + jp * k) (enc dj[jp + 1]!))) := S2.out.swapped R (jp + 1) jp (by omega) (by omega)
            have l1 := S2.out.ld1 R hz0 Tryd.prog jp (by omega)
            have l2 := S2.out.ld1 R hz0 Tryd.prog (jp + 1) (by omega)
            have s1 := S2.out.st1 R hz0 Tryd.prog (jp + 1) (by omega) dj[jp]!
            have s2 := S2.out.st2 R hz0 Tryd.prog (jp + 1) jp (by omega) (by omega) dj[jp]! dj[jp + 1]!
            have n1 : (enc dj[jp]!).length = k := R.hk _
            have n2 : (enc dj[jp + 1]!).length = k := R.hk _
            generalize enc dj[jp]! = cI at S3 l1 s1 s2 n1
            generalize enc dj[jp + 1]! = cJ at S3 l2 s2 n2
            clear S2 hz0
            go_big_region_o
            clear l1 l2 s1 s2
            all_goals generalize (wq.drew.setCells blk (off + (jp + 1) * k) cI).setCells blk (off + jp * k) cJ = w2 at S3 ⊢
            all_goals go_wp2_with fail
            go_roundg jp
            case measure => omega
            case rel =>
              refine ⟨jp, swp dj (jp + 1) jp, by first | rfl | go_num | (congr 1; omega), by omega, by omega, Nat.le_refl _, by rw [size_swp]; exact hsj, S3, (show Hid _ from ?_)⟩
              show _ = _
              have := insInner_go (ltOf cf) a (jp + 1) dj hja (by simp only [Nat.add_sub_cancel]; rw [HXJ.out, HXP.out]; exact decide_eq_true hlv)
              simp only [Nat.add_sub_cancel] at this
              rw [← HI.out, this]
          · go_wp2_with fail
            go_quiet_grown (first | (go_at_fn g; refine Calls.grown_of (hcg _ _)))
            go_wp2_with fail
            go_roundg (b - (i + 1))
            case measure => omega
            case rel => exact ⟨i + 1, dj, by go_num, by omega, by omega, by omega, hsj, S1.out.grown nq osq, OUT.out (Or.inr (by simp only [Nat.add_sub_cancel]; rw [HXJ.out, HXP.out]; exact decide_eq_false (by omega)))⟩
        · have hjaz : decide ((j : Int) > (a : Int)) = false := decide_eq_false (by omega)
          have hjaz' : ¬ (a : Int) < (j : Int) := by omega
          go_wp2_with fail
          go_big_region_o
          all_goals go_wp2_with fail
          go_roundg (b - (i + 1))
          case measure => omega
          case rel => exact ⟨i + 1, dj, by go_num, by omega, by omega, by omega, hsj, S1.out.drew, OUT.out (Or.inl (by omega))⟩
    · have hltz : ¬ (i : Int) < (b : Int) := by omega
      go_wp2_with fail
      go_end0
      have he : dk = insertionSort (ltOf cf) d a b := by unfold Sort.insertionSort; rw [← HO.out, insOuter_stop _ _ _ _ _ hlt]
      obtain ⟨r1, r2⟩ := insertionSort_holds HSW.out d a b hab hb
      rw [← he] at r1 r2
      exact ⟨rfl, dk, S1.out, hsk, r1, r2⟩
end
end Go.Proofs.YtnnfhcbopchodaaDoor
