/- The library's stable sort at elements of k cells: symMerge where one part is a single element. -/
import Derived.Test.YtkflhfdpdgnbfaaSoP
import Derived.Shelf.SlSortCmp.QuietGrown
namespace Go.Proofs.Ytkflhfdpdgnbfaa
open Go.Shelf Go.RowKit Go.Lib Go.Sort
set_option linter.unusedVariables false
set_option linter.unusedSimpArgs false
set_option maxRecDepth 100000

section
variable {α : Type} [Inhabited α] {enc : α → List Value}
def SrchA (enc : α → List Value) (k : Nat) (w0 : World) (blk off : Nat) (lt : α → α → Bool) (a m b : Nat) (d : Array α) (iv jv : Value) (wr : World) : Prop := ∃ i j : Nat, iv = .int .i64 i ∧ jv = .int .i64 j ∧ m ≤ i ∧ i ≤ j ∧ j ≤ b ∧ (i = m ∨ lt d[i - 1]! d[a]! = true) ∧ (j = b ∨ lt d[j]! d[a]! = false) ∧ SWK enc k w0 blk off d wr
def ShftA (enc : α → List Value) (k : Nat) (w0 : World) (blk off a i : Nat) (d : Array α) (kv : Value) (wr : World) : Prop := ∃ (q : Nat) (dk : Array α), kv = .int .i64 q ∧ a ≤ q ∧ q + 1 ≤ i ∧ dk.size = d.size ∧ PermIn a i d dk ∧ (∀ x, dk[x]! = if a ≤ x ∧ x < q then d[x + 1]! else if x = q then d[a]! else d[x]!) ∧ SWK enc k w0 blk off dk wr
/-- A row of the sort's, its part from a to b in order. -/
def Merged (enc : α → List Value) (k : Nat) (w0 : World) (blk off : Nat) (lt : α → α → Bool) (a b : Nat) (d : Array α) (w : World) : Prop := ∃ d', SWK enc k w0 blk off d' w ∧ d'.size = d.size ∧ PermIn a b d d' ∧ SortedIn lt a b d'
theorem shiftA_step {a i q : Nat} {d dk : Array α} (hq : a ≤ q) (hi : q + 1 < i) (his : i ≤ d.size) (hs : dk.size = d.size) (h : ∀ x, dk[x]! = if a ≤ x ∧ x < q then d[x + 1]! else if x = q then d[a]! else d[x]!) :
    ∀ x, (swp dk q (q + 1))[x]! = if a ≤ x ∧ x < q + 1 then d[x + 1]! else if x = q + 1 then d[a]! else d[x]! := by
  intro x
  by_cases c1 : x = q
  · subst c1
    rw [swp_left _ _ _ (by omega) (by omega), h, if_neg (by omega), if_neg (by omega), if_pos (by omega)]
  · by_cases c2 : x = q + 1
    · subst c2
      rw [swp_right _ _ _ (by omega), h, if_neg (by omega), if_pos rfl, if_neg (by omega), if_pos rfl]
    · rw [swp_other _ _ _ _ c1 c2, h]
      by_cases c3 : a ≤ x ∧ x < q
      · rw [if_pos c3, if_pos (by omega)]
      · rw [if_neg c3, if_neg c1, if_neg (by omega), if_neg c2]
theorem shiftA_rot {a i : Nat} {d dk : Array α} (hi : a + 1 ≤ i) (h : ∀ x, dk[x]! = if a ≤ x ∧ x < i - 1 then d[x + 1]! else if x = i - 1 then d[a]! else d[x]!) : ∀ x, dk[x]! = rot a (a + 1) i d x := by
  intro x
  rw [h, rot]
  repeat' split
  all_goals first | (exfalso; omega) | rfl | (congr 1; omega)
/-- What the way with one element ahead comes to. -/
theorem mergeA_end {lt : α → α → Bool} {a m b i : Nat} {d d1 : Array α} (hS : SWO lt) (hm : m = a + 1) (hmi : m ≤ i) (hib : i ≤ b) (hb : b ≤ d.size) (hsz : d1.size = d.size) (h2 : SortedIn lt m b d) (hlo : i = m ∨ lt d[i - 1]! d[a]! = true) (hhi : i = b ∨ lt d[i]! d[a]! = false) (hp : PermIn a i d d1) (hr : ∀ x, d1[x]! = rot a m i d x) :
    PermIn a b d d1 ∧ SortedIn lt a b d1 := by
  have h1 : SortedIn lt a m d := fun x y hx hxy hy => by omega
  obtain ⟨-, e2, -, e4, -, s2, s3, s4, hx⟩ := merge_turn hS (Nat.le_refl a) (by omega) hmi hib h1 h2 (.inl rfl) (by rcases hlo with h | h; exact .inr (.inl h); exact .inr (.inr h)) hr
  refine ⟨permIn_mono _ _ a i a b (Nat.le_refl _) hib (by omega) hp, sorted_join s2 (sorted_join s3 s4 ?_) hx⟩
  intro x y hx1 hx2 hy1 hy2
  rw [e4 x hx1 hx2, e2 y hy1 hy2]
  have hxa : x - (i - m) = a := by omega
  rw [hxa]
  rcases hhi with h | h
  · omega
  · exact hS.ntrans _ _ _ (sorted_le hS h2 (i := i) (j := y) (by omega) hy1 hy2) h

set_option maxHeartbeats 8000000 in
theorem mergeA_P (k : Nat) (zE : ∀ w, (Go.sizeOf 35).run Try.prog w = .ok k w) (g : Nat) (cb : Array Value) (eg : ∀ args w, (callFunc g args).run Try.prog w = .ok (.enter g args) w) (cf : α → α → Int) (blk off cap a m b : Nat) (d0 d : Array α) (w0 w : World)
    (R : RowK enc k w0 blk off d0) (hs : d0.size = d.size) (S : SWK enc k w0 blk off d w) (hC : CmpLays Try.prog g cb enc k cf blk off d0.size w0) (hS : SWO (ltOf cf)) (ham : m = a + 1) (hmb : m < b) (hb : b ≤ d.size) (hsz : d.size < 4611686018427387904) (h2 : SortedIn (ltOf cf) m b d) :
    Calls Try.prog 78 #[.slice (some ⟨blk, off, none⟩) d.size cap, .int .i64 a, .int .i64 m, .int .i64 b, .func (.func g) #[] cb] w fun e w' => e = .returned (.tuple #[]) ∧ Merged enc k w0 blk off (ltOf cf) a b d w' := by
  have S0 : Aside (SWK enc k w0 blk off d w) := S
  have mixed : Try.prog.follows .mixedOrders = true := by kernel_rfl
  have HC := Lib.hid hC
  have HSW := Lib.hid hS
  have HS := Lib.hid hs
  have HM := Lib.hid ham
  have H2 := Lib.hid h2
  have t1 : ((m : Int) - (a : Int) == 1) = true := by simp; omega
  have t2 : (m : Int) - (a : Int) = 1 := by omega
  have T2 := Lib.hid t2
  have ma : a < m := by omega
  clear S hC hS hs ham h2 t2
  go_enter Try.func78, Try.ntmps78
  go_wp2_with fail
  go_loopw [10, 11] (fun iv jv wr => SrchA enc k w0 blk off (ltOf cf) a m b d iv jv wr) (fun iv jv _ => (intOf jv).toNat - (intOf iv).toNat)
  case atStart => exact ⟨m, b, rfl, rfl, Nat.le_refl _, by omega, Nat.le_refl _, .inl rfl, .inl rfl, S0.out⟩
  case round =>
    clear S0
    obtain ⟨i, j, rfl, rfl, hmi, hij, hjb, hlo, hhi, hSr⟩ := hrel
    have S1 := Lib.hid hSr
    have HLO := Lib.hid hlo
    have HHI := Lib.hid hhi
    clear hSr hlo hhi
    by_cases hlt : i < j
    · have hltz : (i : Int) < (j : Int) := by omega
      have p0 : (0 : Int) ≤ ((i : Int) + (j : Int)) / 2 := by omega
      have p1 : ((i : Int) + (j : Int)) / 2 < (d.size : Int) := by omega
      have p2 : (((i : Int) + (j : Int)) / 2).toNat = (i + j) / 2 := by omega
      have p3 : (a : Int) < (d.size : Int) := by omega
      have p4 : (0 : Int) ≤ (a : Int) := by omega
      obtain ⟨xh, hxh⟩ : ∃ x, d[(i + j) / 2]! = x := ⟨_, rfl⟩
      obtain ⟨xa, hxa⟩ : ∃ x, d[a]! = x := ⟨_, rfl⟩
      have lj := fun n' os' => S1.out.ld R HS.out.symm Try.prog ((i + j) / 2) (by omega) n' os'
      have lp := fun n' os' => S1.out.ld R HS.out.symm Try.prog a (by omega) n' os'
      rw [hxh] at lj
      rw [hxa] at lp
      have hcg := fun n' os' => S1.out.cmp HC.out HS.out.symm xh xa n' os'
      have HXH := Lib.hid hxh
      have HXA := Lib.hid hxa
      clear hxh hxa
      by_cases hlv : cf xh xa < 0
      · go_wp2_with fail
        go_quiet_grown (first | (go_at_fn g; refine Calls.grown_of (hcg _ _)))
        go_wp2_with fail
        go_roundw
        case rel => exact ⟨(i + j) / 2 + 1, j, by congr 1, rfl, by omega, by omega, hjb, .inr (by rw [show (i + j) / 2 + 1 - 1 = (i + j) / 2 by omega, HXH.out, HXA.out]; simpa [ltOf] using hlv), HHI.out, S1.out.grown nq osq⟩
        case measure => simp [intOf]; omega
      · have hlv2 : 0 ≤ cf xh xa := by omega
        clear hlv
        go_wp2_with fail
        go_quiet_grown (first | (go_at_fn g; refine Calls.grown_of (hcg _ _)))
        go_wp2_with fail
        go_roundw
        case rel => exact ⟨i, (i + j) / 2, rfl, by congr 1, hmi, by omega, by omega, HLO.out, .inr (by rw [HXH.out, HXA.out]; simp [ltOf]; omega), S1.out.grown nq osq⟩
        case measure => simp [intOf]; omega
    · obtain rfl : i = j := by omega
      have hltz : ¬ (i : Int) < (i : Int) := by omega
      clear hlt
      go_wp2_with fail
      obtain ⟨wo, hwo⟩ : ∃ wo, wo = wr := ⟨_, rfl⟩
      rw [← hwo] at S1 ⊢
      clear hwo
      go_loopw [13] (fun kv wk => ShftA enc k w0 blk off a i d kv wk) (fun kv _ => i - (intOf kv).toNat)
      case atStart => exact ⟨a, d, rfl, Nat.le_refl _, by have := HM.out; omega, rfl, permIn_refl _ _ _, fun x => by split; omega; split; (subst_vars; rfl); rfl, S1.out⟩
      case round =>
        obtain ⟨q, dk, rfl, haq, hqi, hds, hP, hX, hSk⟩ := hrel
        have S2 := Lib.hid hSk
        have HP := Lib.hid hP
        have HX := Lib.hid hX
        have HDS := Lib.hid hds
        clear hSk hP hX hds S1
        by_cases hq : q + 1 < i
        · have hqz : (q : Int) < (i : Int) - 1 := by omega
          have hz1 : dk.size = d.size := HDS.out
          have ea : ((q : Int)).toNat = q := by omega
          have pa : (0 : Int) ≤ (q : Int) := by omega
          have ba : (q : Int) < (d.size : Int) := by omega
          have ec : ((q : Int) + 1).toNat = q + 1 := by omega
          have pc : (0 : Int) ≤ (q : Int) + 1 := by omega
          have bc : (q : Int) + 1 < (d.size : Int) := by omega
          have rc : IntKind.i64.wrap ((q : Int) + 1) = (q : Int) + 1 := by rw [IntKind.wrap_i64]; omega
          have S3 : Aside (SWK enc k w0 blk off (swp dk q (q + 1)) ((wr.drew.setCells blk (off + q * k) (enc dk[q + 1]!)).setCells blk (off + (q + 1) * k) (enc dk[q]!))) := S2.out.swapped R q (q + 1) (by omega) (by omega)
          have l1 := S2.out.ld1 R (by have := HS.out; omega) Try.prog q (by omega)
          have l2 := S2.out.ld1 R (by have := HS.out; omega) Try.prog (q + 1) (by omega)
          have s1 := S2.out.st1 R (by have := HS.out; omega) Try.prog q (by omega) dk[q + 1]!
          have s2 := S2.out.st2 R (by have := HS.out; omega) Try.prog q (q + 1) (by omega) (by omega) dk[q + 1]! dk[q]!
          have n1 : (enc dk[q]!).length = k := R.hk _
          have n2 : (enc dk[q + 1]!).length = k := R.hk _
          generalize enc dk[q]! = cI at S3 l1 s2 n1
          generalize enc dk[q + 1]! = cJ at S3 l2 s1 s2 n2
          have HQ := Lib.hid hq
          clear S2 hz1 hq
          go_wp2_with fail
          go_big_region_o
          clear l1 l2 s1 s2
          generalize (wr.drew.setCells blk (off + q * k) cJ).setCells blk (off + (q + 1) * k) cI = w2 at S3 ⊢
          go_wp2_with fail
          go_roundw
          case rel => exact ⟨q + 1, swp dk q (q + 1), by go_num, by omega, by have := HQ.out; omega, by rw [size_swp]; exact HDS.out, permIn_trans _ _ _ _ _ HP.out (swp_permIn dk a i q (q + 1) (by omega) (by omega) (by omega) (by have := HQ.out; omega) (by have := HDS.out; omega)), shiftA_step haq HQ.out (by omega) HDS.out HX.out, S3.out⟩
          case measure => simp [intOf]; omega
        · have hqz : ¬ (q : Int) < (i : Int) - 1 := by omega
          have hqi2 : i ≤ q + 1 := by omega
          clear hq
          go_wp2_with fail
          refine bodyPost_ret (v := .tuple #[]) (results_none rfl _ _ _) rfl ?_
          obtain rfl : q = i - 1 := by omega
          have hM := HM.out
          have hX2 := shiftA_rot (by omega) HX.out
          rw [← hM] at hX2
          have hlo2 := HLO.out
          have hhi2 := HHI.out
          obtain ⟨r1, r2⟩ := mergeA_end HSW.out hM hmi hjb hb HDS.out H2.out hlo2 hhi2 HP.out hX2
          exact ⟨rfl, dk, S2.out, HDS.out, r1, r2⟩

def SrchB (enc : α → List Value) (k : Nat) (w0 : World) (blk off : Nat) (lt : α → α → Bool) (a m : Nat) (d : Array α) (iv jv : Value) (wr : World) : Prop := ∃ i j : Nat, iv = .int .i64 i ∧ jv = .int .i64 j ∧ a ≤ i ∧ i ≤ j ∧ j ≤ m ∧ (i = a ∨ lt d[m]! d[i - 1]! = false) ∧ (j = m ∨ lt d[m]! d[j]! = true) ∧ SWK enc k w0 blk off d wr
def ShftB (enc : α → List Value) (k : Nat) (w0 : World) (blk off m i : Nat) (d : Array α) (kv : Value) (wr : World) : Prop := ∃ (q : Nat) (dk : Array α), kv = .int .i64 q ∧ i ≤ q ∧ q ≤ m ∧ dk.size = d.size ∧ PermIn i (m + 1) d dk ∧ (∀ x, dk[x]! = if q < x ∧ x ≤ m then d[x - 1]! else if x = q then d[m]! else d[x]!) ∧ SWK enc k w0 blk off dk wr
theorem shiftB_step {m q : Nat} {d dk : Array α} (hq : q + 1 ≤ m) (his : m < d.size) (hs : dk.size = d.size) (h : ∀ x, dk[x]! = if q + 1 < x ∧ x ≤ m then d[x - 1]! else if x = q + 1 then d[m]! else d[x]!) :
    ∀ x, (swp dk (q + 1) q)[x]! = if q < x ∧ x ≤ m then d[x - 1]! else if x = q then d[m]! else d[x]! := by
  intro x
  by_cases c1 : x = q + 1
  · subst c1
    rw [swp_left _ _ _ (by omega) (by omega), h, if_neg (by omega), if_neg (by omega), if_pos (by omega)]
    rfl
  · by_cases c2 : x = q
    · subst c2
      rw [swp_right _ _ _ (by omega), h, if_neg (by omega), if_pos rfl, if_neg (by omega), if_pos rfl]
    · rw [swp_other _ _ _ _ c1 c2, h]
      by_cases c3 : q + 1 < x ∧ x ≤ m
      · rw [if_pos c3, if_pos (by omega)]
      · rw [if_neg c3, if_neg c1, if_neg (by omega), if_neg c2]
theorem shiftB_rot {m i : Nat} {d dk : Array α} (hi : i ≤ m) (h : ∀ x, dk[x]! = if i < x ∧ x ≤ m then d[x - 1]! else if x = i then d[m]! else d[x]!) : ∀ x, dk[x]! = rot i m (m + 1) d x := by
  intro x
  rw [h, rot]
  repeat' split
  all_goals first | (exfalso; omega) | rfl | (congr 1; omega)
theorem mergeB_end {lt : α → α → Bool} {a m b i : Nat} {d d1 : Array α} (hS : SWO lt) (ham : a < m) (hmb : b = m + 1) (hai : a ≤ i) (him : i ≤ m) (hb : b ≤ d.size) (hsz : d1.size = d.size) (h1 : SortedIn lt a m d) (hlo : i = a ∨ lt d[m]! d[i - 1]! = false) (hhi : i = m ∨ lt d[m]! d[i]! = true) (hp : PermIn i (m + 1) d d1) (hr : ∀ x, d1[x]! = rot i m (m + 1) d x) :
    PermIn a b d d1 ∧ SortedIn lt a b d1 := by
  subst hmb
  have h2 : SortedIn lt m (m + 1) d := fun x y hx hxy hy => by omega
  obtain ⟨e1, -, e3, -, s1, s2, s3, -, hx⟩ := merge_turn hS hai him (Nat.le_succ m) (Nat.le_refl _) h1 h2 (.inr (.inl rfl)) (by rcases hhi with h | h; exact .inl h; exact .inr (.inr h)) hr
  rw [show i + (m + 1 - m) = i + 1 by omega] at s2 s3 hx e3
  refine ⟨permIn_mono _ _ i (m + 1) a (m + 1) hai (Nat.le_refl _) hb hp, sorted_join (sorted_join s1 s2 ?_) s3 hx⟩
  intro x y hx1 hx2 hy1 hy2
  rw [e1 x hx1 hx2, e3 y hy1 hy2, show y - i + m = m by omega]
  rcases hlo with h | h
  · omega
  · exact hS.ntrans _ _ _ h (sorted_le hS h1 (i := x) (j := i - 1) hx1 (by omega) (by omega))

set_option maxHeartbeats 8000000 in
theorem mergeB_P (k : Nat) (zE : ∀ w, (Go.sizeOf 35).run Try.prog w = .ok k w) (g : Nat) (cb : Array Value) (eg : ∀ args w, (callFunc g args).run Try.prog w = .ok (.enter g args) w) (cf : α → α → Int) (blk off cap a m b : Nat) (d0 d : Array α) (w0 w : World)
    (R : RowK enc k w0 blk off d0) (hs : d0.size = d.size) (S : SWK enc k w0 blk off d w) (hC : CmpLays Try.prog g cb enc k cf blk off d0.size w0) (hS : SWO (ltOf cf)) (ham : a + 1 < m) (hmb : b = m + 1) (hb : b ≤ d.size) (hsz : d.size < 4611686018427387904) (h1 : SortedIn (ltOf cf) a m d) :
    Calls Try.prog 78 #[.slice (some ⟨blk, off, none⟩) d.size cap, .int .i64 a, .int .i64 m, .int .i64 b, .func (.func g) #[] cb] w fun e w' => e = .returned (.tuple #[]) ∧ Merged enc k w0 blk off (ltOf cf) a b d w' := by
  have S0 : Aside (SWK enc k w0 blk off d w) := S
  have mixed : Try.prog.follows .mixedOrders = true := by kernel_rfl
  have HC := Lib.hid hC
  have HSW := Lib.hid hS
  have HS := Lib.hid hs
  have HM := Lib.hid hmb
  have H1 := Lib.hid h1
  have t1 : ((m : Int) - (a : Int) == 1) = false := by simp; omega
  have t2 : ((b : Int) - (m : Int) == 1) = true := by simp; omega
  have t3 : (m : Int) - (a : Int) ≠ 1 := by omega
  have mb : m < b := by omega
  have mb2 : b ≤ m + 1 := by omega
  clear S hC hS hs hmb h1
  go_enter Try.func78, Try.ntmps78
  go_wp2_with fail
  go_loopw [14, 15] (fun iv jv wr => SrchB enc k w0 blk off (ltOf cf) a m d iv jv wr) (fun iv jv _ => (intOf jv).toNat - (intOf iv).toNat)
  case atStart => exact ⟨a, m, rfl, rfl, Nat.le_refl _, by omega, Nat.le_refl _, .inl rfl, .inl rfl, S0.out⟩
  case round =>
    clear S0
    obtain ⟨i, j, rfl, rfl, hai, hij, hjm, hlo, hhi, hSr⟩ := hrel
    have S1 := Lib.hid hSr
    have HLO := Lib.hid hlo
    have HHI := Lib.hid hhi
    clear hSr hlo hhi
    by_cases hlt : i < j
    · have hltz : (i : Int) < (j : Int) := by omega
      have p0 : (0 : Int) ≤ ((i : Int) + (j : Int)) / 2 := by omega
      have p1 : ((i : Int) + (j : Int)) / 2 < (d.size : Int) := by omega
      have p2 : (((i : Int) + (j : Int)) / 2).toNat = (i + j) / 2 := by omega
      have p3 : (m : Int) < (d.size : Int) := by omega
      have p4 : (0 : Int) ≤ (m : Int) := by omega
      obtain ⟨xh, hxh⟩ : ∃ x, d[(i + j) / 2]! = x := ⟨_, rfl⟩
      obtain ⟨xm, hxm⟩ : ∃ x, d[m]! = x := ⟨_, rfl⟩
      have lj := fun n' os' => S1.out.ld R HS.out.symm Try.prog ((i + j) / 2) (by omega) n' os'
      have lp := fun n' os' => S1.out.ld R HS.out.symm Try.prog m (by omega) n' os'
      rw [hxh] at lj
      rw [hxm] at lp
      have hcg := fun n' os' => S1.out.cmp HC.out HS.out.symm xm xh n' os'
      have HXH := Lib.hid hxh
      have HXM := Lib.hid hxm
      clear hxh hxm
      by_cases hlv : cf xm xh < 0
      · have hb1 : decide (cf xm xh < 0) = true := by simpa using hlv
        go_wp2_with fail
        go_quiet_grown (first | (go_at_fn g; refine Calls.grown_of (hcg _ _)))
        go_wp2_with fail
        go_roundw
        case rel => exact ⟨i, (i + j) / 2, rfl, by congr 1, hai, by omega, by omega, HLO.out, .inr (by rw [HXH.out, HXM.out]; simpa [ltOf] using hlv), S1.out.grown nq osq⟩
        case measure => simp [intOf]; omega
      · have hlv2 : 0 ≤ cf xm xh := by omega
        have hb1 : decide (cf xm xh < 0) = false := by simp; omega
        clear hlv
        go_wp2_with fail
        go_quiet_grown (first | (go_at_fn g; refine Calls.grown_of (hcg _ _)))
        go_wp2_with fail
        go_roundw
        case rel => exact ⟨(i + j) / 2 + 1, j, by congr 1, rfl, by omega, by omega, hjm, .inr (by rw [show (i + j) / 2 + 1 - 1 = (i + j) / 2 by omega, HXH.out, HXM.out]; simp [ltOf]; omega), HHI.out, S1.out.grown nq osq⟩
        case measure => simp [intOf]; omega
    · obtain rfl : i = j := by omega
      have hltz : ¬ (i : Int) < (i : Int) := by omega
      clear hlt
      go_wp2_with fail
      obtain ⟨wo, hwo⟩ : ∃ wo, wo = wr := ⟨_, rfl⟩
      rw [← hwo] at S1 ⊢
      clear hwo
      go_loopw [17] (fun kv wk => ShftB enc k w0 blk off m i d kv wk) (fun kv _ => (intOf kv).toNat)
      case atStart => exact ⟨m, d, rfl, hjm, Nat.le_refl _, rfl, permIn_refl _ _ _, fun x => by split; omega; split; (subst_vars; rfl); rfl, S1.out⟩
      case round =>
        obtain ⟨q, dk, rfl, hiq, hqm, hds, hP, hX, hSk⟩ := hrel
        have S2 := Lib.hid hSk
        have HP := Lib.hid hP
        have HX := Lib.hid hX
        have HDS := Lib.hid hds
        clear hSk hP hX hds S1
        by_cases hq : i < q
        · obtain ⟨q, rfl⟩ : ∃ n, q = n + 1 := ⟨q - 1, by omega⟩
          have hqz : (i : Int) < (q : Int) + 1 := by omega
          have hz1 : dk.size = d.size := HDS.out
          have ea : ((q : Int)).toNat = q := by omega
          have pa : (0 : Int) ≤ (q : Int) := by omega
          have ba : (q : Int) < (d.size : Int) := by omega
          have ra : IntKind.i64.wrap (q : Int) = (q : Int) := by rw [IntKind.wrap_i64]; omega
          have ec : ((q : Int) + 1).toNat = q + 1 := by omega
          have pc : (0 : Int) ≤ (q : Int) + 1 := by omega
          have bc : (q : Int) + 1 < (d.size : Int) := by omega
          have S3 : Aside (SWK enc k w0 blk off (swp dk (q + 1) q) ((wr.drew.setCells blk (off + (q + 1) * k) (enc dk[q]!)).setCells blk (off + q * k) (enc dk[q + 1]!))) := S2.out.swapped R (q + 1) q (by omega) (by omega)
          have l1 := S2.out.ld1 R (by have := HS.out; omega) Try.prog q (by omega)
          have l2 := S2.out.ld1 R (by have := HS.out; omega) Try.prog (q + 1) (by omega)
          have s1 := S2.out.st1 R (by have := HS.out; omega) Try.prog (q + 1) (by omega) dk[q]!
          have s2 := S2.out.st2 R (by have := HS.out; omega) Try.prog (q + 1) q (by omega) (by omega) dk[q]! dk[q + 1]!
          have n1 : (enc dk[q]!).length = k := R.hk _
          have n2 : (enc dk[q + 1]!).length = k := R.hk _
          generalize enc dk[q]! = cI at S3 l1 s1 s2 n1
          generalize enc dk[q + 1]! = cJ at S3 l2 s2 n2
          have HQ := Lib.hid hq
          have HQM := Lib.hid hqm
          clear S2 hz1 hq hqm
          go_wp2_with fail
          go_big_region_o
          clear l1 l2 s1 s2
          generalize (wr.drew.setCells blk (off + (q + 1) * k) cI).setCells blk (off + q * k) cJ = w2 at S3 ⊢
          go_wp2_with fail
          go_roundw
          case rel => exact ⟨q, swp dk (q + 1) q, rfl, by have := HQ.out; omega, by have := HQM.out; omega, by rw [size_swp]; exact HDS.out, permIn_trans _ _ _ _ _ HP.out (swp_permIn dk i (m + 1) (q + 1) q (by have := HQ.out; omega) (by have := HQM.out; omega) (by have := HQ.out; omega) (by have := HQM.out; omega) (by have := HDS.out; omega)), shiftB_step HQM.out (by omega) HDS.out HX.out, S3.out⟩
          case measure => first | (simp [intOf]; done) | (simp [intOf]; omega)
        · have hqz : ¬ (i : Int) < (q : Int) := by omega
          have hqi2 : q ≤ i := by omega
          clear hq
          go_wp2_with fail
          refine bodyPost_ret (v := .tuple #[]) (results_none rfl _ _ _) rfl ?_
          obtain rfl : q = i := by omega
          have hX2 := shiftB_rot hjm HX.out
          obtain ⟨r1, r2⟩ := mergeB_end HSW.out (by omega) HM.out hai hjm hb HDS.out H1.out HLO.out HHI.out HP.out hX2
          exact ⟨rfl, dk, S2.out, HDS.out, r1, r2⟩
end
end Go.Proofs.Ytkflhfdpdgnbfaa
