/- The walk of CostMatchers. -/
import Derived.Test.YtdhahnagnemgaaaCost
import Derived.Test.YtdhahnagnemgaaaApp
namespace Go.Proofs.Ytdhahnagnemgaaa
open Go.RowKit
set_option linter.unusedVariables false
set_option linter.unusedSimpArgs false

theorem few15 (se st : Int) (v : Value) (cs : List (ByteArray × Int)) (w : World) (h : CRow w v cs) :
    Calls Try.prog 34 #[.agg #[.int .i64 se, v, .int .i64 st]] w fun e w' => e = .returned (.bool (decide (cs.length ≤ 100))) ∧ Below w.heap.size w w' := by
  obtain ⟨a, cap, rfl, hlen, -, -⟩ := h
  go_enter Try.func34, Try.ntmps34
  go_wp2
  go_ret
  exact ⟨ret_b (by congr 1; exact propext ⟨fun h => by omega, fun h => by omega⟩), (Below.refl _ _).alloc (Nat.le_refl _) _⟩

def sumI (zs : List Int) : Int := zs.foldl (fun o n => cutI (o + cutI n)) 0
theorem Try.infoI : (Try.prog.info? 3).map (fun i => (i.zero, i.size, i.bytes)) = some (some (.int .i64 0), 1, 8) := by kernel_rfl
theorem one_new (w : World) (u : Value) (t : TypeId) : ∀ j v, [u][j]? = some v → (w.alloc (.cells #[u] t)).cell? ((⟨w.heap.size, 0, none⟩ : Addr).add j) = some v := by
  intro j v h
  cases j with
  | zero =>
    simp at h; subst h
    rw [show (⟨w.heap.size, 0, none⟩ : Addr).add 0 = ⟨w.heap.size, 0, none⟩ from rfl, World.cell?_alloc_at _ _ _ _ rfl]
    rfl
  | succ j => simp at h
def zx (zs : List Int) (k : Nat) : Int := zs.getD k 0
theorem take_snoc_z (xs : List Int) (k : Nat) (h : k < xs.length) : xs.take (k + 1) = xs.take k ++ [zx xs k] := by
  rw [List.take_succ_eq_append_getElem h]; simp [zx, h]
theorem sumI_snoc (zs : List Int) (k : Nat) (h : k < zs.length) : cutI (sumI (zs.take k) + cutI (zx zs k)) = sumI (zs.take (k + 1)) := by
  rw [take_snoc_z zs k h]; unfold sumI; rw [List.foldl_append]; rfl
theorem sumI_bd (zs : List Int) : 0 ≤ sumI zs ∧ sumI zs ≤ 1099511627776 := by
  have key : ∀ (zs : List Int) (q : Int), 0 ≤ q ∧ q ≤ 1099511627776 → 0 ≤ zs.foldl (fun o n => cutI (o + cutI n)) q ∧ zs.foldl (fun o n => cutI (o + cutI n)) q ≤ 1099511627776 := by
    intro zs
    induction zs with
    | nil => intro q h; exact h
    | cons z zs ih => intro q _; exact ih _ (cutI_bd _)
  exact key zs 0 (by omega)
theorem IRow.new {k : IntKind} (w : World) (xs : List Int) (c : Array Value) (t : TypeId) (hc : c = (xs.map (Value.int k)).toArray) (hw : ∀ x ∈ xs, (Lit.int k x).wf = true) : IRow k (w.alloc (.cells c t)) (some ⟨w.heap.size, 0, none⟩) xs := by
  refine ⟨hw, fun _ => ⟨_, 0, rfl, fun k hk => ?_⟩⟩
  rw [World.cell?_alloc_at _ _ _ _ rfl, hc]
  simp [hk]
set_option maxHeartbeats 1000000 in
theorem sum_any (a : Option Addr) (cap : Nat) (zs : List Int) (w : World) (h : IRow .i64 w a zs) (hm : zs.length ≤ 1000) :
    Calls Try.prog 68 #[.slice a zs.length cap] w fun e w' => e = .returned (.int .i64 (sumI zs)) ∧ w = w' := by
  have HC := Lib.hid h.2
  clear h
  go_enter Try.func68, Try.ntmps68
  go_wp2_with fail
  go_loopw [3, 8] (fun o i wr => ∃ k : Nat, k ≤ zs.length ∧ i = .int .i64 k ∧ o = .int .i64 (sumI (zs.take k)) ∧ wr = w) (fun _ i _ => zs.length - (intOf i).toNat)
  case atStart => exact ⟨0, Nat.zero_le _, rfl, rfl, rfl⟩
  case round =>
    obtain ⟨k, hk, rfl, rfl, rfl⟩ := hrel
    by_cases hlt : k < zs.length
    · obtain ⟨b, off, rfl, hcell⟩ := HC.out (by intro e; simp [e] at hlt)
      have hc0 : wr.cell? ⟨b, off + k, none⟩ = some (.int .i64 (zx zs k)) := hcell k hlt
      clear hcell
      have h1 : 0 ≤ sumI (zs.take k) ∧ sumI (zs.take k) ≤ 1099511627776 := sumI_bd _
      obtain ⟨q, hq⟩ : ∃ q, q = sumI (zs.take k) := ⟨_, rfl⟩
      rw [← hq] at h1 ⊢
      have HQ := Lib.hid hq
      clear hq
      have h2 := cutI_bd (zx zs k)
      go_wp2_with (go_at_call 71; refine (cut_any _ _).mono ?_; rintro e w' ⟨rfl, rfl⟩)
      go_roundw
      case rel =>
        refine ⟨k + 1, by omega, by go_num, ?_, trivial⟩
        rw [HQ.out, sumI_snoc zs k hlt]
      case measure => simp [intOf]; omega
    · obtain rfl : k = zs.length := by omega
      go_wp2
      go_ret
      exact ⟨ret_i (by rw [List.take_length]), rfl⟩

theorem CRow.one (w : World) (n : ByteArray) (k : Int) (t : TypeId) {w' : World} (hb : Below (w.heap.size + 1) (w.alloc (.cells #[.string n, .int .i64 k] t)) w') : CRow w' (.slice (some ⟨w.heap.size, 0, none⟩) 1 1) [(n, k)] :=
  Sl.lit (heap_keep hb (by omega) (heap_new w _)) rfl rfl (by simp)
theorem MRow.one (w : World) (k : Int) (n v : ByteArray) (t : TypeId) {w' : World} (b : Nat) (hs : b = w.heap.size) (hb : Below (w.heap.size + 1) (w.alloc (.cells #[.int .i64 k, .string n, .string v] t)) w') : MRow w' (.slice (some ⟨b, 0, none⟩) 1 1) [(k, n, v)] := by
  subst hs
  exact Sl.lit (heap_keep hb (by omega) (heap_new w _)) rfl rfl (by simp)
theorem kcard : cardI [(⟨#[97]⟩, 4)] 10 [(1, ⟨#[97]⟩, ⟨#[49]⟩)] = 3 := by decide +kernel

/-- A node as a value. -/
abbrev nodeV (kind : Int) (num : Nat) (fn : Int) (m : Value) (rng stp off : Int) (how : Int) (gn : Value) (xh : Int) (xn : Value) (card : Int) (xi : Value) (flag : Bool) (name value : ByteArray) (kids : Value) : Value :=
  .agg #[.int .i64 kind, .float .f64 num, .int .i64 fn, m, .int .i64 rng, .int .i64 stp, .int .i64 off, .int .i64 how, gn, .int .i64 xh, xn, .int .i64 card, xi, .bool flag, .string name, .string value, kids]

set_option maxRecDepth 100000 in
set_option maxHeartbeats 1000000 in
theorem cost_select (num : Nat) (fn : Int) (vm : Value) (rng stp off how : Int) (gn : Value) (xh : Int) (xn : Value) (card : Int) (xi : Value) (flag : Bool) (name value : ByteArray) (kids : Value) (se st : Int) (v : Value) (cs : List (ByteArray × Int)) (ms : List (Int × ByteArray × ByteArray)) (w : World)
    (h : CRow w v cs) (hmr : MRow w vm ms) :
    Calls Try.prog 37 #[nodeV 3 num fn vm rng stp off how gn xh xn card xi flag name value kids, .agg #[.int .i64 se, v, .int .i64 st]] w fun e w' => e = .returned (.int .i64 (sumI [1, cardI cs se ms])) ∧ Below w.heap.size w w' := by
  have HC := Lib.hid h
  have HM := Lib.hid hmr
  clear h hmr
  go_enter Try.func37, Try.ntmps37
  go_wp2_with fail
  refine (card_any se st v vm cs ms _ (HC.out.below (((Below.refl _ _).alloc (Nat.le_refl _) _).alloc (by simp) _) (Nat.le_refl _)) (HM.out.below (((Below.refl _ _).alloc (Nat.le_refl _) _).alloc (by simp) _) (Nat.le_refl _))).mono ?_
  rintro e w1 ⟨rfl, hb1⟩
  have hs1 := hb1.size
  go_wp2_with fail
  refine (sum_any _ 2 [1, cardI cs se ms] _ (IRow.new w1 [1, cardI cs se ms] _ _ rfl (fun x hx => by
    have hq := card_bd cs ms _ (cutI_bd se).1
    have hq2 := (cutI_bd se).2
    rcases List.mem_cons.1 hx with rfl | hx
    · decide
    · rw [List.mem_singleton.1 hx]; exact WalkArith.wf_i64 (by unfold cardI; omega))) (by simp)).mono ?_
  rintro e w2 ⟨rfl, rfl⟩
  go_wp2_with fail
  go_ret
  refine ⟨rfl, ?_⟩
  exact ((((Below.refl _ _).alloc (Nat.le_refl _) _).alloc (by simp) _).trans (hb1.mono (by simp; omega))).alloc (by simp at hs1; omega) _

set_option maxRecDepth 100000 in
set_option maxHeartbeats 1000000 in
theorem points_time (num : Nat) (fn : Int) (vm : Value) (rng stp off how : Int) (gn : Value) (xh : Int) (xn : Value) (card : Int) (xi : Value) (flag : Bool) (name value : ByteArray) (se st : Int) (v : Value) (w : World) :
    Calls Try.prog 62 #[nodeV 2 num fn vm rng stp off how gn xh xn card xi flag name value (.slice none 0 0), .agg #[.int .i64 se, v, .int .i64 st]] w fun e w' => e = .returned (.int .i64 1) ∧ Below w.heap.size w w' := by
  obtain ⟨i0, hi, hz0, hz1, hz2⟩ := info_parts Try.infoI
  go_enter Try.func62, Try.ntmps62
  go_wp2_with fail
  refine wp_loop_rounds 1 ?_
  rw [rounds_succ]
  go_wp2_with fail
  obtain ⟨w2, hw2⟩ : ∃ w2, w2 = (w.alloc (.cells #[.int .i64 2, .float .f64 num, .int .i64 fn, vm, .int .i64 rng, .int .i64 stp, .int .i64 off, .int .i64 how, gn, .int .i64 xh, xn, .int .i64 card, xi, .bool flag, .string name, .string value, .slice none 0 0] 59)).alloc (.cells #[.int .i64 se, v, .int .i64 st] 62) := ⟨_, rfl⟩
  have hsz : w2.heap.size = w.heap.size + 2 := by rw [hw2]; simp
  have HS := Lib.hid hsz
  have hb2 : Below w.heap.size w w2 := by rw [hw2]; exact ((Below.refl _ _).alloc (Nat.le_refl _) _).alloc (by simp) _
  have l0 : w2.cell? ⟨w.heap.size, 0, none⟩ = some (.int .i64 2) := by rw [hw2]; rw [World.cell?_alloc_past _ _ _ (by simp)]; exact World.cell?_alloc_at _ _ _ _ rfl
  have HW2 := Lib.hid hw2
  rw [← hw2]
  clear hw2 hsz
  go_loopw [5] (fun v wr => ∃ n : Nat, n ≤ 2 ∧ wr.ownsRow w2.heap.size 3 1 v n (List.replicate n (.int .i64 0)) ∧ Below w2.heap.size w2 wr) (fun v _ => match v with | .slice _ n _ => 2 - n | _ => 0)
  case atStart => exact ⟨0, by omega, World.ownsRow_nil _ _ _ _, Below.refl _ _⟩
  case round =>
    obtain ⟨n, hn, hown, hb⟩ := hrel
    obtain ⟨a, cap, rfl⟩ : ∃ a cap, u5 = .slice a n cap := by
      rcases hown.2 with ⟨rfl, h0⟩ | ⟨g, cap, cur, rfl, _⟩
      · exact ⟨none, 0, by rw [h0]⟩
      · exact ⟨_, cap, rfl⟩
    have hB := hb.size
    have HO := Lib.hid hown
    have HB := Lib.hid hb
    have l1 : wr.cell? ⟨w.heap.size, 0, none⟩ = some (.int .i64 2) := by rw [hb.cell (by have := HS.out; simp only; omega)]; exact l0
    by_cases hlt : n < 2
    · go_wp2_with (at_builtin; refine wpList_append_own _ rfl _ _ 94 rfl w2.heap.size 3 i0 (.int .i64 0) 1 8 Try.underlying94 hi hz0 hz1 hz2 rfl (by decide) _ _ _ rfl (hown.alloc _) ⟨wr.heap.size, 0, none⟩ 1 1 [.int .i64 0] rfl rfl ?c1 ?c2 ?c3 ?c4 ?c5 ?_)
      case c1 => exact one_new _ _ _
      case c2 => intro u hu; simp at hu; subst hu; rfl
      case c3 => unfold maxLen; omega
      case c4 => omega
      case c5 => simp; omega
      intro v' w3 hown' hgrow _
      have HG := Lib.hid hgrow
      have HO' := Lib.hid hown'
      clear hown hgrow hown' hb
      obtain ⟨a', cap', rfl⟩ : ∃ a cap, v' = .slice a (n + 1) cap := by
        rcases HO'.out.2 with ⟨rfl, h0⟩ | ⟨g, cap, cur, rfl, _⟩
        · omega
        · exact ⟨_, cap, rfl⟩
      go_wp2_with fail
      go_roundw
      case rel =>
        refine ⟨n + 1, by omega, ?_, (HB.out.alloc hB _).grown HG.out (by simp; omega) (fun j hj => (HO.out.lt j hj).1)⟩
        rw [List.replicate_succ']
        exact HO'.out
      case measure => simp; omega
    · obtain rfl : n = 2 := by omega
      go_wp2_with fail
      go_ret
      exact ⟨rfl, hb2.trans (HB.out.mono hb2.size)⟩

theorem known15 (w : World) : Calls Try.prog 32 #[] w fun e w' => e = .returned (.bool true) ∧ Below w.heap.size w w' := by
  go_enter Try.func32, Try.ntmps32
  go_wp2_with fail
  refine (card_any 10 1000 _ _ [(⟨#[97]⟩, 4)] [(1, ⟨#[97]⟩, ⟨#[49]⟩)] _ (CRow.one w _ _ _ (((Below.refl _ _).alloc (by simp) _).alloc (by simp) _)) (MRow.one _ _ _ _ _ _ (by simp) (Below.refl _ _))).mono ?_
  rw [kcard]
  rintro e w1 ⟨rfl, hb1⟩
  have hbw1 : Below w.heap.size w w1 := ((((Below.refl _ _).alloc (Nat.le_refl _) _).alloc (by simp) _).alloc (by simp; omega) _).trans (hb1.mono (by simp; omega))
  have hcr : CRow w1 (.slice (some ⟨w.heap.size, 0, none⟩) 1 1) [(⟨#[97]⟩, 4)] := CRow.one w _ _ _ ((((Below.refl _ _).alloc (by simp) _).alloc (by simp) _).trans (hb1.mono (by simp)))
  have hmr : MRow w1 (.slice (some ⟨w.heap.size + 1 + 1, 0, none⟩) 1 1) [(1, ⟨#[97]⟩, ⟨#[49]⟩)] := MRow.one _ _ _ _ _ _ (by simp) (hb1.mono (by simp))
  have HC := Lib.hid hcr
  have HM := Lib.hid hmr
  have HB := Lib.hid hbw1
  have hs1 := hb1.size
  have l0 : w1.cell? ⟨w.heap.size + 1, 0, none⟩ = some (.int .i64 10) := by rw [hb1.cell (by simp)]; rw [World.cell?_alloc_past _ _ _ (by simp)]; exact World.cell?_alloc_at _ _ _ _ (by simp)
  have l1 : w1.cell? ⟨w.heap.size + 1, 1, none⟩ = some (.slice (some ⟨w.heap.size, 0, none⟩) 1 1) := by rw [hb1.cell (by simp)]; rw [World.cell?_alloc_past _ _ _ (by simp)]; exact World.cell?_alloc_at _ _ _ _ (by simp)
  have l2 : w1.cell? ⟨w.heap.size + 1, 2, none⟩ = some (.int .i64 1000) := by rw [hb1.cell (by simp)]; rw [World.cell?_alloc_past _ _ _ (by simp)]; exact World.cell?_alloc_at _ _ _ _ (by simp)
  clear hb1 hcr hmr hbw1
  go_wp2_with fail
  refine (cost_select 0 0 _ 0 0 0 0 _ 0 _ 0 _ false _ _ _ 10 1000 _ _ _ _ HC.out HM.out).mono ?_
  rw [kcard]
  rintro e w2 ⟨rfl, hb2⟩
  have hs2 := hb2.size
  have m0 : w2.cell? ⟨w.heap.size + 1, 0, none⟩ = some (.int .i64 10) := cell_below hb2 (Nat.le_refl _) l0
  have m1 : w2.cell? ⟨w.heap.size + 1, 1, none⟩ = some (.slice (some ⟨w.heap.size, 0, none⟩) 1 1) := cell_below hb2 (Nat.le_refl _) l1
  have m2 : w2.cell? ⟨w.heap.size + 1, 2, none⟩ = some (.int .i64 1000) := cell_below hb2 (Nat.le_refl _) l2
  have hk : sumI [1, 3] = 4 := by decide +kernel
  have HB2 := Lib.hid hb2
  clear hb2
  go_wp2_with fail
  refine (points_time 0 0 _ 0 0 0 0 _ 0 _ 0 _ false _ _ 10 1000 _ _).mono ?_
  rintro e w3 ⟨rfl, hb3⟩
  have HB3 := Lib.hid hb3
  clear hb3
  go_wp2_with fail
  go_ret
  exact ⟨rfl, (HB.out.trans (HB2.out.mono HB.out.size)).trans (HB3.out.mono (HB.out.trans (HB2.out.mono HB.out.size)).size)⟩
end Go.Proofs.Ytdhahnagnemgaaa
