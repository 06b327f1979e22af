/- What the laws of layer 7 call: known, values, like. -/
import Derived.Test.YtdhahnagnemgaaaWref
namespace Go.Proofs.Ytdhahnagnemgaaa
open Go.RowKit
set_option linter.unusedVariables false
set_option linter.unusedSimpArgs false

/-- A row of uint64s in memory. -/
def URow (w : World) (a : Option Addr) (xs : List Nat) : Prop :=
  xs.length ≤ 17592186044416 ∧ (xs ≠ [] → ∃ b off, a = some ⟨b, off, none⟩ ∧ ∀ k, k < xs.length → w.cell? ⟨b, off + k, none⟩ = some (.int .u64 (xs.getD k 0 : Nat)))
theorem FRow.own {w : World} {base : Nat} {e : TypeId} {v : Value} {n : Nat} {xs : List Nat} (h : w.ownsRow base e 1 v n (xs.map (Value.float .f64))) (hm : xs.length ≤ 140737488351232) :
    ∃ a cap, v = .slice a xs.length cap ∧ FRow w a xs := by
  have hn : n = xs.length := by have := h.1; simp at this; omega
  subst hn
  rcases h.2 with ⟨rfl, h0⟩ | ⟨g, cap, cur, rfl, _⟩
  · have hx : xs = [] := List.eq_nil_of_length_eq_zero h0
    subst hx
    exact ⟨none, 0, rfl, hm, fun e => (e rfl).elim⟩
  · refine ⟨_, cap, rfl, hm, fun _ => ⟨g, 0, rfl, fun k hk => ?_⟩⟩
    have := h.cells (g := g) rfl k (.float .f64 (xs.getD k 0)) (by simp [hk])
    rw [Nat.zero_add]
    simpa [Addr.add_lit] using this

theorem Try.infoF : (Try.prog.info? 28).map (fun i => (i.zero, i.size, i.bytes)) = some (some (.float .f64 0), 1, 8) := by kernel_rfl

theorem ksum : ws [4607182418800017408, 4611686018427387904, 4613937818241073152, 4616189618054758400] 4 = (13835058055282163712, 13835058055282163712) := by decide +kernel
theorem kmag : mag 13835058055282163712 13835058055282163712 = 4620693217682128896 := by decide +kernel
theorem kquarter : quarter 13835058055282163712 13835058055282163712 = 2 := by decide +kernel
theorem kturn : turn 4607182418800017408 4611686018427387904 1 = (13835058055282163712, 4607182418800017408) := by decide +kernel

theorem FRow.new (w : World) (xs : List Nat) (c : Array Value) (t : TypeId) (hc : c = (xs.map (Value.float .f64)).toArray) (hm : xs.length ≤ 140737488351232) : FRow (w.alloc (.cells c t)) (some ⟨w.heap.size, 0, none⟩) xs := by
  refine ⟨hm, fun _ => ⟨_, 0, rfl, fun k hk => ?_⟩⟩
  rw [World.cell?_alloc_at _ _ _ _ rfl, hc]
  simp [hk]
theorem URow.new (w : World) (xs : List Nat) (c : Array Value) (t : TypeId) (hc : c = (xs.map (fun n : Nat => Value.int .u64 n)).toArray) (hm : xs.length ≤ 17592186044416) : URow (w.alloc (.cells c t)) (some ⟨w.heap.size, 0, none⟩) xs := by
  refine ⟨hm, fun _ => ⟨_, 0, rfl, fun k hk => ?_⟩⟩
  rw [World.cell?_alloc_at _ _ _ _ rfl, hc]
  simp [hk]
theorem wsum_at {a : Option Addr} {cap n : Nat} {xs : List Nat} {w : World} {r i : Nat} (hn : n = xs.length) (h : FRow w a xs) (hr : ws xs n = (r, i)) :
    Calls Try.prog 28 #[.slice a n cap] w fun e w' => e = .returned (.complex .f64 r i) ∧ ∃ n, w' = w.drewN n := by
  subst hn
  have := wsum_any a cap xs w h
  rw [hr] at this
  exact this

theorem one_new (w : World) (u : Value) (t : TypeId) : ∀ j v, [u][j]? = some v → (w.alloc (.cells #[u] t)).cell? ((⟨w.heap.size, 0, none⟩ : Addr).add j) = some v := by
  intro j v h
  cases j with
  | zero =>
    simp at h; subst h
    rw [show (⟨w.heap.size, 0, none⟩ : Addr).add 0 = ⟨w.heap.size, 0, none⟩ from rfl, World.cell?_alloc_at _ _ _ _ rfl]
    rfl
  | succ j => simp at h
theorem take_snoc (xs : List Nat) (k : Nat) (h : k < xs.length) : xs.take (k + 1) = xs.take k ++ [fx xs k] := by
  rw [List.take_succ_eq_append_getElem h]; simp [fx, h]

theorem known7 (w : World) : Calls Try.prog 15 #[] w fun e w' => e = .returned (.bool true) ∧ Below w.heap.size w w' := by
  have h1 : (FloatKind.f64.format.order 13835058055282163712 13835058055282163712) = some .eq := by decide +kernel
  have h2 : (FloatKind.f64.format.order 4620693217682128896 4620693217682128896) = some .eq := by decide +kernel
  have hs : fsame 13835058055282163712 13835058055282163712 = true := by decide +kernel
  have hs2 : fsame 4607182418800017408 4607182418800017408 = true := by decide +kernel
  go_enter Try.func15, Try.ntmps15
  go_wp2_with fail
  refine (wsum_at rfl (FRow.new w [4607182418800017408, 4611686018427387904, 4613937818241073152, 4616189618054758400] _ _ rfl (by decide)) ksum).mono ?_
  rintro e w' ⟨rfl, n, rfl⟩
  go_wp2_with fail
  refine (mag_any _ _ _).mono ?_
  rw [kmag]
  rintro e w' ⟨rfl, n2, rfl⟩
  go_wp2_with fail
  refine (wquarter_any _ _ _).mono ?_
  rw [kquarter]
  rintro e w' ⟨rfl, rfl⟩
  go_wp2_with fail
  refine (turn_any _ _ 1 _ (by decide) (by decide)).mono ?_
  rw [show ((1 : Int) % 4).toNat = 1 from rfl, kturn]
  rintro e w' ⟨rfl, rfl⟩
  go_wp2_with fail
  refine (wsame_any _ _ _ _ _).mono ?_
  rw [hs, hs2]
  rintro e w' ⟨rfl, rfl⟩
  go_wp2_with fail
  go_ret
  exact ⟨rfl, (Below.refl _ _).trans ⟨rfl, rfl, rfl, by simp, fun k hk => Below.heap_alloc _ _ _ hk⟩⟩

set_option maxHeartbeats 400000 in
theorem values_any (a : Option Addr) (cap : Nat) (xs : List Nat) (w : World) (h : URow w a xs) (hx : ∀ x ∈ xs, x < 18446744073709551616) :
    Calls Try.prog 16 #[.slice a xs.length cap] w fun e w' => ∃ a' cap', e = .returned (.slice a' xs.length cap') ∧ FRow w' a' xs ∧ Below w.heap.size w w' := by
  obtain ⟨hm, hc⟩ := h
  have hf := call_frombits
  have HC := Lib.hid hc; clear hc
  have HX := Lib.hid hx; clear hx
  obtain ⟨i0, hi, hz0, hz1, hz2⟩ := info_parts Try.infoF
  go_enter Try.func16, Try.ntmps16
  go_wp2_with fail
  go_loopw [3, 4] (fun v i wr => ∃ k : Nat, k ≤ xs.length ∧ i = .int .i64 k ∧ wr.ownsRow w.heap.size 28 1 v k ((xs.take k).map (Value.float .f64)) ∧ Below w.heap.size w wr) (fun _ i _ => xs.length - (intOf i).toNat)
  case atStart => exact ⟨0, Nat.zero_le _, rfl, by simpa using World.ownsRow_nil _ _ _ _, Below.refl _ _⟩
  case round =>
    obtain ⟨k, hk, rfl, hown, hb⟩ := hrel
    by_cases hlt : k < xs.length
    · obtain ⟨b, off, rfl, hcell⟩ := HC.out (by intro e; simp [e] at hlt)
      have hc0 : wr.cell? ⟨b, off + k, none⟩ = some (.int .u64 (fx xs k : Nat)) := by
        have := hcell k hlt
        rw [hb.cell (World.block_lt_of_cell? w _ this)]
        exact this
      clear hcell
      have hB := hb.size
      have HO := Lib.hid hown
      go_wp2_with (at_builtin; refine wpList_append_own _ rfl _ _ 24 rfl w.heap.size 28 i0 (.float .f64 0) 1 8 Try.underlying24 hi hz0 hz1 hz2 rfl (by decide) _ _ _ rfl (hown.alloc _) ⟨wr.heap.size, 0, none⟩ 1 1 [.float .f64 (fx xs k)] rfl rfl ?c1 ?c2 ?c3 ?c4 ?c5 ?_)
      case c1 => exact one_new _ _ _
      case c2 => intro u hu; simp at hu; subst hu; rfl
      case c3 => unfold maxLen; omega
      case c4 => omega
      case c5 => simp; omega
      intro v' w1 hown' hgrow _
      have HG := Lib.hid hgrow
      have HO' := Lib.hid hown'
      clear hown hgrow hown'
      go_wp2_with fail
      go_roundw
      case rel =>
        refine ⟨k + 1, by omega, by go_num, ?_, (hb.alloc hB _).grown HG.out (by simp; omega) (fun j hj => (HO.out.lt j hj).1)⟩
        have := HO'.out
        rw [take_snoc xs k hlt, List.map_append, List.map_take]
        exact this
      case measure => simp [intOf]; omega
    · obtain rfl : k = xs.length := by omega
      obtain ⟨a', cap', rfl, hrow⟩ := FRow.own (by simpa using hown) (by omega)
      go_wp2
      go_ret
      exact ⟨a', cap', rfl, hrow, hb⟩

theorem fsame_refl (a : Nat) : fsame a a = true := by simp [fsame]
theorem like_any (r i a b : Nat) (w : World) : Calls Try.prog 21 #[.complex .f64 r i, .float .f64 a, .float .f64 b] w fun e w' => e = .returned (.bool (fsame r a && fsame i b)) ∧ w = w' := by
  go_enter Try.func21, Try.ntmps21
  go_wp2_with (go_at_call 18; refine (wsame_any _ _ _ _ _).mono ?_; rintro e w' ⟨rfl, rfl⟩)
  go_ret
  exact ⟨rfl, rfl⟩
theorem like_self (r i : Nat) (w : World) : Calls Try.prog 21 #[.complex .f64 r i, .float .f64 r, .float .f64 i] w fun e w' => e = .returned (.bool true) ∧ w = w' := by
  have := like_any r i r i w
  rw [fsame_refl, fsame_refl] at this
  exact this
theorem wsame_self (r i : Nat) (w : World) : Calls Try.prog 18 #[.complex .f64 r i, .complex .f64 r i] w fun e w' => e = .returned (.bool true) ∧ w = w' := by
  have := wsame_any r i r i w
  rw [fsame_refl, fsame_refl] at this
  exact this

end Go.Proofs.Ytdhahnagnemgaaa
