/- What the laws of layer 7 call: known, values, like. -/
import Derived.Test.YtidmbjgnkodiiaaWref
namespace Go.Proofs.Ytidmbjgnkodiiaa
open Go.RowKit
set_option linter.unusedVariables false
set_option linter.unusedSimpArgs false

/-- A row of uint64s in memory. -/
def URow (w : World) (a : Option Addr) (xs : List Nat) : Prop :=
  xs.length ≤ 17592186044416 ∧ (xs ≠ [] → ∃ b off, a = some ⟨b, off, none⟩ ∧ ∀ k, k < xs.length → w.cell? ⟨b, off + k, none⟩ = some (.int .u64 (xs.getD k 0 : Nat)))
theorem FRow.own {w : World} {base : Nat} {e : TypeId} {v : Value} {n : Nat} {xs : List Nat} (h : w.ownsRow base e 1 v n (xs.map (Value.float .f64))) (hm : xs.length ≤ 140737488351232) :
    ∃ a cap, v = .slice a xs.length cap ∧ FRow w a xs := by
  have hn : n = xs.length := by have := h.1; simp at this; omega
  subst hn
  rcases h.2 with ⟨rfl, h0⟩ | ⟨g, cap, cur, rfl, _⟩
  · have hx : xs = [] := List.eq_nil_of_length_eq_zero h0
    subst hx
    exact ⟨none, 0, rfl, hm, fun e => (e rfl).elim⟩
  · refine ⟨_, cap, rfl, hm, fun _ => ⟨g, 0, rfl, fun k hk => ?_⟩⟩
    have := h.cells (g := g) rfl k (.float .f64 (xs.getD k 0)) (by simp [hk])
    rw [Nat.zero_add]
    simpa [Addr.add_lit] using this

theorem Try.infoF : (Try.prog.info? 38).map (fun i => (i.zero, i.size, i.bytes)) = some (some (.float .f64 0), 1, 8) := by kernel_rfl

theorem ksum : ws [4607182418800017408, 4611686018427387904, 4613937818241073152, 4616189618054758400] 4 = (13835058055282163712, 13835058055282163712) := by decide +kernel
theorem kmag : mag 13835058055282163712 13835058055282163712 = 4620693217682128896 := by decide +kernel
theorem kquarter : quarter 13835058055282163712 13835058055282163712 = 2 := by decide +kernel
theorem kturn : turn 4607182418800017408 4611686018427387904 1 = (13835058055282163712, 4607182418800017408) := by decide +kernel

theorem FRow.new (w : World) (xs : List Nat) (c : Array Value) (t : TypeId) (hc : c = (xs.map (Value.float .f64)).toArray) (hm : xs.length ≤ 140737488351232) : FRow (w.alloc (.cells c t)) (some ⟨w.heap.size, 0, none⟩) xs := by
  refine ⟨hm, fun _ => ⟨_, 0, rfl, fun k hk => ?_⟩⟩
  rw [World.cell?_alloc_at _ _ _ _ rfl, hc]
  simp [hk]
theorem URow.new (w : World) (xs : List Nat) (c : Array Value) (t : TypeId) (hc : c = (xs.map (fun n : Nat => Value.int .u64 n)).toArray) (hm : xs.length ≤ 17592186044416) : URow (w.alloc (.cells c t)) (some ⟨w.heap.size, 0, none⟩) xs := by
  refine ⟨hm, fun _ => ⟨_, 0, rfl, fun k hk => ?_⟩⟩
  rw [World.cell?_alloc_at _ _ _ _ rfl, hc]
  simp [hk]
theorem wsum_at {a : Option Addr} {cap n : Nat} {xs : List Nat} {w : World} {r i : Nat} (hn : n = xs.length) (h : FRow w a xs) (hr : ws xs n = (r, i)) :
    Calls Try.prog 48 #[.slice a n cap] w fun e w' => e = .returned (.complex .f64 r i) ∧ ∃ n, w' = w.drewN n := by
  subst hn
  have := wsum_any a cap xs w h
  rw [hr] at this
  exact this

theorem one_new (w : World) (u : Value) (t : TypeId) : ∀ j v, [u][j]? = some v → (w.alloc (.cells #[u] t)).cell? ((⟨w.heap.size, 0, none⟩ : Addr).add j) = some v := by
  intro j v h
  cases j with
  | zero =>
    simp at h; subst h
    rw [show (⟨w.heap.size, 0, none⟩ : Addr).add 0 = ⟨w.heap.size, 0, none⟩ from rfl, World.cell?_alloc_at _ _ _ _ rfl]
    rfl
  | succ j => simp at h
theorem take_snoc (xs : List Nat) (k : Nat) (h : k < xs.length) : xs.take (k + 1) = xs.take k ++ [fx xs k] := by
  rw [List.take_succ_eq_append_getElem h]; simp [fx, h]

theorem fsame_refl (a : Nat) : fsame a a = true := by simp [fsame]
end Go.Proofs.Ytidmbjgnkodiiaa
