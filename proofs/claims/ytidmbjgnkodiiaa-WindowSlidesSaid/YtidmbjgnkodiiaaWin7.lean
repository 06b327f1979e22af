/- Contracts of Cut. -/
import Derived.Test.YtidmbjgnkodiiaaWin6
import Derived.Test.YtidmbjgnkodiiaaWlaw
namespace Go.Proofs.Ytidmbjgnkodiiaa
open Go.RowKit
set_option linter.unusedVariables false
set_option linter.unusedSimpArgs false

@[go_sem] theorem run_store_float {P : Program} {w : World} {a : Addr} {m : Mode} (b : Nat) : (store a (.float .f64 b) m).run P w = stored P w a (.float .f64 b) m := run_store P w a _ m rfl

def tenc (s : Int × Nat) : List Value := [.int .i64 s.1, .float .f64 s.2]
theorem tenc_len (x : Int × Nat) : (tenc x).length = 2 := rfl
def inside (a b : Int) (s : Int × Nat) : Bool := a < s.1 && s.1 ≤ b
def cutL (a b : Int) (l : List (Int × Nat)) : List (Int × Nat) := l.filter (inside a b)
theorem Try.infoS : (Try.prog.info? 45).map (fun i => (i.zero, i.size, i.bytes)) = some (some (.agg #[.int .i64 0, .float .f64 0]), 2, 16) := by kernel_rfl
theorem two_new (w : World) (u v : Value) (t : TypeId) : ∀ j x, [u, v][j]? = some x → (w.alloc (.cells #[u, v] t)).cell? ((⟨w.heap.size, 0, none⟩ : Addr).add j) = some x := by
  intro j x hj
  match j, hj with
  | 0, hj => simp at hj; subst hj; exact World.cell?_alloc_at _ _ _ _ rfl
  | 1, hj => simp at hj; subst hj; exact World.cell?_alloc_at _ _ _ _ rfl
theorem cut_snoc (a b : Int) (l : List (Int × Nat)) (k : Nat) (h : k < l.length) : cutL a b (l.take (k + 1)) = cutL a b (l.take k) ++ if inside a b l[k] then [l[k]] else [] := by
  unfold cutL
  rw [List.take_succ_eq_append_getElem h, List.filter_append]
  congr 1
  by_cases h : inside a b l[k] <;> simp [h]
theorem cut_len (a b : Int) (l : List (Int × Nat)) : (cutL a b l).length ≤ l.length := List.length_filter_le _ _
theorem cut_take_len (a b : Int) (l : List (Int × Nat)) (k : Nat) : (cutL a b (l.take k)).length ≤ l.length := Nat.le_trans (cut_len _ _ _) (by simp; omega)

set_option maxRecDepth 100000 in
set_option maxHeartbeats 1000000 in
theorem cut8_any (v : Value) (l : List (Int × Nat)) (fr to : Int) (w : World) (h : Sl tenc w v l) (hl : l.length ≤ 1000000) :
    Calls Try.prog 15 #[v, .int .i64 fr, .int .i64 to] w fun e w' => ∃ v', e = .returned v' ∧ Sl tenc w' v' (cutL fr to l) ∧ Below w.heap.size w w' := by
  obtain ⟨a, cap, rfl, hlen, -, hc⟩ := h.split tenc_len
  have HC := Lib.hid hc
  clear hc h
  obtain ⟨i0, hi, hz0, hz1, hz2⟩ := info_parts Try.infoS
  go_enter Try.func15, Try.ntmps15
  go_wp2_with fail
  go_loopw [7, 12] (fun v i wr => ∃ (k : Nat), k ≤ l.length ∧ i = .int .i64 k ∧ wr.ownsRow w.heap.size 45 2 v (cutL fr to (l.take k)).length ((cutL fr to (l.take k)).flatMap tenc) ∧ Below w.heap.size w wr) (fun _ i _ => l.length - (intOf i).toNat)
  case atStart => exact ⟨0, Nat.zero_le _, rfl, by simpa [cutL] using World.ownsRow_nil _ _ _ _, Below.refl _ _⟩
  case round =>
    obtain ⟨k, hk, rfl, hown, hb⟩ := hrel
    have hB := hb.size
    have HO := Lib.hid hown
    have HB := Lib.hid hb
    by_cases hlt : k < l.length
    · obtain ⟨b, off, rfl, hcc⟩ := HC.out k hlt
      obtain ⟨x, hx⟩ : ∃ x, x = l[k] := ⟨_, rfl⟩
      rw [← hx] at hcc
      have hs := cut_snoc fr to l k hlt
      rw [← hx] at hs
      have HS := Lib.hid hs
      have hct := cut_take_len fr to l k
      have k0 : wr.cell? ⟨b, off + k * 2, none⟩ = some (.int .i64 x.1) := cell_below hb (Nat.le_refl _) (hcc 0 _ rfl)
      have k1 : wr.cell? ⟨b, off + k * 2 + 1, none⟩ = some (.float .f64 x.2) := cell_below hb (Nat.le_refl _) (hcc 1 _ rfl)
      clear hcc hs hx hb
      obtain ⟨t, y⟩ := x
      simp only at k0 k1
      have hk0 : (0 : Int) ≤ (k : Int) := Int.natCast_nonneg _
      have hk1 : (k : Int) < (l.length : Int) := by omega
      by_cases h1 : fr < t
      · by_cases h2 : t ≤ to
        · have he : inside fr to (t, y) = true := by simp [inside, h1, h2]
          have HE := Lib.hid he
          clear he
          go_wp2_with (at_builtin; refine wpList_append_own _ rfl _ _ 22 rfl w.heap.size 45 i0 (.agg #[.int .i64 0, .float .f64 0]) 2 16 Try.underlying22 hi hz0 hz1 hz2 rfl (by decide) _ _ _ rfl ((hown.alloc _).alloc _) ⟨wr.heap.size + 1, 0, none⟩ 1 1 [.int .i64 t, .float .f64 y] rfl rfl ?c1 ?c2 ?c3 ?c4 ?c5 ?_)
          case c1 => have := two_new (wr.alloc (.cells #[.int .i64 t, .float .f64 y] 45)) (.int .i64 t) (.float .f64 y) 45; simpa using this
          case c2 => intro u hu; simp at hu; rcases hu with rfl | rfl <;> rfl
          case c3 => unfold maxLen; omega
          case c4 => omega
          case c5 => simp; omega
          intro v' w1 hown' hgrow _
          have HG := Lib.hid hgrow
          have HO' := Lib.hid hown'
          clear hown hgrow hown'
          go_wp2_with fail
          go_roundw
          case rel =>
            refine ⟨k + 1, by omega, by go_num, ?_, ((HB.out.alloc hB _).alloc (by simp; omega) _).grown HG.out (by simp; omega) (fun j hj => (HO.out.lt j hj).1)⟩
            rw [HS.out, HE.out]
            simp only [if_true, List.length_append, List.flatMap_append]
            exact HO'.out
          case measure => simp [intOf]; omega
        · have he : inside fr to (t, y) = false := by simp [inside]; omega
          have HE := Lib.hid he
          clear he
          go_wp2_with fail
          go_roundw
          case rel =>
            refine ⟨k + 1, by omega, by go_num, ?_, HB.out.alloc hB _⟩
            rw [HS.out, HE.out]
            simpa using HO.out.alloc _
          case measure => simp [intOf]; omega
      · have he : inside fr to (t, y) = false := by simp [inside]; omega
        have HE := Lib.hid he
        clear he
        go_wp2_with fail
        go_roundw
        case rel =>
          refine ⟨k + 1, by omega, by go_num, ?_, HB.out.alloc hB _⟩
          rw [HS.out, HE.out]
          simpa using HO.out.alloc _
        case measure => simp [intOf]; omega
    · obtain rfl : k = l.length := by omega
      have hsl : Sl tenc wr u7 (cutL fr to l) := Sl.own tenc_len (by decide) (by rw [List.take_of_length_le (Nat.le_refl _)] at hown; exact hown)
      go_wp2_with fail
      go_ret
      exact ⟨_, rfl, hsl, HB.out⟩
end Go.Proofs.Ytidmbjgnkodiiaa
