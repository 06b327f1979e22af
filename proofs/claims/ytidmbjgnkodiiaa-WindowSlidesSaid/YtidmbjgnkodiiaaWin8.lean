/- Contracts of the reference's Cut. -/
import Derived.Test.YtidmbjgnkodiiaaWin7
namespace Go.Proofs.Ytidmbjgnkodiiaa
open Go.RowKit
set_option linter.unusedVariables false
set_option linter.unusedSimpArgs false

set_option maxRecDepth 100000 in
set_option maxHeartbeats 1000000 in
theorem rcut8_any (v : Value) (l : List (Int × Nat)) (fr to : Int) (w : World) (h : Sl tenc w v l) (hl : l.length ≤ 1000000) :
    Calls Try.prog 32 #[v, .int .i64 fr, .int .i64 to] w fun e w' => ∃ v', e = .returned v' ∧ Sl tenc w' v' (cutL fr to l) ∧ Below w.heap.size w w' := by
  obtain ⟨a, cap, rfl, hlen, -, hc⟩ := h.split tenc_len
  have HC := Lib.hid hc
  clear hc h
  obtain ⟨i0, hi, hz0, hz1, hz2⟩ := info_parts Try.infoS
  go_enter Try.func32, Try.ntmps32
  go_wp2_with fail
  go_loopw [7, 8] (fun v i wr => ∃ (k : Nat), k ≤ l.length ∧ i = .int .i64 k ∧ wr.ownsRow w.heap.size 45 2 v (cutL fr to (l.take k)).length ((cutL fr to (l.take k)).flatMap tenc) ∧ Below w.heap.size w wr) (fun _ i _ => l.length - (intOf i).toNat)
  case atStart => exact ⟨0, Nat.zero_le _, rfl, by simpa [cutL] using World.ownsRow_nil _ _ _ _, Below.refl _ _⟩
  case round =>
    obtain ⟨k, hk, rfl, hown, hb⟩ := hrel
    have hB := hb.size
    have HO := Lib.hid hown
    have HB := Lib.hid hb
    by_cases hlt : k < l.length
    · obtain ⟨b, off, rfl, hcc⟩ := HC.out k hlt
      obtain ⟨x, hx⟩ : ∃ x, x = l[k] := ⟨_, rfl⟩
      rw [← hx] at hcc
      have hs := cut_snoc fr to l k hlt
      rw [← hx] at hs
      have HS := Lib.hid hs
      have hct := cut_take_len fr to l k
      have k0 : wr.cell? ⟨b, off + k * 2, none⟩ = some (.int .i64 x.1) := cell_below hb (Nat.le_refl _) (hcc 0 _ rfl)
      have k1 : wr.cell? ⟨b, off + k * 2 + 1, none⟩ = some (.float .f64 x.2) := cell_below hb (Nat.le_refl _) (hcc 1 _ rfl)
      clear hcc hs hx hb
      obtain ⟨t, y⟩ := x
      simp only at k0 k1
      have hk0 : (0 : Int) ≤ (k : Int) := Int.natCast_nonneg _
      have hk1 : (k : Int) < (l.length : Int) := by omega
      by_cases h1 : fr < t
      · by_cases h2 : t ≤ to
        · have he : inside fr to (t, y) = true := by simp [inside, h1, h2]
          have HE := Lib.hid he
          clear he
          go_wp2_with (at_builtin; refine wpList_append_own _ rfl _ _ 22 rfl w.heap.size 45 i0 (.agg #[.int .i64 0, .float .f64 0]) 2 16 Try.underlying22 hi hz0 hz1 hz2 rfl (by decide) _ _ _ rfl (hown.alloc _) ⟨wr.heap.size, 0, none⟩ 1 1 [.int .i64 t, .float .f64 y] rfl rfl ?c1 ?c2 ?c3 ?c4 ?c5 ?_)
          case c1 => exact two_new wr (.int .i64 t) (.float .f64 y) 45
          case c2 => intro u hu; simp at hu; rcases hu with rfl | rfl <;> rfl
          case c3 => unfold maxLen; omega
          case c4 => omega
          case c5 => simp; omega
          intro v' w1 hown' hgrow _
          have HG := Lib.hid hgrow
          have HO' := Lib.hid hown'
          clear hown hgrow hown'
          go_wp2_with fail
          go_roundw
          case rel =>
            refine ⟨k + 1, by omega, by go_num, ?_, (HB.out.alloc hB _).grown HG.out (by simp; omega) (fun j hj => (HO.out.lt j hj).1)⟩
            rw [HS.out, HE.out]
            simp only [if_true, List.length_append, List.flatMap_append]
            exact HO'.out
          case measure => simp [intOf]; omega
        · have he : inside fr to (t, y) = false := by simp [inside]; omega
          have HE := Lib.hid he
          clear he
          go_wp2_with fail
          go_roundw
          case rel =>
            refine ⟨k + 1, by omega, by go_num, ?_, HB.out⟩
            rw [HS.out, HE.out]
            simpa using HO.out
          case measure => simp [intOf]; omega
      · have he : inside fr to (t, y) = false := by simp [inside]; omega
        have HE := Lib.hid he
        clear he
        go_wp2_with fail
        go_roundw
        case rel =>
          refine ⟨k + 1, by omega, by go_num, ?_, HB.out⟩
          rw [HS.out, HE.out]
          simpa using HO.out
        case measure => simp [intOf]; omega
    · obtain rfl : k = l.length := by omega
      have hsl : Sl tenc wr u7 (cutL fr to l) := Sl.own tenc_len (by decide) (by rw [List.take_of_length_le (Nat.le_refl _)] at hown; exact hown)
      go_wp2_with fail
      go_ret
      exact ⟨_, rfl, hsl, HB.out⟩
end Go.Proofs.Ytidmbjgnkodiiaa
