/- Lists of labels: Few, Get. -/
import Derived.Test.YtdpigfcnphklgaaDoorLa1
import Derived.Deep.Light
namespace Go.Proofs.YtdpigfcnphklgaaDoor
open Go.RowKit
set_option linter.unusedVariables false
set_option linter.unusedSimpArgs false
set_option maxRecDepth 100000

abbrev Lb := ByteArray × ByteArray
def lenc (m : Lb) : List Value := [.string m.1, .string m.2]
theorem lenc_len (m : Lb) : (lenc m).length = 2 := rfl
def lx (cs : List Lb) (k : Nat) : Lb := cs.getD k (ByteArray.empty, ByteArray.empty)
theorem lx_at {cs : List Lb} {k : Nat} (h : k < cs.length) : lx cs k = cs[k] := by simp [lx, h]
def getL (name : ByteArray) : List Lb → ByteArray
  | [] => ⟨#[]⟩
  | c :: cs => if c.1.toList == name.toList then c.2 else getL name cs
/-- A label's two cells, in a later world. -/
theorem lab_cells {w wr : World} {a : Option Addr} {cs : List Lb} {B k : Nat} (HC : ∀ k (hk : k < cs.length), ∃ b off, a = some ⟨b, off, none⟩ ∧ ∀ i u, (lenc cs[k])[i]? = some u → w.cell? ⟨b, off + (k * 2 + i), none⟩ = some u) (hb : Below B w wr) (hB : w.heap.size ≤ B) (hlt : k < cs.length) :
    ∃ b off, a = some ⟨b, off, none⟩ ∧ wr.cell? ⟨b, off + k * 2, none⟩ = some (.string (lx cs k).1) ∧ wr.cell? ⟨b, off + k * 2 + 1, none⟩ = some (.string (lx cs k).2) := by
  obtain ⟨b, off, rfl, hcc⟩ := HC k hlt
  refine ⟨b, off, rfl, ?_, ?_⟩
  · rw [lx_at hlt]; exact cell_below hb hB (hcc 0 _ rfl)
  · rw [lx_at hlt]; exact cell_below hb hB (hcc 1 _ rfl)

set_option maxHeartbeats 1000000 in
theorem get_any (v : Value) (cs : List Lb) (name : ByteArray) (w : World) (h : Sl lenc w v cs) :
    Calls Tryd.prog 30 #[v, .string name] w fun e w' => e = .returned (.string (getL name cs)) ∧ Below w.heap.size w w' := by
  obtain ⟨a, cap, rfl, hlen, -, hc⟩ := h.split lenc_len
  have HC := Lib.hid hc
  clear hc h
  go_enter Tryd.func30, Tryd.ntmps30
  go_wp2_with fail
  go_loopw [9] (fun i wr => ∃ k : Nat, k ≤ cs.length ∧ i = .int .i64 k ∧ Hid (getL name (cs.drop k) = getL name cs) ∧ Below w.heap.size w wr) (fun i _ => cs.length - (intOf i).toNat)
  case atStart => exact ⟨0, Nat.zero_le _, rfl, rfl, Below.refl _ _⟩
  case round =>
    obtain ⟨k, hk, rfl, HV, hb⟩ := hrel
    by_cases hlt : k < cs.length
    · obtain ⟨b, off, rfl, hk0, hk1⟩ := lab_cells HC.out hb (Nat.le_refl _) hlt
      have HD := Lib.hid (show cs.drop k = lx cs k :: cs.drop (k + 1) by rw [List.drop_eq_getElem_cons hlt]; simp [lx, hlt])
      have hs := hb.size
      have hltz : (k : Int) < (cs.length : Int) := by omega
      by_cases he : ((lx cs k).1.toList == name.toList) = true
      · go_wp2_with fail
        go_ret
        exact ⟨by rw [← HV.out, HD.out, getL, if_pos he] <;> rfl, by first | exact hb.alloc hs _ | exact below_drewN (hb.alloc hs _) _⟩
      · have he2 : ((lx cs k).1.toList == name.toList) = false := by simpa using he
        go_wp2_with fail
        go_roundw
        case rel => exact ⟨k + 1, by omega, by go_num, by show _ = _; rw [← HV.out, HD.out, getL, if_neg he], hb.alloc hs _⟩
        case measure => simp [intOf]; omega
    · have hltz : ¬ (k : Int) < (cs.length : Int) := by omega
      go_wp2_with fail
      go_ret
      exact ⟨by rw [← HV.out, List.drop_eq_nil_of_le (by omega)]; rfl, hb⟩

set_option maxHeartbeats 1000000 in
theorem rget_any (v : Value) (cs : List Lb) (name : ByteArray) (w : World) (h : Sl lenc w v cs) :
    Calls Tryd.prog 31 #[v, .string name] w fun e w' => e = .returned (.string (getL name cs)) ∧ w' = w := by
  obtain ⟨a, cap, rfl, hlen, -, hc⟩ := h.split lenc_len
  have HC := Lib.hid hc
  clear hc h
  go_enter Tryd.func31, Tryd.ntmps31
  go_wp2_with fail
  go_loopw [5] (fun i wr => ∃ k : Nat, k ≤ cs.length ∧ i = .int .i64 k ∧ Hid (getL name (cs.drop k) = getL name cs) ∧ wr = w) (fun i _ => cs.length - (intOf i).toNat)
  case atStart => exact ⟨0, Nat.zero_le _, rfl, rfl, rfl⟩
  case round =>
    obtain ⟨k, hk, rfl, HV, rfl⟩ := hrel
    by_cases hlt : k < cs.length
    · obtain ⟨b, off, rfl, hk0, hk1⟩ := lab_cells HC.out (Below.refl _ _) (Nat.le_refl _) hlt
      have HD := Lib.hid (show cs.drop k = lx cs k :: cs.drop (k + 1) by rw [List.drop_eq_getElem_cons hlt]; simp [lx, hlt])
      have hltz : (k : Int) < (cs.length : Int) := by omega
      have h00 : (0 : Int) ≤ (k : Int) := by omega
      by_cases he : ((lx cs k).1.toList == name.toList) = true
      · go_wp2_with fail
        go_ret
        exact ⟨by rw [← HV.out, HD.out, getL, if_pos he] <;> rfl, rfl⟩
      · have he2 : ((lx cs k).1.toList == name.toList) = false := by simpa using he
        go_wp2_with fail
        go_roundw
        case rel => exact ⟨k + 1, by omega, by go_num, by show _ = _; rw [← HV.out, HD.out, getL, if_neg he], by trivial⟩
        case measure => simp [intOf]; omega
    · have hltz : ¬ (k : Int) < (cs.length : Int) := by omega
      go_wp2_with fail
      go_ret
      exact ⟨by rw [← HV.out, List.drop_eq_nil_of_le (by omega)]; rfl, rfl⟩
end Go.Proofs.YtdpigfcnphklgaaDoor
