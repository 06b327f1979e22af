/- Quotes of texts. -/
import Derived.Test.YtdpigfcnphklgaaDoorLa16
import Derived.Lib.UnsafeStr
import Derived.Laws.BytesString
import Derived.Laws.BytesArg
import Derived.Outline
import Derived.Deep.AppendLies
import Derived.Deep.RegionHeld3
namespace Go.Proofs.YtdpigfcnphklgaaDoor
open Go Go.RowKit
set_option linter.unusedVariables false
set_option linter.unusedSimpArgs false
set_option maxRecDepth 100000
theorem Tryd.infoU8' : (Tryd.prog.info? 5).map (fun i => (i.zero, i.size, i.bytes)) = some (some (.int .u8 0), 1, 1) := by kernel_rfl
/-- Bytes that stand as they are. -/
def plainI (c : Int) : Bool := decide (32 ≤ c) && decide (c < 127)
theorem plain_any (c : Int) (w : World) : Calls Tryd.prog 65 #[.int .u8 c] w fun e w' => e = .returned (.bool (plainI c)) ∧ w' = w := by
  by_cases h1 : 32 ≤ c <;> by_cases h2 : c < 127
  all_goals
    go_enter Tryd.func65, Tryd.ntmps65
    go_wp2_with fail
    go_ret
    exact ⟨by simp [plainI, *], rfl⟩
def hexD : List UInt8 := [48, 49, 50, 51, 52, 53, 54, 55, 56, 57, 97, 98, 99, 100, 101, 102]
def hexB (n : Nat) : UInt8 := hexD.getD n 0
def quoteC (c : UInt8) : List UInt8 := if c = 34 ∨ c = 92 then [92, c] else if plainI c.toNat then [c] else [92, 120, hexB (c.toNat / 16), hexB (c.toNat % 16)]
def quoteB (l : List UInt8) : List UInt8 := 34 :: l.flatMap quoteC
def quoteL (l : List UInt8) : List UInt8 := quoteB l ++ [34]
def quoteS (s : ByteArray) : ByteArray := ⟨(quoteL s.data.toList).toArray⟩
theorem quoteC_len (c : UInt8) : (quoteC c).length ≤ 4 := by
  unfold quoteC
  split
  · simp
  · split <;> simp
theorem quoteB_len : ∀ l : List UInt8, (quoteB l).length ≤ 4 * l.length + 1 := by
  intro l
  unfold quoteB
  rw [List.length_cons]
  have : (l.flatMap quoteC).length ≤ 4 * l.length := by
    induction l with
    | nil => simp
    | cons c r ih => rw [List.flatMap_cons, List.length_append, List.length_cons]; have := quoteC_len c; omega
  omega
theorem quoteB_snoc (s : ByteArray) (k : Nat) (h : k < s.size) : quoteB (s.data.toList.take (k + 1)) = quoteB (s.data.toList.take k) ++ quoteC s[k] := by
  have e : s.data.toList.take (k + 1) = s.data.toList.take k ++ [s[k]] := by
    rw [List.take_succ_eq_append_getElem (by simpa using h)]; rfl
  rw [e]
  unfold quoteB
  simp

theorem byteCells_one' (l : List UInt8) : ∀ u ∈ Lib.byteCells l, u.oneCell' = true := by
  intro u hu
  obtain ⟨b, _, rfl⟩ := List.mem_map.1 hu
  rfl
/-- A row of bytes of one's own, read as a text. -/
theorem conv_own {w : World} {base n : Nat} {v : Value} {l : List UInt8} (h : w.ownsRow base 5 1 v n (Lib.byteCells l)) :
    (convert 80 9 v).run Tryd.prog w = .ok (.string ⟨l.toArray⟩) w := by
  have hn : n = l.length := by have := h.1; rw [Lib.byteCells_length] at this; omega
  subst hn
  rcases h.2 with ⟨rfl, h0⟩ | ⟨g, cap, cur, rfl, _, _, _, _, _⟩
  · obtain rfl := List.eq_nil_of_length_eq_zero h0
    exact run_convert_bytes_nil w _ _ Tryd.underlying80 Tryd.underlying5 0 0 _ Tryd.underlying9
  · have e := run_convert_bytes_arg (P := Tryd.prog) w _ _ Tryd.underlying80 Tryd.underlying5 g 0 l.length cap (l.map fun b => (b.toNat : Int)) (by simp) (fun i hi => by
      have h1 := h.cells (g := g) rfl i (.int .u8 l[i].toNat) (by simp [Lib.byteCells, hi])
      rw [Addr.add_lit] at h1
      rw [h1]
      simp [List.getD, hi]) _ Tryd.underlying9
    rw [e]
    have : strOfNums (l.map fun b => (b.toNat : Int)) = ⟨l.toArray⟩ := by
      unfold strOfNums
      rw [List.map_map]
      have : ((fun n : Int => UInt8.ofNat n.toNat) ∘ fun b : UInt8 => (b.toNat : Int)) = id := by
        funext b
        simp
      rw [this, List.map_id]
    rw [this]
def hexI (i : Int) : Int := ((hexB i.toNat).toNat : Int)
theorem shr_run (ci : Int) (w : World) : (binOp .shr 5 (.int .u8 ci) (.int .u64 4)).run Tryd.prog w = .ok (.int .u8 (ci / 16)) w := by
  rw [binOp_shr, shift_shr .u8 .u64 ci 4 (by omega) (by decide)]
  rfl
theorem and_fin : ∀ n : Fin 256, bits .and .u8 ((n.1 : Nat) : Int) 15 = ((n.1 % 16 : Nat) : Int) := by decide +kernel
theorem and_bits {ci : Int} (h0 : 0 ≤ ci) (h1 : ci ≤ 255) : bits .and .u8 ci 15 = ci % 16 := by
  have h := and_fin ⟨ci.toNat, by omega⟩
  have e : ((ci.toNat : Nat) : Int) = ci := by omega
  simp only at h
  rw [e] at h
  rw [h, Int.natCast_emod, e]
  rfl
theorem hexS_at : ∀ n : Fin 16, ((⟨#[48, 49, 50, 51, 52, 53, 54, 55, 56, 57, 97, 98, 99, 100, 101, 102]⟩ : ByteArray)[n.1]'n.2) = hexB n.1 := by decide +kernel
theorem hex_run {i : Int} (h0 : 0 ≤ i) (h1 : i < 16) (w : World) : (Instr.index 9 (.string ⟨#[48, 49, 50, 51, 52, 53, 54, 55, 56, 57, 97, 98, 99, 100, 101, 102]⟩) (.int .u8 i)).run Tryd.prog w = .ok (.int .u8 (hexI i)) w := by
  rw [run_index_string _ _ _ _ _ Tryd.underlying9, dif_pos ⟨h0, h1⟩]
  have := hexS_at ⟨i.toNat, by omega⟩
  simp only at this
  rw [this]
  rfl
set_option maxHeartbeats 4000000 in
theorem quote_any (s : ByteArray) (w : World) (hs : s.size ≤ 1000000) :
    Calls Tryd.prog 20 #[.string s] w fun e w' => e = .returned (.string (quoteS s)) ∧ Below w.heap.size w w' := by
  obtain ⟨i0, hi, hz0, hz1, hz2⟩ := info_parts Tryd.infoU8'
  go_enter Tryd.func20, Tryd.ntmps20
  go_wp2_with fail
  go_loopw [3, 9] (fun v i wr => ∃ k : Nat, k ≤ s.size ∧ i = .int .i64 k ∧ wr.ownsRow w.heap.size 5 1 v (quoteB (s.data.toList.take k)).length (Lib.byteCells (quoteB (s.data.toList.take k))) ∧ Hid (Below w.heap.size w wr)) (fun _ i _ => s.size - (intOf i).toNat)
  case atStart => exact ⟨0, Nat.zero_le _, rfl, World.ownsRow_lit w #[.int .u8 34] 1 (Nat.le_refl _) (by unfold maxLen; omega) rfl, (Below.refl _ _).alloc (Nat.le_refl _) _⟩
  case round =>
    obtain ⟨k, hk, rfl, hown, HB⟩ := hrel
    have hBz := HB.out.size
    by_cases hlt : k < s.size
    · have hltz : (k : Int) < (s.size : Int) := by omega
      have h00 : (0 : Int) ≤ (k : Int) := by omega
      obtain ⟨c, hc⟩ : ∃ c, c = s[k] := ⟨_, rfl⟩
      have HQ := Lib.hid (quoteB_snoc s k hlt)
      rw [← hc] at HQ
      have hqb := quoteB_len (s.data.toList.take k)
      rw [List.length_take] at hqb
      have hql : (quoteB (s.data.toList.take k)).length ≤ 4 * s.size + 1 := by omega
      clear hqb
      have hci : (s[k].toNat : Int) = (c.toNat : Int) := by rw [hc]
      clear hc
      obtain ⟨ci, hci2⟩ : ∃ ci : Int, ci = (c.toNat : Int) := ⟨_, rfl⟩
      have hc0 : 0 ≤ ci := by omega
      have hc1 : ci ≤ 255 := by have := c.toNat_lt; omega
      rw [← hci2] at hci
      have HCI := Lib.hid hci2
      clear hci2
      have HO := Lib.hid hown
      generalize hLe : quoteB (s.data.toList.take k) = L at hown HO hql
      rw [hLe] at HQ
      have HLe := Lib.hid hLe
      clear hLe
      by_cases h34 : ci = 34 ∨ ci = 92
      · have HN := Lib.hid (show quoteC c = [92, c] by
          rw [quoteC, if_pos]
          have := HCI.out
          rcases h34 with h | h
          · exact .inl (UInt8.toNat_inj.1 (by show c.toNat = 34; omega))
          · exact .inr (UInt8.toNat_inj.1 (by show c.toNat = 92; omega)))
        have HNC := Lib.hid (show Lib.byteCells [92, c] = [.int .u8 92, .int .u8 ci] by rw [HCI.out]; rfl)
        by_cases h34c : ci = 34
        case' pos => have h34a : (ci == 34) = true := by simpa using h34c
        case' neg =>
          have h34a : (ci == 34) = false := by simpa using h34c
          have h34b : (ci == 92) = true := by simp; omega
        all_goals
          clear h34 h34c
          go_wp2_with (at_builtin; refine wpList_append_own _ rfl _ _ 80 rfl w.heap.size 5 i0 (.int .u8 0) 1 1 Tryd.underlying80 hi hz0 hz1 hz2 rfl (by decide) _ _ _ rfl (hown.alloc _) ⟨wr.heap.size, 0, none⟩ 2 2 [.int .u8 92, .int .u8 ci] rfl rfl ?c1 ?c2 ?c3 ?c4 ?c5 ?_)
          case c1 => exact World.news_of_block (heap_new _ _)
          case c2 => intro u hu; simp at hu; rcases hu with rfl | rfl <;> rfl
          case c3 => unfold maxLen; omega
          case c4 => omega
          case c5 => simp; omega
          intro v' w1 hown' hgrow _
          have HG := Lib.hid ((HB.out.alloc hBz (.cells #[.int .u8 92, .int .u8 ci] 5)).grown hgrow (by simp; omega) (fun j hj => (HO.out.lt j hj).1))
          have HO' := Lib.hid hown'
          clear hown hgrow hown'
          go_wp2_with fail
          go_roundw
          case rel =>
            refine ⟨k + 1, by omega, by go_num, ?_, HG.out⟩
            rw [HQ.out, HN.out, Lib.byteCells_append, HNC.out, List.length_append]
            exact HO'.out
          case measure => simp [intOf]; omega
      · have h34a : (ci == 34) = false := by simp; omega
        have h34b : (ci == 92) = false := by simp; omega
        have hcn : ¬ (c = 34 ∨ c = 92) := by
          have := HCI.out
          rintro (rfl | rfl)
          · exact h34 (.inl this)
          · exact h34 (.inr this)
        by_cases hp : plainI ci = true
        · have HN := Lib.hid (show quoteC c = [c] by rw [quoteC, if_neg hcn, ← HCI.out, if_pos hp])
          have HNC := Lib.hid (show Lib.byteCells [c] = [.int .u8 ci] by rw [HCI.out]; rfl)
          clear h34 hcn
          go_wp2_with fail
          refine (plain_any _ _).mono ?_
          rintro e w1 ⟨rfl, rfl⟩
          rw [hp]
          go_wp2_with (at_builtin; refine wpList_append_own _ rfl _ _ 80 rfl w.heap.size 5 i0 (.int .u8 0) 1 1 Tryd.underlying80 hi hz0 hz1 hz2 rfl (by decide) _ _ _ rfl (hown.alloc _) ⟨w1.heap.size, 0, none⟩ 1 1 [.int .u8 ci] rfl rfl ?c1 ?c2 ?c3 ?c4 ?c5 ?_)
          case c1 => exact World.news_of_block (heap_new _ _)
          case c2 => intro u hu; simp at hu; rcases hu with rfl <;> rfl
          case c3 => unfold maxLen; omega
          case c4 => omega
          case c5 => simp; omega
          intro v' w2 hown' hgrow _
          have HG := Lib.hid ((HB.out.alloc hBz (.cells #[.int .u8 ci] 5)).grown hgrow (by simp; omega) (fun j hj => (HO.out.lt j hj).1))
          have HO' := Lib.hid hown'
          clear hown hgrow hown'
          go_wp2_with fail
          go_roundw
          case rel =>
            refine ⟨k + 1, by omega, by go_num, ?_, HG.out⟩
            rw [HQ.out, HN.out, Lib.byteCells_append, HNC.out, List.length_append]
            exact HO'.out
          case measure => simp [intOf]; omega
        · have hp2 : plainI ci = false := by simpa using hp
          have HN := Lib.hid (show quoteC c = [92, 120, hexB (c.toNat / 16), hexB (c.toNat % 16)] by rw [quoteC, if_neg hcn, ← HCI.out, if_neg hp])
          have HNC := Lib.hid (show Lib.byteCells [92, 120, hexB (c.toNat / 16), hexB (c.toNat % 16)] = [.int .u8 92, .int .u8 120, .int .u8 (hexI (ci / 16)), .int .u8 (hexI (ci % 16))] by
            have e1 : (ci / 16).toNat = c.toNat / 16 := by rw [HCI.out]; omega
            have e2 : (ci % 16).toNat = c.toNat % 16 := by rw [HCI.out]; omega
            rw [hexI, hexI, e1, e2]; rfl)
          have R1 : ∀ w : World, (binOp .shr 5 (.int .u8 ci) (.int .u64 4)).run Tryd.prog w = .ok (.int .u8 (ci / 16)) w := shr_run ci
          have R2 := and_bits hc0 hc1
          have R3 := fun w => hex_run (i := ci / 16) (by omega) (by omega) w
          have R4 := fun w => hex_run (i := ci % 16) (by omega) (by omega) w
          clear h34 hp hcn
          go_wp2_with fail
          refine (plain_any _ _).mono ?_
          rintro e w1 ⟨rfl, rfl⟩
          rw [hp2]
          go_wp2_with fail
          go_region_held3 (fun w' => True) (trivial)
            (first
              | (refine step_append_rd rfl (.tmp 34) (.tmp 41) _ rfl w.heap.size 5 i0 (.int .u8 0) 1 1 Tryd.underlying80 hi hz0 hz1 hz2 rfl (by decide) u3 L.length (Lib.byteCells L) rfl (World.ownsRow.alloc hown _) (some ⟨w1.heap.size, 0, none⟩) 4 4 [.int .u8 92, .int .u8 120, .int .u8 (hexI (ci / 16)), .int .u8 (hexI (ci % 16))] rfl (fun e => by cases e) rfl ?_ ?_ ?_ ?_ ?_ ?_
                 (exact fun ad e j u hu => by injection e with e; subst e; exact World.news_of_block (heap_new w1.drew _) j u hu)
                 (intro u hu; simp at hu; rcases hu with rfl | rfl | rfl | rfl <;> rfl)
                 (unfold maxLen; omega)
                 (omega)
                 (simp <;> omega)
                 intro v' w2 hown' hgrow))
          all_goals
            have HG := Lib.hid ((below_drewN (HB.out.alloc hBz (.cells #[.int .u8 92, .int .u8 120, .int .u8 (hexI (ci / 16)), .int .u8 (hexI (ci % 16))] 5)) 1).grown hgrow (by simp; omega) (fun j hj => (HO.out.lt j hj).1))
            have HO' := Lib.hid hown'
            clear hown hgrow hown'
            go_wp2_with fail
            have HE : ∃ k_1 : Nat, k_1 ≤ s.size ∧ Value.int IntKind.i64 ((k : Int) + 1) = .int .i64 k_1 ∧ w2.ownsRow w.heap.size 5 1 v' (quoteB (s.data.toList.take k_1)).length (Lib.byteCells (quoteB (s.data.toList.take k_1))) ∧ Hid (Below w.heap.size w w2) := by
              refine ⟨k + 1, by omega, by go_num, ?_, HG.out⟩
              rw [HQ.out, HN.out, Lib.byteCells_append, HNC.out, List.length_append]
              exact HO'.out
            go_roundw
            case rel => exact HE
            case measure => simp [intOf]; omega
    · obtain rfl : k = s.size := by omega
      have hltz : ¬ (s.size : Int) < (s.size : Int) := by omega
      have hqb := quoteB_len (s.data.toList.take s.size)
      rw [List.length_take] at hqb
      have HFin := Lib.hid (show quoteL s.data.toList = quoteB (s.data.toList.take s.size) ++ [34] by rw [List.take_of_length_le (by simp)]; rfl)
      have HO := Lib.hid hown
      generalize quoteB (s.data.toList.take s.size) = L at hown HO hqb HFin
      go_wp2_with (at_builtin; refine wpList_append_own _ rfl _ _ 80 rfl w.heap.size 5 i0 (.int .u8 0) 1 1 Tryd.underlying80 hi hz0 hz1 hz2 rfl (by decide) _ _ _ rfl (hown.alloc _) ⟨wr.heap.size, 0, none⟩ 1 1 [.int .u8 34] rfl rfl ?c1 ?c2 ?c3 ?c4 ?c5 ?_)
      try (case c1 => exact World.news_of_block (heap_new _ _))
      case c2 => first | rfl | (intro u hu; simp at hu; rcases hu with rfl <;> rfl)
      case c3 => unfold maxLen; omega
      case c4 => omega
      case c5 => first | omega | (simp; omega)
      intro v' w2 hown' hgrow _
      have HG := Lib.hid ((HB.out.alloc hBz (.cells #[.int .u8 34] 5)).grown hgrow (by simp; omega) (fun j hj => (HO.out.lt j hj).1))
      have RC := conv_own (l := L ++ [34]) (by rw [Lib.byteCells_append]; exact hown')
      clear hown hgrow hown'
      go_wp2_with fail
      go_ret
      exact ⟨by rw [quoteS, HFin.out] <;> rfl, HG.out⟩
end Go.Proofs.YtdpigfcnphklgaaDoor
