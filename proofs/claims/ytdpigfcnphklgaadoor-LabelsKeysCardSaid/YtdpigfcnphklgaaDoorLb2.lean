/- Keys of labels. -/
import Derived.Test.YtdpigfcnphklgaaDoorLb1
import Derived.Test.YtdpigfcnphklgaaDoorLa16
import Derived.Lib.LaidTab
namespace Go.Proofs.YtdpigfcnphklgaaDoor
open Go Go.RowKit
set_option linter.unusedVariables false
set_option linter.unusedSimpArgs false
set_option maxRecDepth 100000
/-- The table that strconv.Itoa reads. -/
def Tab (w : World) : Prop := Lib.TabIs Tryd.prog w "internal/strconv.uint64pow10" .u64 Lib.pow10Tab
theorem Tab.below {w w' : World} {B : Nat} (h : Tab w) (hb : Below B w w') (hB : w.heap.size ≤ B) : Tab w' := by
  unfold Tab Lib.TabIs World.var? at h ⊢
  cases hg : Tryd.prog.globalNamed "internal/strconv.uint64pow10" with
  | none => rw [hg] at h; cases h
  | some g =>
    rw [hg] at h
    simp only [Option.bind_some] at h ⊢
    have hlt : g < w.heap.size := by
      rcases Nat.lt_or_ge g w.heap.size with h' | h'
      · exact h'
      · rw [Array.getElem?_eq_none h'] at h; cases h
    rw [hb.block g (by omega)]
    exact h
def itoaB (n : Int) : ByteArray := ⟨(Lib.itoa n).toArray⟩
theorem itoa_any (n : Int) (w : World) (h0 : -9223372036854775808 ≤ n) (h1 : n ≤ 9223372036854775807) (ht : Tab w) :
    Calls Tryd.prog 85 #[.int .i64 n] w fun e w' => e = .returned (.string (itoaB n)) ∧ Below w.heap.size w w' :=
  (Tryd.strconv_Itoa n h0 h1 w ht).mono fun e w' ⟨he, k, os, hw⟩ => ⟨he, by rw [hw]; exact ⟨rfl, rfl, rfl, by simp [Sort.grow, World.drewN], fun j hj => by simp [Sort.grow, World.drewN, Array.getElem?_append, hj]⟩⟩
theorem decDigits_len : ∀ (k u : Nat), u < 10 ^ (k + 1) → (Lib.decDigits u).length ≤ k + 1
  | k, u, h => by
    rw [Lib.decDigits]
    split
    · simp
    · rename_i h2
      cases k with
      | zero => omega
      | succ k =>
        have := decDigits_len k (u / 10) (by rw [Nat.pow_succ] at h; omega)
        simp
        omega
theorem itoaB_size {n : Int} (h0 : 0 ≤ n) (h1 : n ≤ 9223372036854775807) : (itoaB n).size ≤ 19 := by
  have hl : (itoaB n).size = (Lib.itoa n).length := by
    show (Lib.itoa n).toArray.size = _
    simp
  rw [hl, Lib.itoa, if_neg (by omega)]
  exact decDigits_len 18 n.toNat (by omega)
/-- A text with its length ahead. -/
def colonS : ByteArray := ⟨#[58]⟩
def pieceS (s : ByteArray) : ByteArray := itoaB s.size ++ colonS ++ s
def pieceB (s : ByteArray) : List UInt8 := (pieceS s).data.toList
def keyBytes (l : List Lb) : List UInt8 := l.flatMap fun x => pieceB x.1 ++ pieceB x.2
def keyL (l : List Lb) : ByteArray := ⟨(keyBytes l).toArray⟩
theorem pieceS_size {s : ByteArray} (h : s.size ≤ 1000000) : (pieceS s).size ≤ s.size + 20 := by
  have := itoaB_size (n := (s.size : Int)) (by omega) (by omega)
  unfold pieceS
  rw [ByteArray.size_append, ByteArray.size_append]
  have : colonS.size = 1 := rfl
  omega
def SizesOk (l : List Lb) : Prop := ∀ x ∈ l, x.1.size ≤ 1000 ∧ x.2.size ≤ 3000
theorem keyBytes_len : ∀ {l : List Lb}, SizesOk l → (keyBytes l).length ≤ l.length * 5000 := by
  intro l
  induction l with
  | nil => intro _; simp [keyBytes]
  | cons x r ih =>
    intro h
    have h1 := h x (by simp)
    have h2 := ih (fun y hy => h y (by simp [hy]))
    have h3 := pieceS_size (s := x.1) (by omega)
    have h4 := pieceS_size (s := x.2) (by omega)
    have e1 : (pieceB x.1).length = (pieceS x.1).size := by unfold pieceB; simp
    have e2 : (pieceB x.2).length = (pieceS x.2).size := by unfold pieceB; simp
    have e : keyBytes (x :: r) = pieceB x.1 ++ pieceB x.2 ++ keyBytes r := rfl
    rw [e, List.length_append, List.length_append, e1, e2, List.length_cons, Nat.succ_mul]
    omega
theorem SizesOk.take {l : List Lb} (h : SizesOk l) (k : Nat) : SizesOk (l.take k) := fun x hx => h x (List.mem_of_mem_take hx)
theorem keyBytes_snoc (l : List Lb) (k : Nat) (h : k < l.length) : keyBytes (l.take (k + 1)) = keyBytes (l.take k) ++ (pieceB (lx l k).1 ++ pieceB (lx l k).2) := by
  unfold keyBytes
  rw [lx_at h, List.take_succ_eq_append_getElem h, List.flatMap_append]
  simp
def halfB (x : Lb) : Nat → List UInt8
  | 0 => []
  | 1 => pieceB x.1
  | _ => pieceB x.1 ++ pieceB x.2
def halfS (x : Lb) : Nat → ByteArray
  | 0 => x.1
  | _ => x.2
abbrev BldT : TypeId := 101
abbrev U8T : TypeId := 5
theorem lit3' (w : World) (o p : Obj) : ((w.alloc p).alloc o).heap[w.heap.size + 1]? = some o := by
  have := heap_new (w.alloc p) o
  rw [show (w.alloc p).heap.size = w.heap.size + 1 by simp] at this
  exact this
set_option maxHeartbeats 4000000 in
theorem key_any (v : Value) (l : List Lb) (w : World) (h : Sl lenc w v l) (hl : l.length ≤ 100000) (hs : SizesOk l) (ht : Tab w) :
    Calls Tryd.prog 47 #[v] w fun e w' => e = .returned (.string (keyL l)) ∧ Below w.heap.size w w' := by
  obtain ⟨a, cap, rfl, hlen, -, hc⟩ := h.split lenc_len
  have HC := Lib.hid hc
  have HZ := Lib.hid hs
  have HT := Lib.hid ht
  clear hc h hs ht
  go_enter Tryd.func47, Tryd.ntmps47
  go_wp2_with fail
  go_loopw [10] (fun i wr => ∃ k : Nat, k ≤ l.length ∧ i = .int .i64 k ∧ Hid (Lib.IsBuilder BldT U8T w.heap.size w.heap.size (Lib.byteCells (keyBytes (l.take k))) wr) ∧ Hid (Below w.heap.size w wr)) (fun i _ => l.length - (intOf i).toNat)
  case atStart => exact ⟨0, Nat.zero_le _, rfl, Lib.fresh_isBuilder _ _ w, (Below.refl _ _).alloc (Nat.le_refl _) _⟩
  case round =>
    obtain ⟨k, hk, rfl, HB, HW⟩ := hrel
    by_cases hlt : k < l.length
    · have hltz : (k : Int) < (l.length : Int) := by omega
      have h00 : (0 : Int) ≤ (k : Int) := by omega
      obtain ⟨b, off, rfl, hk0, hk1⟩ := lab_cells HC.out HW.out (Nat.le_refl _) hlt
      have hlt3 : b < wr.heap.size := World.block_lt_of_cell? wr _ hk0
      have hne : b ≠ wr.heap.size := by omega
      go_wp2_with fail
      have HG0 := Lib.hid (show ((wr.alloc (.cells #[.string (lx l k).1, .string (lx l k).2] 33)).alloc (.cells #[.string (lx l k).1, .string (lx l k).2] 9)).heap[wr.heap.size + 1]? = some (.cells #[.string (halfS (lx l k) 0), .string (halfS (lx l k) 1)] 9 (0, 0)) from lit3' wr _ _)
      have HB0 := Lib.hid (isB_later HB.out (((Below.refl wr.heap.size wr).alloc (Nat.le_refl _) (.cells #[.string (lx l k).1, .string (lx l k).2] 33)).alloc (by simp) (.cells #[.string (lx l k).1, .string (lx l k).2] 9)))
      have hW0 := (HW.out.alloc HW.out.size (.cells #[.string (lx l k).1, .string (lx l k).2] 33)).alloc (by have := HW.out.size; simp; omega) (.cells #[.string (lx l k).1, .string (lx l k).2] 9)
      have HW0 := Lib.hid hW0
      clear hW0
      obtain ⟨g, hg⟩ : ∃ g, g = wr.heap.size + 1 := ⟨_, rfl⟩
      have hwg : w.heap.size < g := by have := HW.out.size; omega
      rw [← hg] at HG0 ⊢
      clear hg hk0 hk1 hlt3 hne
      generalize (wr.alloc (.cells #[.string (lx l k).1, .string (lx l k).2] 33)).alloc (.cells #[.string (lx l k).1, .string (lx l k).2] 9) = w5 at HG0 HB0 HW0 ⊢
      have hsb : ∀ j, (halfS (lx l k) j).size ≤ 3000 := fun j => by
        have := HZ.out _ (lx_mem hlt)
        cases j with
        | zero => show (lx l k).1.size ≤ _; omega
        | succ j => exact this.2
      have hkb := keyBytes_len (HZ.out.take k)
      rw [List.length_take, Nat.min_eq_left hk] at hkb
      have hhb : ∀ j, (halfB (lx l k) j).length ≤ 10000 := fun j => by
        have := HZ.out _ (lx_mem hlt)
        have h3 := pieceS_size (s := (lx l k).1) (by omega)
        have h4 := pieceS_size (s := (lx l k).2) (by omega)
        have e1 : (pieceB (lx l k).1).length = (pieceS (lx l k).1).size := by unfold pieceB; simp
        have e2 : (pieceB (lx l k).2).length = (pieceS (lx l k).2).size := by unfold pieceB; simp
        rcases j with _ | _ | j
        · simp [halfB]
        · simp [halfB]; omega
        · simp [halfB]; omega
      have HSB := Lib.hid hsb
      have HKB := Lib.hid hkb
      have HHB := Lib.hid hhb
      clear hsb hkb hhb
      go_loopw [20] (fun j wr => ∃ m : Nat, m ≤ 2 ∧ j = .int .i64 m ∧ Hid (Lib.IsBuilder BldT U8T w.heap.size w.heap.size (Lib.byteCells (keyBytes (l.take k) ++ halfB (lx l k) m)) wr) ∧ Hid (Below w.heap.size w wr) ∧ Hid (wr.heap[g]? = some (.cells #[.string (halfS (lx l k) 0), .string (halfS (lx l k) 1)] 9 (0, 0)))) (fun j _ => 2 - (intOf j).toNat)
      case atStart => exact ⟨0, Nat.zero_le _, rfl, (by show Lib.IsBuilder _ _ _ _ (Lib.byteCells (keyBytes (l.take k) ++ [])) _; rw [List.append_nil]; exact HB0.out), HW0.out, HG0.out⟩
      case round =>
        obtain ⟨m, hm, rfl, HBm, HWm, HGm⟩ := hrel
        have h0m : (0 : Int) ≤ (m : Int) := by omega
        by_cases hm2 : m < 2
        · have hm2z : (m : Int) < 2 := by omega
          obtain ⟨s, hs⟩ : ∃ s, s = halfS (lx l k) m := ⟨_, rfl⟩
          have hcell : wr.cell? ⟨g, m, none⟩ = some (.string s) := by
            rw [Lib.cell_of_heap HGm.out, hs]
            rcases m with _ | _ | m
            · rfl
            · rfl
            · omega
          have hsz : s.size ≤ 3000 := by rw [hs]; exact HSB.out m
          have HHs := Lib.hid (show halfB (lx l k) (m + 1) = halfB (lx l k) m ++ pieceB s by
            rw [hs]
            rcases m with _ | _ | m
            · rfl
            · rfl
            · omega)
          have HT5 := Lib.hid (HT.out.below HWm.out (Nat.le_refl _))
          clear hs
          obtain ⟨S, hS⟩ : ∃ S, S = itoaB (s.size : Int) := ⟨_, rfl⟩
          have hss : S.size ≤ 19 := by rw [hS]; exact itoaB_size (by omega) (by omega)
          have HS := Lib.hid hS
          have hsum1 : ¬ 9223372036854775807 < S.size + 1 := by omega
          have hsum2 : ¬ 9223372036854775807 < S.size + 1 + s.size := by omega
          have HI := Lib.hid (show Calls Tryd.prog 85 #[.int .i64 (s.size : Int)] wr fun e w' => e = .returned (.string S) ∧ Below wr.heap.size wr w' by rw [hS]; exact itoa_any _ _ (by omega) (by omega) HT5.out)
          have HP := Lib.hid (show pieceS s = S ++ ⟨#[58]⟩ ++ s by rw [hS]; rfl)
          have hpl : (Lib.byteCells (keyBytes (l.take k) ++ halfB (lx l k) m)).length + (S ++ ⟨#[58]⟩ ++ s).size ≤ 140737488355328 := by
            rw [Lib.byteCells_length, List.length_append, ByteArray.size_append, ByteArray.size_append]
            have h1 := HKB.out
            have h2 := HHB.out m
            have h3 : (⟨#[58]⟩ : ByteArray).size = 1 := rfl
            omega
          have HPL := Lib.hid hpl
          clear hpl hS hss
          go_wp2_with fail
          refine HI.out.mono ?_
          rintro e w6 ⟨rfl, hb6⟩
          have HB6 := Lib.hid (isB_later HBm.out hb6)
          have HW6 := Lib.hid (HWm.out.trans (hb6.mono HWm.out.size))
          have HG6 := Lib.hid (show w6.heap[g]? = some (.cells #[.string (halfS (lx l k) 0), .string (halfS (lx l k) 1)] 9 (0, 0)) by rw [hb6.block g ((Array.getElem?_eq_some_iff.1 HGm.out).1)]; exact HGm.out)
          clear hb6
          have HWS := Lib.hid (ws_any w.heap.size w.heap.size _ (S ++ ⟨#[58]⟩ ++ s) w6 HB6.out HPL.out HW6.out.size)
          go_wp2_with fail
          refine HWS.out.mono ?_
          rintro e w7 ⟨rfl, hb7, hw7, hk7⟩
          have HB7 := Lib.hid (show Lib.IsBuilder BldT U8T w.heap.size w.heap.size (Lib.byteCells (keyBytes (l.take k) ++ halfB (lx l k) (m + 1))) w7 by
            rw [HHs.out, ← List.append_assoc, Lib.byteCells_append _ (pieceB s)]
            refine .inr ?_
            rw [Lib.strCells_eq, ← HP.out] at hb7
            exact hb7)
          have HW7 := Lib.hid (HW6.out.trans (hw7.mono (Nat.le_refl _)))
          have HG7 := Lib.hid (hk7 g _ HG6.out (by intro e; injection e with e; omega) (fun c fz e => by injection e with _ e2 _; exact absurd e2 (by decide)))
          clear hb7 hw7 hk7
          go_wp2_with fail
          go_roundw
          case rel => exact ⟨m + 1, by omega, by go_num, HB7.out, HW7.out, HG7.out⟩
          case measure => simp [intOf]; omega
        · obtain rfl : m = 2 := by omega
          have HBX := Lib.hid (show Lib.IsBuilder BldT U8T w.heap.size w.heap.size (Lib.byteCells (keyBytes (l.take (k + 1)))) wr by rw [keyBytes_snoc l k hlt]; exact HBm.out)
          go_wp2_with fail
          go_roundw
          case rel => exact ⟨k + 1, by omega, by go_num, HBX.out, HWm.out⟩
          case measure => simp [intOf]; omega
    · have hltz : ¬ (k : Int) < (l.length : Int) := by omega
      obtain rfl : k = l.length := by omega
      rw [List.take_of_length_le (Nat.le_refl _)] at HB
      have HST := Lib.hid (Tryd.Builder_String_any w.heap.size w.heap.size (keyBytes l) wr HB.out HW.out.size)
      go_wp2_with fail
      refine HST.out.mono ?_
      rintro e w1 ⟨rfl, hb1⟩
      have HB1 := Lib.hid (HW.out.trans (hb1.mono (Nat.le_refl _)))
      clear hb1
      go_wp2_with fail
      go_ret
      exact ⟨rfl, HB1.out⟩
end Go.Proofs.YtdpigfcnphklgaaDoor
