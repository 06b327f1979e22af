/- stamp.Text: the walk. -/
import Derived.Test.YtkflhfdpdgnbfaaDoorBase
import Derived.Test.YtkflhfdpdgnbfaaDoorShelf
import Derived.Test.YtkflhfdpdgnbfaaDoorSt1
import Derived.Lib.QuietBelow
import Derived.Lib.LaidTab
namespace Go.Proofs.YtkflhfdpdgnbfaaDoor
open Go Go.RowKit
set_option linter.unusedVariables false
set_option linter.unusedSimpArgs false
set_option maxRecDepth 100000

/-- The table that strconv.Itoa reads. -/
def Tab (w : World) : Prop := Lib.TabIs Tryd.prog w "internal/strconv.uint64pow10" .u64 Lib.pow10Tab
theorem Tab.below {w w' : World} {B : Nat} (h : Tab w) (hb : Below B w w') (hB : w.heap.size ≤ B) : Tab w' := by
  unfold Tab Lib.TabIs World.var? at h ⊢
  cases hg : Tryd.prog.globalNamed "internal/strconv.uint64pow10" with
  | none => rw [hg] at h; cases h
  | some g =>
    rw [hg] at h
    simp only [Option.bind_some] at h ⊢
    have hlt : g < w.heap.size := by
      rcases Nat.lt_or_ge g w.heap.size with h' | h'
      · exact h'
      · rw [Array.getElem?_eq_none h'] at h; cases h
    rw [hb.block g (by omega)]
    exact h
def itoaB (n : Int) : ByteArray := ⟨(Lib.itoa n).toArray⟩
theorem itoa_any (n : Int) (w : World) (h0 : -9223372036854775808 ≤ n) (h1 : n ≤ 9223372036854775807) (ht : Tab w) :
    Calls Tryd.prog 30 #[.int .i64 n] w fun e w' => e = .returned (.string (itoaB n)) ∧ Below w.heap.size w w' :=
  (Tryd.strconv_Itoa n h0 h1 w ht).mono fun e w' ⟨he, k, os, hw⟩ => ⟨he, by rw [hw]; exact ⟨rfl, rfl, rfl, by simp [Sort.grow, World.drewN], fun j hj => by simp [Sort.grow, World.drewN, Array.getElem?_append, hj]⟩⟩
theorem decDigits_len : ∀ (k u : Nat), u < 10 ^ (k + 1) → (Lib.decDigits u).length ≤ k + 1
  | k, u, h => by
    rw [Lib.decDigits]
    split
    · simp
    · rename_i h2
      cases k with
      | zero => omega
      | succ k =>
        have := decDigits_len k (u / 10) (by rw [Nat.pow_succ] at h; omega)
        simp
        omega
theorem itoaB_size {n : Int} (h0 : 0 ≤ n) (h1 : n ≤ 9223372036854775807) : (itoaB n).size ≤ 19 := by
  have hl : (itoaB n).size = (Lib.itoa n).length := by
    show (Lib.itoa n).toArray.size = _
    simp
  rw [hl, Lib.itoa, if_neg (by omega)]
  exact decDigits_len 18 n.toNat (by omega)

def uenc (x : Int × ByteArray) : List Value := [.int .i64 x.1, .string x.2]
theorem uenc_len (x : Int × ByteArray) : (uenc x).length = 2 := rfl
def unitsL : List (Int × ByteArray) := [(86400000, ⟨#[100]⟩), (3600000, ⟨#[104]⟩), (60000, ⟨#[109]⟩), (1000, ⟨#[115]⟩), (1, ⟨#[109, 115]⟩)]
def textFrom : List (Int × ByteArray) → Int → ByteArray → ByteArray
  | [], _, out => out
  | x :: t, d, out => if 0 < d / x.1 then textFrom t (d - d / x.1 * x.1) (out ++ (itoaB (d / x.1) ++ x.2)) else textFrom t d out
def textV (d : Int) : ByteArray × Int := if d < 1 ∨ 1125899906842624 < d then (⟨#[]⟩, 1) else (textFrom unitsL d ⟨#[]⟩, 0)
theorem units_at (k : Nat) (h : k < unitsL.length) : 1 ≤ unitsL[k].1 ∧ unitsL[k].1 ≤ 86400000 ∧ unitsL[k].2.size ≤ 2 := by
  have hall : ∀ x ∈ unitsL, 1 ≤ x.1 ∧ x.1 ≤ 86400000 ∧ x.2.size ≤ 2 := by
    intro x hx
    simp [unitsL] at hx
    rcases hx with rfl | rfl | rfl | rfl | rfl <;> decide
  exact hall _ (List.getElem_mem h)
theorem units_cells {w : World} {B : Nat} (h : Sl uenc w (.slice (some ⟨B, 0, none⟩) 5 5) unitsL) : ∀ k (hk : k < unitsL.length), w.cell? ⟨B, k * 2, none⟩ = some (.int .i64 unitsL[k].1) ∧ w.cell? ⟨B, k * 2 + 1, none⟩ = some (.string unitsL[k].2) := by
  intro k hk
  obtain ⟨a, cap, hav, -, -, hc⟩ := h.split uenc_len
  obtain ⟨b, off, rfl, hd⟩ := hc k hk
  injection hav with hav
  injection hav with hav
  injection hav with e1 e2
  subst e1 e2
  have h0 := hd 0 _ rfl
  have h1 := hd 1 _ rfl
  rw [Nat.zero_add] at h0 h1
  exact ⟨h0, h1⟩
theorem quo_fit {d u : Int} (hu : 1 ≤ u) (hd : 0 ≤ d) : 0 ≤ d / u ∧ d / u ≤ d ∧ 0 ≤ d / u * u ∧ d / u * u ≤ d :=
  ⟨Int.ediv_nonneg hd (by omega), Int.ediv_le_self _ hd, Int.mul_nonneg (Int.ediv_nonneg hd (by omega)) (by omega), Int.ediv_mul_le _ (by omega)⟩
theorem ret_si {a b : ByteArray} {c d : Int} (h1 : a = b) (h2 : c = d) : Ending.returned (.tuple #[.string a, .int .i64 c]) = .returned (.tuple #[.string b, .int .i64 d]) := by rw [h1, h2]

set_option maxHeartbeats 4000000 in
theorem text_any (d0 : Int) (w : World) (ht : Tab w) :
    Calls Tryd.prog 11 #[.int .i64 d0] w fun e w' => e = .returned (.tuple #[.string (textV d0).1, .int .i64 (textV d0).2]) ∧ Below w.heap.size w w' := by
  have HT := Lib.hid ht
  clear ht
  by_cases h1 : d0 < 1
  · have HQ := Lib.hid (show textV d0 = (⟨#[]⟩, 1) by rw [textV, if_pos (.inl h1)])
    go_enter Tryd.func11, Tryd.ntmps11
    go_wp2_with fail
    go_ret2
    exact ⟨ret_si (by rw [HQ.out]) (by rw [HQ.out]), Below.refl _ _⟩
  · by_cases h2 : d0 ≤ 1125899906842624
    · have HQ := Lib.hid (show textV d0 = (textFrom unitsL d0 ⟨#[]⟩, 0) by rw [textV, if_neg (by omega)])
      have h3 : 0 < d0 := by omega
      clear h1
      go_enter Tryd.func11, Tryd.ntmps11
      go_wp2_with fail
      obtain ⟨B, hB⟩ : ∃ B, B = w.heap.size := ⟨_, rfl⟩
      obtain ⟨w1, hw1⟩ : ∃ w1, w1 = w.alloc (.cells #[.int .i64 86400000, .string ⟨#[100]⟩, .int .i64 3600000, .string ⟨#[104]⟩, .int .i64 60000, .string ⟨#[109]⟩, .int .i64 1000, .string ⟨#[115]⟩, .int .i64 1, .string ⟨#[109, 115]⟩] 47) := ⟨_, rfl⟩
      have hs1 : Sl uenc w1 (.slice (some ⟨B, 0, none⟩) 5 5) unitsL := by rw [hw1, hB]; exact Sl.lit (heap_new w _) rfl rfl (by decide)
      have hb1 : Below w.heap.size w w1 := by rw [hw1]; exact (Below.refl _ _).alloc (Nat.le_refl _) _
      rw [← hw1, ← hB]
      have HT1 := Lib.hid (HT.out.below hb1 (Nat.le_refl _))
      have HB1 := Lib.hid hb1
      have HC := Lib.hid (units_cells hs1)
      clear hw1 hs1 hb1 hB HT
      go_loopw [0, 4, 21] (fun dv ov iv wr => ∃ (k : Nat) (d : Int) (out : ByteArray), k ≤ 5 ∧ iv = .int .i64 k ∧ dv = .int .i64 d ∧ ov = .string out ∧ 0 ≤ d ∧ d ≤ 1125899906842624 ∧ out.size ≤ 40 * k ∧ textFrom (unitsL.drop k) d out = textFrom unitsL d0 ⟨#[]⟩ ∧ Below w1.heap.size w1 wr) (fun _ _ i _ => 5 - (intOf i).toNat)
      case atStart => exact ⟨0, d0, ⟨#[]⟩, by omega, rfl, rfl, rfl, by omega, h2, by decide, rfl, Below.refl _ _⟩
      case round =>
        obtain ⟨k, d, out, hk, rfl, rfl, rfl, hd1, hd2, ho, hv, hb⟩ := hrel
        have HV := Lib.hid hv
        have HB := Lib.hid hb
        clear hv hb
        by_cases hlt : k < 5
        · have hcc := HC.out k hlt
          obtain ⟨hu1, hu2, hu3⟩ := units_at k hlt
          have hdr : unitsL.drop k = unitsL[k] :: unitsL.drop (k + 1) := List.drop_eq_getElem_cons hlt
          obtain ⟨x, hx⟩ : ∃ x, x = unitsL[k] := ⟨_, rfl⟩
          rw [← hx] at hcc hu1 hu2 hu3 hdr
          obtain ⟨u, nm⟩ := x
          have p0 : wr.cell? ⟨B, k * 2, none⟩ = some (.int .i64 u) := cell_below HB.out (Nat.le_refl _) hcc.1
          have p1 : wr.cell? ⟨B, k * 2 + 1, none⟩ = some (.string nm) := cell_below HB.out (Nat.le_refl _) hcc.2
          have HDR := Lib.hid hdr
          simp only at hu1 hu2 hu3
          have hk0 : (0 : Int) ≤ (k : Int) := Int.natCast_nonneg _
          have hk1 : (k : Int) < 5 := by omega
          have hq := quo_fit (d := d) (u := u) hu1 hd1
          obtain ⟨q1, q2, q3, q4⟩ := hq
          have hu0 : u ≠ 0 := by omega
          clear hx hcc hdr
          by_cases hz : 0 < d / u
          · go_wp2_with fail
            obtain ⟨w2, hw2⟩ : ∃ w2, w2 = wr.alloc (.cells #[.int .i64 u, .string nm] 47) := ⟨_, rfl⟩
            have hb2 : Below w1.heap.size w1 w2 := by rw [hw2]; exact HB.out.alloc HB.out.size _
            obtain ⟨G, hG⟩ : ∃ G, G = wr.heap.size := ⟨_, rfl⟩
            have c0 : w2.cell? ⟨G, 0, none⟩ = some (.int .i64 u) := by rw [hw2, hG]; exact World.cell?_alloc_at _ _ _ _ rfl
            have c1 : w2.cell? ⟨G, 1, none⟩ = some (.string nm) := by rw [hw2, hG]; exact World.cell?_alloc_at _ _ _ _ rfl
            have HT2 := Lib.hid (HT1.out.below hb2 (Nat.le_refl _))
            have HB2 := Lib.hid hb2
            rw [← hw2, ← hG]
            have hsz1 : (itoaB (d / u)).size ≤ 19 := itoaB_size q1 (by omega)
            obtain ⟨S, hS⟩ : ∃ S, S = itoaB (d / u) := ⟨_, rfl⟩
            have hia := itoa_any (d / u)
            rw [← hS] at hia hsz1
            have hsz2 : (S ++ nm).size ≤ 21 := by rw [ByteArray.size_append]; omega
            have hsz3 : (out ++ (S ++ nm)).size ≤ 40 * (k + 1) := by rw [ByteArray.size_append]; omega
            have hsz4 : ¬ 9223372036854775807 < S.size + nm.size := by omega
            have hsz5 : ¬ 9223372036854775807 < out.size + (S.size + nm.size) := by omega
            have HSZ := Lib.hid hsz3
            clear hsz1 hsz2 hsz3
            have HIA := Lib.hid hia
            have HS := Lib.hid hS
            have HZ := Lib.hid hz
            clear hw2 hb2 hG hia hS p0 p1 hz
            go_region_held3 (fun w' => Below w2.heap.size w2 w' ∧ w'.cell? ⟨G, 0, none⟩ = some (.int .i64 u) ∧ w'.cell? ⟨G, 1, none⟩ = some (.string nm))
              (exact ⟨by go_grown, cell_below (B := w2.heap.size) (by go_grown) (Nat.le_refl _) c0, cell_below (B := w2.heap.size) (by go_grown) (Nat.le_refl _) c1⟩)
              (first
                | (go_at_call 30
                   refine (HIA.out _ (by omega) (by omega) ?_).mono ?_
                   exact HT2.out.below (by go_grown) (Nat.le_refl _)
                   rintro e w9 ⟨rfl, hb9⟩
                   have hbC : Below w2.heap.size w2 w9 := Below.trans (by go_grown) (hb9.mono (by first | exact Nat.le_refl _ | (simp; done)))))
            have hbD : Below w1.heap.size w1 w9 := HB2.out.trans (hbC.mono HB2.out.size)
            have HBD := Lib.hid hbD
            have r0 : w9.cell? ⟨G, 0, none⟩ = some (.int .i64 u) := cell_below hbC (Nat.le_refl _) c0
            clear hbC hbD hb9 hsz4 hsz5
            go_wp2_with fail
            go_ways
            go_roundw
            case rel =>
              refine ⟨k + 1, d - d / u * u, out ++ (S ++ nm), by omega, by go_num, rfl, rfl, by omega, by omega, HSZ.out, ?_, HBD.out⟩
              rw [← HV.out, HDR.out, textFrom, if_pos HZ.out, HS.out]
            case measure => simp [intOf]; omega
          · have hz2 : d / u ≤ 0 := by omega
            have HQ2 := Lib.hid hz
            clear hz
            go_wp2_with fail
            go_roundw
            case rel =>
              refine ⟨k + 1, d, out, by omega, by go_num, rfl, rfl, hd1, hd2, by omega, ?_, HB.out.alloc HB.out.size _⟩
              rw [← HV.out, HDR.out, textFrom, if_neg HQ2.out]
            case measure => simp [intOf]; omega
        · obtain rfl : k = 5 := by omega
          go_wp2_with fail
          go_ret2
          exact ⟨ret_si (by rw [HQ.out, ← HV.out]; rfl) (by rw [HQ.out]), HB1.out.trans (HB.out.mono HB1.out.size)⟩
    · have HQ := Lib.hid (show textV d0 = (⟨#[]⟩, 1) by rw [textV, if_pos (.inr (by omega))])
      have h3 : 1125899906842624 < d0 := by omega
      have h4 : 1 ≤ d0 := by omega
      clear h1 h2
      go_enter Tryd.func11, Tryd.ntmps11
      go_wp2_with fail
      go_ret2
      exact ⟨ret_si (by rw [HQ.out]) (by rw [HQ.out]), Below.refl _ _⟩
end Go.Proofs.YtkflhfdpdgnbfaaDoor
