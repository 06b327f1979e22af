/- Chapter 3's known answer. -/
import Derived.Test.YtdpigfcnphklgaaDoorLt1
import Derived.Test.YtdpigfcnphklgaaDoorLa14
namespace Go.Proofs.YtdpigfcnphklgaaDoor
open Go Go.RowKit
set_option linter.unusedVariables false
set_option linter.unusedSimpArgs false
set_option maxRecDepth 100000
/-- The code's Set says what the document's says. -/
theorem cset_any (v : Value) (l : List Lb) (w : World) (h : Sl lenc w v l) (hl : l.length ≤ 100000) :
    Calls Tryd.prog 13 #[v] w fun e w' => RSet l w e w' := by
  refine (set_any v l w h hl).mono ?_
  rintro e w' ⟨l', hp, hs, hb, hh⟩
  obtain ⟨h1, h2⟩ := set_same hp hs
  refine ⟨hb, ?_⟩
  rcases hh with ⟨ho, v', rfl, hsl⟩ | ⟨ho, rfl⟩
  · exact .inl ⟨(h1.1 ho).1, (h1.1 ho).2, v', rfl, by rw [← h2 ho]; exact hsl⟩
  · exact .inr ⟨(fun hc => by rw [h1.2 hc] at ho; cases ho), rfl⟩
def l3 : List Lb := [(⟨#[98]⟩, ⟨#[50]⟩), (⟨#[97]⟩, ⟨#[49]⟩), (⟨#[99]⟩, ⟨#[]⟩)]
def l2 : List Lb := [(⟨#[97]⟩, ⟨#[49]⟩), (⟨#[98]⟩, ⟨#[50]⟩)]
theorem ok3 : OkP l3 ∧ (keepL l3).length ≤ 32 := by
  refine ⟨⟨?_, ?_⟩, by decide +kernel⟩
  · intro x hx
    simp only [l3, List.mem_cons, List.not_mem_nil, or_false] at hx
    rcases hx with rfl | rfl | rfl <;> exact ⟨by decide +kernel, by decide⟩
  · decide +kernel
theorem ins3 : insL (keepL l3) = l2 := by decide +kernel
theorem itoa1 : itoaB 1 = ⟨#[49]⟩ := by
  unfold itoaB Lib.itoa
  rw [if_neg (by decide), show (1 : Int).toNat = 1 from rfl, Lib.decDigits, dif_pos (by decide)]
  rfl
theorem piece1 (b : UInt8) : pieceS ⟨#[b]⟩ = ⟨#[49, 58, b]⟩ := by
  unfold pieceS
  rw [show ((⟨#[b]⟩ : ByteArray).size : Int) = 1 from rfl, itoa1]
  rfl
theorem key2 : keyL l2 = ⟨#[49, 58, 97, 49, 58, 49, 49, 58, 98, 49, 58, 50]⟩ := by
  unfold keyL keyBytes l2 pieceB
  simp only [List.flatMap_cons, List.flatMap_nil, piece1]
  rfl
theorem text2 : textL l2 = ⟨#[123, 97, 61, 34, 49, 34, 44, 98, 61, 34, 50, 34, 125]⟩ := by
  rw [textL, show nameOf l2 = ⟨#[]⟩ by decide +kernel, show partsL ⟨#[]⟩ l2 = [⟨#[97, 61, 34, 49, 34]⟩, ⟨#[98, 61, 34, 50, 34]⟩] by decide +kernel]
  decide +kernel
theorem get2 : getL ⟨#[98]⟩ l2 = ⟨#[50]⟩ := by decide +kernel
theorem sizes2 : SizesOk l2 := by
  intro x hx
  simp only [l2, List.mem_cons, List.not_mem_nil, or_false] at hx
  rcases hx with rfl | rfl <;> exact ⟨by decide, by decide⟩
set_option maxHeartbeats 4000000 in
theorem known_any (w : World) (ht : Tab w) : Calls Tryd.prog 11 #[] w fun e w' => e = .returned (.bool true) ∧ Below w.heap.size w w' := by
  have HT := Lib.hid ht
  clear ht
  go_enter Tryd.func11, Tryd.ntmps11
  go_wp2_with fail
  have hsl : Sl lenc (w.alloc (.cells #[.string ⟨#[98]⟩, .string ⟨#[50]⟩, .string ⟨#[97]⟩, .string ⟨#[49]⟩, .string ⟨#[99]⟩, .string ⟨#[]⟩] 33)) (.slice (some ⟨w.heap.size, 0, none⟩) 3 3) l3 := Sl.lit (heap_new _ _) rfl rfl (by omega)
  have HS := Lib.hid (cset_any _ l3 _ hsl (by decide))
  clear hsl
  refine HS.out.mono ?_
  rintro e w1 ⟨hb1, hr⟩
  have hB1 : Below w.heap.size w w1 := ((Below.refl _ _).alloc (Nat.le_refl _) _).trans (hb1.mono (by simp))
  have HB1 := Lib.hid hB1
  rcases hr with ⟨-, -, v', rfl, hsl1⟩ | ⟨hno, -⟩
  · rw [ins3] at hsl1
    have HS1 := Lib.hid hsl1
    obtain ⟨a, cap, rfl, hlen, -, hc⟩ := hsl1.split lenc_len
    obtain ⟨b, off, rfl, hk0, hk1⟩ := lab_cells (k := 0) hc (Below.refl _ _) (Nat.le_refl _) (by decide)
    have hk2 : w1.cell? ⟨b, off, none⟩ = some (.string ⟨#[97]⟩) := hk0
    clear hk0 hk1 hc hsl1 hb1 hB1 HS
    have hlz : l2.length = 2 := rfl
    rw [hlz] at hlen HS1 ⊢
    have HK := Lib.hid (key_any _ l2 w1 HS1.out (by decide) sizes2 (HT.out.below HB1.out (Nat.le_refl _)))
    clear hlz
    go_wp2_with fail
    refine HK.out.mono ?_
    rintro e w2 ⟨rfl, hb2⟩
    rw [key2]
    have HB2 := Lib.hid (HB1.out.trans (hb2.mono HB1.out.size))
    have HS2 := Lib.hid (HS1.out.below hb2 (Nat.le_refl _))
    clear hb2 hk2
    have HX := Lib.hid (text_any _ l2 w2 HS2.out (by decide) sizes2)
    go_wp2_with fail
    refine HX.out.mono ?_
    rintro e w3 ⟨rfl, hb3⟩
    rw [text2]
    have HB3 := Lib.hid (HB2.out.trans (hb3.mono HB2.out.size))
    have HS3 := Lib.hid (HS2.out.below hb3 (Nat.le_refl _))
    clear hb3
    have HY := Lib.hid (get_any _ l2 ⟨#[98]⟩ w3 HS3.out)
    go_wp2_with fail
    refine HY.out.mono ?_
    rintro e w4 ⟨rfl, hb4⟩
    rw [get2]
    have HB4 := Lib.hid (HB3.out.trans (hb4.mono HB3.out.size))
    clear hb4
    go_wp2_with fail
    go_ret
    exact ⟨rfl, HB4.out⟩
  · exact absurd ok3 hno
end Go.Proofs.YtdpigfcnphklgaaDoor
