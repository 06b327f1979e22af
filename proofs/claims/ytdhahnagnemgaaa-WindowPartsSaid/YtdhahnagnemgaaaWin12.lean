/- The known case of the laws of chapter 8; the walk of WindowNames. -/
import Derived.Test.YtdhahnagnemgaaaWin10
import Derived.Test.YtdhahnagnemgaaaWin11
namespace Go.Proofs.Ytdhahnagnemgaaa
open Go.RowKit
set_option linter.unusedVariables false
set_option linter.unusedSimpArgs false

set_option maxRecDepth 100000 in
theorem rname_any (fn : Int) (w : World) : Calls Try.prog 51 #[.int .i64 fn] w fun e w' => e = .returned (.string (nameOf fn)) ∧ Below w.heap.size w w' := by
  by_cases h1 : 1 ≤ fn
  · by_cases h2 : fn ≤ 14
    · obtain ⟨n, rfl⟩ : ∃ n : Nat, fn = n := ⟨fn.toNat, by omega⟩
      have hnm : nameOf n = namesL.getD n ⟨#[]⟩ := by unfold nameOf; rw [if_pos ⟨h1, h2⟩]; rfl
      have HN := Lib.hid hnm
      clear hnm
      go_enter Try.func51, Try.ntmps51
      go_wp2_with fail
      refine (rnames_any _).mono ?_
      rintro e w1 ⟨v, rfl, hs, hb⟩
      obtain ⟨a, cap, rfl, hle, hc⟩ := hs.strings
      have hn : n < namesL.length := by show n < 15; omega
      obtain ⟨b, off, rfl, hc⟩ := hc n hn
      have hc0 := hc n hn
      have hl : namesL.length = 15 := rfl
      have HC := Lib.hid hc
      rw [hl] at hle ⊢
      clear hc hs hl
      go_wp2_with fail
      go_ret
      refine ⟨?_, hb⟩
      rw [HN.out, List.getD_eq_getElem?_getD, List.getElem?_eq_getElem hn]
      rfl
    · have HN := Lib.hid (show nameOf fn = ⟨#[]⟩ by unfold nameOf; rw [if_neg (by omega)])
      go_enter Try.func51, Try.ntmps51
      go_wp2_with fail
      go_ret
      exact ⟨by first | rfl | (rw [HN.out]; rfl), Below.refl _ _⟩
  · have HN := Lib.hid (show nameOf fn = ⟨#[]⟩ by unfold nameOf; rw [if_neg (by omega)])
    have h3 : fn < 1 := by omega
    go_enter Try.func51, Try.ntmps51
    go_wp2_with fail
    go_ret
    exact ⟨by first | rfl | (rw [HN.out]; rfl), Below.refl _ _⟩

def KS : List (Int × Nat) := [(1, 4617315517961601024), (2, 4619567317775286272), (3, 4607182418800017408)]
theorem kfn : fnR 8 0 3 KS = (4613937818241073152, true) := by decide +kernel
theorem knamed : namedI ⟨#[114, 97, 116, 101]⟩ = (9, true) := by decide +kernel
theorem kname : nameOf 13 = ⟨#[119, 97, 118, 101, 95, 109, 97, 103]⟩ := by decide +kernel
theorem kcut : (cutL 1 2 KS).length = 1 := by decide +kernel
theorem korder : FloatKind.f64.format.order 4613937818241073152 4613937818241073152 = some .eq := by decide +kernel

set_option maxRecDepth 100000 in
set_option maxHeartbeats 1000000 in
theorem known8 (w : World) : Calls Try.prog 39 #[] w fun e w' => e = .returned (.bool true) ∧ Below w.heap.size w w' := by
  have hfn := fn_any 8
  have HFN := Lib.hid hfn
  clear hfn
  have hko := korder
  go_enter Try.func39, Try.ntmps39
  go_wp2_with fail
  obtain ⟨w0, hw0⟩ : ∃ w0, w0 = w.alloc (.cells #[.int .i64 1, .float .f64 4617315517961601024, .int .i64 2, .float .f64 4619567317775286272, .int .i64 3, .float .f64 4607182418800017408] 85) := ⟨_, rfl⟩
  have hsl : Sl tenc w0 (.slice (some ⟨w.heap.size, 0, none⟩) 3 3) KS := by rw [hw0]; exact Sl.lit (heap_new w _) rfl rfl (by decide)
  have hb0 : Below w.heap.size w w0 := by rw [hw0]; exact (Below.refl _ _).alloc (Nat.le_refl _) _
  rw [← hw0]
  have hf := HFN.out _ KS 0 3 w0 hsl (by decide) (by omega) (by omega)
  rw [kfn] at hf
  refine hf.mono ?_
  rintro e w1 ⟨rfl, hb1⟩
  have hb01 := hb0.trans (hb1.mono hb0.size)
  have HSL := Lib.hid (hsl.below hb1 (Nat.le_refl _))
  have HB := Lib.hid hb01
  clear hsl hb0 hb1 hb01 hw0 hf HFN
  go_wp2_with fail
  have hnm := named_any ⟨#[114, 97, 116, 101]⟩ w1
  rw [knamed] at hnm
  refine hnm.mono ?_
  rintro e w2 ⟨rfl, hb2⟩
  have HB2 := Lib.hid hb2
  clear hnm hb2
  go_wp2_with fail
  have hnm := name_any 13 w2
  rw [kname] at hnm
  refine hnm.mono ?_
  rintro e w3 ⟨rfl, hb3⟩
  have HB3 := Lib.hid hb3
  clear hnm hb3
  go_wp2_with fail
  have hb23 := HB2.out.trans (HB3.out.mono HB2.out.size)
  refine (cut8_any _ KS 1 2 w3 (HSL.out.below hb23 (Nat.le_refl _)) (by decide)).mono ?_
  rintro e w4 ⟨v, rfl, hs4, hb4⟩
  obtain ⟨a, cap, rfl, -⟩ := hs4
  rw [kcut]
  have HB4 := Lib.hid (HB.out.trans ((hb23.trans (hb4.mono hb23.size)).mono HB.out.size))
  clear hb23 hb4
  go_wp2_with fail
  go_ret
  exact ⟨rfl, HB4.out⟩

theorem named_name (fn : Int) (h1 : 1 ≤ fn) (h2 : fn ≤ 14) : namedI (nameOf fn) = (fn, true) := by
  have hfn : fn = 1 ∨ fn = 2 ∨ fn = 3 ∨ fn = 4 ∨ fn = 5 ∨ fn = 6 ∨ fn = 7 ∨ fn = 8 ∨ fn = 9 ∨ fn = 10 ∨ fn = 11 ∨ fn = 12 ∨ fn = 13 ∨ fn = 14 := by omega
  rcases hfn with rfl | rfl | rfl | rfl | rfl | rfl | rfl | rfl | rfl | rfl | rfl | rfl | rfl | rfl <;> decide +kernel
theorem named_empty : namedI ⟨#[]⟩ = (0, false) := by decide +kernel

set_option maxRecDepth 100000 in
set_option maxHeartbeats 1000000 in
theorem windowNames_walk (fn : Int) (s : ByteArray) (w : World) {p q : Prop} (_ : p) (_ : q) : Calls Try.prog 10 #[.int .i64 fn, .string s] w fun e w' => e = .returned (.bool true) ∧ Below w.heap.size w w' := by
  obtain ⟨c, is, hR⟩ : ∃ c is, (c, is) = namedI s := ⟨_, _, rfl⟩
  have hn := named_any s
  have hr := rnamed_any s
  rw [← hR] at hn hr
  have HN := Lib.hid hn
  have HR := Lib.hid hr
  clear hn hr hR
  by_cases hin : 1 ≤ fn ∧ fn ≤ 14
  · have hnn := nameOf_full fn hin.1 hin.2
    have hnd := named_name fn hin.1 hin.2
    have hname := name_any fn
    have hrname := rname_any fn
    obtain ⟨nm, hnm⟩ : ∃ nm, nm = nameOf fn := ⟨_, rfl⟩
    rw [← hnm] at hnn hnd hname hrname
    have hnmd := named_any nm
    rw [hnd] at hnmd
    have hnn2 : nm.toList ≠ [] := by intro e; simp [e] at hnn
    have HA := Lib.hid hname
    have HRA := Lib.hid hrname
    have HND := Lib.hid hnmd
    clear hname hrname hnmd hnd hnm
    go_enter Try.func10, Try.ntmps10
    go_wp2_with fail
    refine (known8 _).mono ?_
    rintro e w1 ⟨rfl, hb1⟩
    have HB1 := Lib.hid hb1
    clear hb1
    go_wp2_with fail
    refine (HN.out _).mono ?_
    rintro e w2 ⟨rfl, hb2⟩
    have HB2 := Lib.hid (HB1.out.trans (hb2.mono HB1.out.size))
    clear hb2
    go_wp2_with fail
    refine (HR.out _).mono ?_
    rintro e w3 ⟨rfl, hb3⟩
    have HB3 := Lib.hid (HB2.out.trans (hb3.mono HB2.out.size))
    clear hb3
    go_wp2_with fail
    refine (HA.out _).mono ?_
    rintro e w4 ⟨rfl, hb4⟩
    have HB4 := Lib.hid (HB3.out.trans (hb4.mono HB3.out.size))
    clear hb4
    go_wp2_with fail
    refine (HND.out _).mono ?_
    rintro e w5 ⟨rfl, hb5⟩
    have HB5 := Lib.hid (HB4.out.trans (hb5.mono HB4.out.size))
    clear hb5
    go_wp2_with fail
    refine (HRA.out _).mono ?_
    rintro e w6 ⟨rfl, hb6⟩
    have HB6 := Lib.hid (HB5.out.trans (hb6.mono HB5.out.size))
    clear hb6
    go_wp2_with fail
    go_ret
    exact ⟨ret_b (by simp [hnn, hnn2]), HB6.out⟩
  · have hname := name_any fn
    have hrname := rname_any fn
    rw [nameOf_none fn hin] at hname hrname
    have hnmd := named_any ⟨#[]⟩
    rw [named_empty] at hnmd
    have HA := Lib.hid hname
    have HRA := Lib.hid hrname
    have HND := Lib.hid hnmd
    clear hname hrname hnmd
    go_enter Try.func10, Try.ntmps10
    go_wp2_with fail
    refine (known8 _).mono ?_
    rintro e w1 ⟨rfl, hb1⟩
    have HB1 := Lib.hid hb1
    clear hb1
    go_wp2_with fail
    refine (HN.out _).mono ?_
    rintro e w2 ⟨rfl, hb2⟩
    have HB2 := Lib.hid (HB1.out.trans (hb2.mono HB1.out.size))
    clear hb2
    go_wp2_with fail
    refine (HR.out _).mono ?_
    rintro e w3 ⟨rfl, hb3⟩
    have HB3 := Lib.hid (HB2.out.trans (hb3.mono HB2.out.size))
    clear hb3
    go_wp2_with fail
    refine (HA.out _).mono ?_
    rintro e w4 ⟨rfl, hb4⟩
    have HB4 := Lib.hid (HB3.out.trans (hb4.mono HB3.out.size))
    clear hb4
    go_wp2_with fail
    refine (HND.out _).mono ?_
    rintro e w5 ⟨rfl, hb5⟩
    have HB5 := Lib.hid (HB4.out.trans (hb5.mono HB4.out.size))
    clear hb5
    go_wp2_with fail
    refine (HRA.out _).mono ?_
    rintro e w6 ⟨rfl, hb6⟩
    have HB6 := Lib.hid (HB5.out.trans (hb6.mono HB5.out.size))
    clear hb6
    go_wp2_with fail
    go_ret
    exact ⟨ret_b (by simp), HB6.out⟩
end Go.Proofs.Ytdhahnagnemgaaa
