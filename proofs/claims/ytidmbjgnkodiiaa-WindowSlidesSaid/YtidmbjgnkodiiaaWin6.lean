/- Contracts of the names of package window. -/
import Derived.Test.YtidmbjgnkodiiaaWin5
import Derived.Test.YtidmbjgnkodiiaaCost
namespace Go.Proofs.Ytidmbjgnkodiiaa
open Go.RowKit
set_option linter.unusedVariables false
set_option linter.unusedSimpArgs false

def namesL : List ByteArray := [⟨#[]⟩, ⟨#[99, 111, 117, 110, 116, 95, 111, 118, 101, 114, 95, 116, 105, 109, 101]⟩, ⟨#[115, 117, 109, 95, 111, 118, 101, 114, 95, 116, 105, 109, 101]⟩, ⟨#[97, 118, 103, 95, 111, 118, 101, 114, 95, 116, 105, 109, 101]⟩, ⟨#[109, 105, 110, 95, 111, 118, 101, 114, 95, 116, 105, 109, 101]⟩, ⟨#[109, 97, 120, 95, 111, 118, 101, 114, 95, 116, 105, 109, 101]⟩, ⟨#[108, 97, 115, 116, 95, 111, 118, 101, 114, 95, 116, 105, 109, 101]⟩, ⟨#[102, 105, 114, 115, 116, 95, 111, 118, 101, 114, 95, 116, 105, 109, 101]⟩, ⟨#[105, 110, 99, 114, 101, 97, 115, 101]⟩, ⟨#[114, 97, 116, 101]⟩, ⟨#[100, 101, 108, 116, 97]⟩, ⟨#[99, 104, 97, 110, 103, 101, 115]⟩, ⟨#[114, 101, 115, 101, 116, 115]⟩, ⟨#[119, 97, 118, 101, 95, 109, 97, 103]⟩, ⟨#[119, 97, 118, 101, 95, 116, 117, 114, 110]⟩]
theorem senc1_len (x : ByteArray) : (senc1 x).length = 1 := rfl
/-- A slice of strings: its cells one by one. -/
theorem Sl.strings {w : World} {v : Value} {xs : List ByteArray} (h : Sl senc1 w v xs) : ∃ a cap, v = .slice a xs.length cap ∧ (xs.length ≤ cap ∧ cap ≤ 9223372036854775807) ∧
    ∀ k, k < xs.length → ∃ b off, a = some ⟨b, off, none⟩ ∧ ∀ j (hj : j < xs.length), w.cell? ⟨b, off + j, none⟩ = some (.string xs[j]) := by
  obtain ⟨a, cap, rfl, hm, hn, hc⟩ := h
  refine ⟨a, cap, rfl, hm, fun k hk => ?_⟩
  obtain ⟨b, off, rfl, hd⟩ := hc (by intro e; simp [e] at hk)
  refine ⟨b, off, rfl, fun j hj => hd j _ ?_⟩
  have : xs.flatMap senc1 = xs.map Value.string := by
    clear hd hc hm hn hk hj
    induction xs with
    | nil => rfl
    | cons x xs ih => rw [List.flatMap_cons, ih]; rfl
  rw [this]; simp [hj]

set_option maxRecDepth 100000 in
theorem names_any (w : World) : Calls Try.prog 29 #[] w fun e w' => ∃ v, e = .returned v ∧ Sl senc1 w' v namesL ∧ Below w.heap.size w w' := by
  go_enter Try.func29, Try.ntmps29
  go_wp2
  go_ret
  exact ⟨_, rfl, Sl.lit (heap_new w _) rfl rfl (by decide), (Below.refl _ _).alloc (Nat.le_refl _) _⟩
def nameOf (fn : Int) : ByteArray := if 1 ≤ fn ∧ fn ≤ 14 then namesL.getD fn.toNat ⟨#[]⟩ else ⟨#[]⟩

set_option maxRecDepth 100000 in
theorem name_any (fn : Int) (w : World) : Calls Try.prog 14 #[.int .i64 fn] w fun e w' => e = .returned (.string (nameOf fn)) ∧ Below w.heap.size w w' := by
  by_cases h1 : 1 ≤ fn
  · by_cases h2 : fn ≤ 14
    · obtain ⟨n, rfl⟩ : ∃ n : Nat, fn = n := ⟨fn.toNat, by omega⟩
      have hnm : nameOf n = namesL.getD n ⟨#[]⟩ := by unfold nameOf; rw [if_pos ⟨h1, h2⟩]; rfl
      have HN := Lib.hid hnm
      clear hnm
      go_enter Try.func14, Try.ntmps14
      go_wp2_with fail
      refine (names_any _).mono ?_
      rintro e w1 ⟨v, rfl, hs, hb⟩
      obtain ⟨a, cap, rfl, hle, hc⟩ := hs.strings
      have hn : n < namesL.length := by show n < 15; omega
      obtain ⟨b, off, rfl, hc⟩ := hc n hn
      have hc0 := hc n hn
      have hl : namesL.length = 15 := rfl
      have HC := Lib.hid hc
      rw [hl] at hle ⊢
      clear hc hs hl
      go_wp2_with fail
      go_ret
      refine ⟨?_, hb⟩
      rw [HN.out, List.getD_eq_getElem?_getD, List.getElem?_eq_getElem hn]
      rfl
    · have HN := Lib.hid (show nameOf fn = ⟨#[]⟩ by unfold nameOf; rw [if_neg (by omega)])
      go_enter Try.func14, Try.ntmps14
      go_wp2_with fail
      go_ret
      exact ⟨by first | rfl | (rw [HN.out]; rfl), Below.refl _ _⟩
  · have HN := Lib.hid (show nameOf fn = ⟨#[]⟩ by unfold nameOf; rw [if_neg (by omega)])
    have h3 : fn < 1 := by omega
    go_enter Try.func14, Try.ntmps14
    go_wp2_with fail
    go_ret
    exact ⟨by first | rfl | (rw [HN.out]; rfl), Below.refl _ _⟩
end Go.Proofs.Ytidmbjgnkodiiaa
