/- The arguments of the laws of layer 15, opened. -/
import Derived.Test.YtdhahnagnemgaaaCmat2
import Derived.Test.YtdhahnagnemgaaaOsl
import Derived.Deep.Strs
namespace Go.Proofs.Ytdhahnagnemgaaa
open Go.RowKit Go.ChangeShapes Go.WideShapes Go.Joins
set_option linter.unusedVariables false
set_option linter.unusedSimpArgs false
set_option maxRecDepth 100000

theorem Try.cellsM : Try.prog.cellsOf 74 = 3 := by kernel_rfl
theorem Try.cellsC : Try.prog.cellsOf 117 = 2 := by kernel_rfl
theorem Try.cellsS : Try.prog.cellsOf 62 = 3 := by kernel_rfl
theorem Try.cellsI : Try.prog.cellsOf 3 = 1 := by kernel_rfl
theorem Try.cellsStr : Try.prog.cellsOf 9 = 1 := by kernel_rfl

section
variable {H : Type} {enc : TypeId × Value → H} {w : World} {base : Nat} {spare : Nat → Bool} {held : Bool}
theorem elem_matcher (n : Nat) (cs : List Value) (x : DataW H × List MemPlace) (h : DataW.trod enc Try.prog w base spare held n 74 cs = some x) : ∃ a : Int × ByteArray × ByteArray, cs = menc a ∧ True := by
  obtain ⟨y0, y1, y2, m, hx, hl, h0, h1, h2⟩ := Go.Deep.trod_struct3 Try.underlying74 h
  rw [Try.cellsM] at hl
  match cs, hl with
  | [c0, c1, c2], _ =>
    obtain ⟨k, e0, _⟩ := DataW.trod_int Try.underlying3 h0
    obtain ⟨s1, e1, _⟩ := DataW.trod_string Try.underlying9 h1
    obtain ⟨s2, e2, _⟩ := DataW.trod_string Try.underlying9 h2
    simp [Try.cellsI, Try.cellsStr] at e0 e1 e2
    subst e0 e1 e2
    exact ⟨(k, s1, s2), rfl, trivial⟩
theorem elem_count (n : Nat) (cs : List Value) (x : DataW H × List MemPlace) (h : DataW.trod enc Try.prog w base spare held n 117 cs = some x) : ∃ a : ByteArray × Int, cs = cenc a ∧ True := by
  obtain ⟨y0, y1, m, hx, hl, h0, h1⟩ := trod_struct2 Try.underlying117 h
  rw [Try.cellsC] at hl
  match cs, hl with
  | [c0, c1], _ =>
    obtain ⟨s1, e0, _⟩ := DataW.trod_string Try.underlying9 h0
    obtain ⟨k, e1, _⟩ := DataW.trod_int Try.underlying3 h1
    simp [Try.cellsI, Try.cellsStr] at e0 e1
    subst e0 e1
    exact ⟨(s1, k), rfl, trivial⟩
theorem open_matchers {r : Reach} {b0 : Nat} {v : Value} {d : DataW H} {ps : List MemPlace} (hval : Value.okWide Try.prog w r b0 51 v) (h : DataW.Trod enc Try.prog w base spare held 51 v d ps) : ∃ xs, Sl menc w v xs := by
  obtain ⟨xs, h, _⟩ := open_sl Try.underlying51 Try.cellsM (by decide) menc_len elem_matcher hval h
  exact ⟨xs, h⟩
theorem open_matcher {r : Reach} {b0 : Nat} {v : Value} {d : DataW H} {ps : List MemPlace} (hval : Value.okWide Try.prog w r b0 74 v) (h : DataW.Trod enc Try.prog w base spare held 74 v d ps) : ∃ k n s, v = .agg #[.int .i64 k, .string n, .string s] := by
  obtain ⟨cs, rfl, hsz⟩ := okWide_struct Try.underlying74 hval
  obtain ⟨fuel, hf⟩ := h
  obtain ⟨a, ha, _⟩ := elem_matcher _ _ _ hf
  refine ⟨a.1, a.2.1, a.2.2, ?_⟩
  congr 1
  exact Array.toList_inj.1 (by simpa [Value.cells, menc] using ha)
theorem open_stats {r : Reach} {b0 : Nat} {v : Value} {d : DataW H} {ps : List MemPlace} (hval : Value.okWide Try.prog w r b0 62 v) (h : DataW.Trod enc Try.prog w base spare held 62 v d ps) : ∃ se u st cs, v = .agg #[.int .i64 se, u, .int .i64 st] ∧ Sl cenc w u cs := by
  obtain ⟨cs, rfl, hsz⟩ := okWide_struct Try.underlying62 hval
  obtain ⟨fuel, hf⟩ := h
  obtain ⟨y0, y1, y2, m, hx, hl, h0, h1, h2⟩ := Go.Deep.trod_struct3 Try.underlying62 hf
  have hl3 : cs.toList.length = 3 := by simpa [Try.cellsS] using hsz
  obtain ⟨l, rfl⟩ : ∃ l : List Value, cs = l.toArray := ⟨cs.toList, by simp⟩
  simp only [Value.cells] at h0 h1 h2
  simp only [List.toList_toArray] at hl3 h0 h1 h2
  match l, hl3 with
  | [c0, c1, c2], _ =>
    obtain ⟨se, e0, _⟩ := DataW.trod_int Try.underlying3 h0
    obtain ⟨st, e2, _⟩ := DataW.trod_int Try.underlying3 h2
    obtain ⟨u, xs, e1, hs, _⟩ := open_sl_cs Try.underlying60 Try.cellsC (by decide) cenc_len elem_count h1
    have hcc : Try.prog.cellsOf 60 = 1 := by kernel_rfl
    simp [Try.cellsI, hcc] at e0 e1 e2
    subst e0 e1 e2
    exact ⟨se, _, st, xs, rfl, hs⟩
end

theorem costMatchers_walk (v0 : Value) (ms : List (Int × ByteArray × ByteArray)) (mk : Int) (mn mv : ByteArray) (se st : Int) (v : Value) (cs : List (ByteArray × Int)) (w : World)
    (h1 : Sl menc w v0 ms) (h2 : Sl cenc w v cs) :
    Calls Try.prog 8 #[v0, .agg #[.int .i64 mk, .string mn, .string mv], .agg #[.int .i64 se, v, .int .i64 st]] w fun e w' => e = .returned (.bool true) ∧ Below w.heap.size w w' := by
  by_cases hm : ms.length ≤ 40
  · by_cases hc : cs.length ≤ 100
    · exact cmat_walk v0 ms mk mn mv se st v cs w h1 h2 hm hc
    · have hf : decide (cs.length ≤ 100) = false := by simpa using hc
      have H2 := Lib.hid h2
      have HF := Lib.hid hf
      obtain ⟨sa, c0, rfl, -, hnil, hcells⟩ := h1.len (fun _ => by simp [menc])
      clear hf h1 h2 hnil hcells hc
      go_enter Try.func8, Try.ntmps8
      go_wp2_with fail
      obtain ⟨w0, hw0⟩ : ∃ w0, w0 = (w.alloc (.cells #[.int .i64 mk, .string mn, .string mv] 74)).alloc (.cells #[.int .i64 se, v, .int .i64 st] 62) := ⟨_, rfl⟩
      rw [← hw0]
      have hb0 : Below w.heap.size w w0 := by rw [hw0]; exact ((Below.refl _ _).alloc (Nat.le_refl _) _).alloc (by simp) _
      have hsz : w0.heap.size = w.heap.size + 2 := by rw [hw0]; simp
      have q0 : w0.cell? ⟨w.heap.size + 1, 0, none⟩ = some (.int .i64 se) := by rw [hw0]; exact World.cell?_alloc_at _ _ _ _ (by simp)
      have q1 : w0.cell? ⟨w.heap.size + 1, 1, none⟩ = some v := by rw [hw0]; exact World.cell?_alloc_at _ _ _ _ (by simp)
      have q2 : w0.cell? ⟨w.heap.size + 1, 2, none⟩ = some (.int .i64 st) := by rw [hw0]; exact World.cell?_alloc_at _ _ _ _ (by simp)
      clear hw0 hsz
      refine (known15 _).mono ?_
      rintro e w1 ⟨rfl, hb1⟩
      have hb01 := hb0.trans (hb1.mono hb0.size)
      replace q0 := cell_below hb1 (Nat.le_refl _) q0
      replace q1 := cell_below hb1 (Nat.le_refl _) q1
      replace q2 := cell_below hb1 (Nat.le_refl _) q2
      have HB01 := Lib.hid hb01
      clear hb0 hb1 hb01
      go_wp2_with fail
      refine (few15 se st v cs _ (H2.out.below HB01.out (Nat.le_refl _))).mono ?_
      rw [HF.out]
      rintro e w2 ⟨rfl, hb2⟩
      have hb02 := HB01.out.trans (hb2.mono HB01.out.size)
      go_wp2_with fail
      go_ret
      exact ⟨rfl, hb02⟩
  · have hd : decide ((40 : Int) < ms.length) = true := by simp; omega
    obtain ⟨sa, c0, rfl, -, hnil, hcells⟩ := h1.len (fun _ => by simp [menc])
    clear h1 h2 hnil hcells hm
    go_enter Try.func8, Try.ntmps8
    go_wp2_with fail
    obtain ⟨w0, hw0⟩ : ∃ w0, w0 = (w.alloc (.cells #[.int .i64 mk, .string mn, .string mv] 74)).alloc (.cells #[.int .i64 se, v, .int .i64 st] 62) := ⟨_, rfl⟩
    rw [← hw0]
    have hb0 : Below w.heap.size w w0 := by rw [hw0]; exact ((Below.refl _ _).alloc (Nat.le_refl _) _).alloc (by simp) _
    have hsz : w0.heap.size = w.heap.size + 2 := by rw [hw0]; simp
    have q0 : w0.cell? ⟨w.heap.size + 1, 0, none⟩ = some (.int .i64 se) := by rw [hw0]; exact World.cell?_alloc_at _ _ _ _ (by simp)
    have q1 : w0.cell? ⟨w.heap.size + 1, 1, none⟩ = some v := by rw [hw0]; exact World.cell?_alloc_at _ _ _ _ (by simp)
    have q2 : w0.cell? ⟨w.heap.size + 1, 2, none⟩ = some (.int .i64 st) := by rw [hw0]; exact World.cell?_alloc_at _ _ _ _ (by simp)
    clear hw0 hsz
    refine (known15 _).mono ?_
    rintro e w1 ⟨rfl, hb1⟩
    have hb01 := hb0.trans (hb1.mono hb0.size)
    replace q0 := cell_below hb1 (Nat.le_refl _) q0
    replace q1 := cell_below hb1 (Nat.le_refl _) q1
    replace q2 := cell_below hb1 (Nat.le_refl _) q2
    have HB01 := Lib.hid hb01
    clear hb0 hb1 hb01
    go_wp2_with fail
    go_ret
    exact ⟨rfl, HB01.out⟩
end Go.Proofs.Ytdhahnagnemgaaa
