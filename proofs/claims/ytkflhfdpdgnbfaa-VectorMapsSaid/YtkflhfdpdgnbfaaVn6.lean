/- Points, sorted by their labels. -/
import Derived.Test.YtkflhfdpdgnbfaaVn5
import Derived.Test.YtkflhfdpdgnbfaaSoR
namespace Go.Proofs.Ytkflhfdpdgnbfaa
open Go Go.RowKit Go.Lib Go.Sort
set_option linter.unusedVariables false
set_option linter.unusedSimpArgs false
set_option maxRecDepth 100000
abbrev ZIn (w : World) (g : Nat) := {z : ZPt // ZOk w (some g) z}
instance (w : World) (g : Nat) : Inhabited (ZIn w g) := ⟨⟨(.slice none 0 0, [], 0), Sl.nil _, fun h => absurd rfl h⟩⟩
def yenc {w : World} {g : Nat} (y : ZIn w g) : List Value := zenc y.1
theorem yenc_len {w : World} {g : Nat} (y : ZIn w g) : (yenc y).length = 2 := rfl
def ycmp {w : World} {g : Nat} (x y : ZIn w g) : Int := cmpL x.1.2.1 y.1.2.1
theorem ycmp_swo {w : World} {g : Nat} : Sort.SWO (ltOf (ycmp (w := w) (g := g))) := swo_of (fun x y => cmpL_neg x.1.2.1 y.1.2.1) (fun x y z h1 h2 => cmpL_trans _ _ _ h1 h2)
theorem ycmp_lays {w : World} {g : Nat} {size : Nat} {d0 : Array (ZIn w g)} : CmpLays Try.prog 31 #[] (yenc (w := w) (g := g)) 2 ycmp g 0 size w := by
  intro m os dk hs x y
  have hg : w.grownBy (sortWorldK yenc 2 w g 0 m dk os) (some g) := SWK.grownBy (enc := yenc) (k := 2) (d := dk) ⟨m, os, rfl⟩
  refine (pcmp_any x.1.1 y.1.1 x.1.2.2 y.1.2.2 x.1.2.1 y.1.2.1 _ (x.2.grown hg).1 (y.2.grown hg).1).mono ?_
  rintro e w' ⟨rfl, q, os', rfl⟩
  exact ⟨rfl, q, os', rfl⟩
set_option maxHeartbeats 4000000 in
theorem vsort_any (v : Value) (ps : List Pt) (base : Nat) (w : World) (h : OV w base v ps) (hl : ps.length ≤ 1000000) :
    Calls Try.prog 30 #[v, .func (.func 31) #[] #[]] w fun e w' => e = .returned (.tuple #[]) ∧ ∃ qs : List Pt, qs.Perm ps ∧ Weak qs ∧ VS w' v qs ∧ (∀ W, Below base W w → Below base W w') := by
  obtain ⟨zs, h1, h2, h3⟩ := h
  rcases h2.2 with ⟨rfl, h0⟩ | ⟨g, cap, cur, rfl, hbg, hg, hle, hcap, -, -⟩
  · obtain rfl : ps = [] := List.eq_nil_of_length_eq_zero h0
    clear h1 h2 h3 h0
    have mixed : Try.prog.follows .mixedOrders = true := by kernel_rfl
    have HS : Calls Try.prog 58 #[.slice none 0 0, .int .i64 0, .func (.func 31) #[] #[]] w fun e w' => e = .returned (.tuple #[]) ∧ w' = w := by
      have HI : Calls Try.prog 77 #[.slice none 0 0, .int .i64 0, .int .i64 0, .func (.func 31) #[] #[]] w fun e w' => e = .returned (.tuple #[]) ∧ w' = w := by
        go_enter Try.func77, Try.ntmps77
        go_wp2_with fail
        go_loopw [8] (fun i wr => i = .int .i64 1 ∧ wr = w) (fun _ _ => 0)
        case atStart => exact ⟨rfl, rfl⟩
        case round =>
          obtain ⟨rfl, rfl⟩ := hrel
          go_wp2_with fail
          go_end0
          exact ⟨rfl, rfl⟩
      go_enter Try.func58, Try.ntmps58
      go_wp2_with fail
      go_loopw [7, 8] (fun i j wr => i = .int .i64 0 ∧ j = .int .i64 20 ∧ wr = w) (fun _ _ _ => 0)
      case atStart => exact ⟨rfl, rfl, rfl⟩
      case round =>
        obtain ⟨rfl, rfl, rfl⟩ := hrel
        go_wp2_with fail
        refine HI.mono ?_
        rintro e w1 ⟨rfl, rfl⟩
        go_wp2_with fail
        go_loopw [6] (fun i wr => i = .int .i64 20 ∧ wr = w1) (fun _ _ => 0)
        case atStart => exact ⟨rfl, rfl⟩
        case round =>
          obtain ⟨rfl, rfl⟩ := hrel
          go_wp2_with fail
          go_end0
          exact ⟨rfl, rfl⟩
    go_enter Try.func30, Try.ntmps30
    go_wp2_with fail
    refine HS.mono ?_
    rintro e w1 ⟨rfl, rfl⟩
    go_wp2_with fail
    go_end0
    exact ⟨rfl, [], List.Perm.refl _, List.Pairwise.nil, VS.nil _, fun W h => h⟩
  · obtain ⟨N, hN⟩ : ∃ N, N = ps.length := ⟨_, rfl⟩
    have hzl : zs.length = N := by rw [hN, ← h1]; simp
    rw [← hN] at h2 hl hle
    rw [← hN]
    have hgl : g < w.heap.size := (Array.getElem?_eq_some_iff.1 hg).1
    obtain ⟨L, hL⟩ : ∃ L : List (ZIn w g), L.map Subtype.val = zs := ⟨zs.attachWith (ZOk w (some g)) h3, List.attachWith_map_subtype_val ..⟩
    have hLl : L.length = N := by rw [← hzl, ← hL]; simp
    have hfl : L.flatMap yenc = zs.flatMap zenc := by rw [← hL, List.flatMap_map]; rfl
    rw [← hfl] at h2
    have hH := holdsK_own (enc := yenc) yenc_len (by decide) h2
    have R : RowK yenc 2 w g 0 L.toArray := ⟨yenc_len, fun x v hv => by
      obtain ⟨a, c, hs, -⟩ := x.2.1
      simp [yenc, zenc] at hv
      rcases hv with rfl | rfl
      · rw [hs]; rfl
      · rfl, hH, hgl⟩
    have HF := stable_P 2 (fun w => by rfl) 31 #[] (fun args w => by rfl) ycmp g 0 cap L.toArray L.toArray w w R rfl (SWK.start hH) (ycmp_lays (d0 := L.toArray)) ycmp_swo (by simp; omega)
    rw [List.size_toArray, hLl] at HF
    have HFF := Lib.hid HF
    have HR := Lib.hid R
    have HHH := Lib.hid hH
    have H1 := Lib.hid h1
    have HL := Lib.hid hL
    have HLl := Lib.hid hLl
    have HN := Lib.hid hN
    unfold maxLen at hcap
    clear HF R hH h2 h3 hg h1 hL hfl hzl hLl hN
    go_enter Try.func30, Try.ntmps30
    go_wp2_with fail
    refine HFF.out.mono ?_
    rintro e w1 ⟨rfl, d', hS, hz, hp, hs⟩
    have HS := Lib.hid hS
    have HZ := Lib.hid hz
    have HP := Lib.hid hp
    have HO := Lib.hid hs
    clear hS hz hp hs
    go_wp2_with fail
    go_end0
    have hlL := HLl.out
    have hz : d'.size = N := by have := HZ.out; simpa [hlL] using this
    have hperm : d'.toList.Perm L := by
      have := HP.out.2.2
      simp only [List.extract_toArray, List.extract_eq_take_drop, List.drop_zero] at this
      have e1 : (d'.extract 0 N).toList = d'.toList := by rw [← hz, Array.extract_size]
      rw [e1] at this
      simpa [← hlL] using this
    have hsl := SWK.slice (cap := cap) HS.out yenc_len (by decide) HHH.out hgl (by rw [hz]; simp [hlL]) ⟨by omega, by omega⟩
    rw [hz] at hsl
    have hgr := SWK.grownBy HS.out
    refine ⟨rfl, (d'.toList.map Subtype.val).map (·.2), ?_, ?_, vs_of (Sl.mapped (enc := zenc) (f := Subtype.val) hsl) ?_, ?_⟩
    · rw [← H1.out, ← HL.out]
      exact (hperm.map _).map _
    · unfold Weak
      rw [List.pairwise_map, List.pairwise_map, List.pairwise_iff_getElem]
      intro i j hi hj hij
      have := HO.out i j (Nat.zero_le _) hij (by simpa [hz] using hj)
      have hi2 : i < d'.size := by simpa using hi
      have hj2 : j < d'.size := by simpa using hj
      rw [getElem!_pos d' i hi2, getElem!_pos d' j hj2] at this
      have h2 : ¬ cmpL d'[j].1.2.1 d'[i].1.2.1 < 0 := of_decide_eq_false this
      have h3 := cmpL_neg d'[j].1.2.1 d'[i].1.2.1
      simp only [Array.getElem_toList]
      omega
    · intro z hz
      obtain ⟨y, hy, rfl⟩ := List.mem_map.1 hz
      exact (y.2.grown hgr).1
    · intro W hW
      exact hW.grown hgr (by omega) (fun j hj => by injection hj with hj; omega)
end Go.Proofs.Ytkflhfdpdgnbfaa
