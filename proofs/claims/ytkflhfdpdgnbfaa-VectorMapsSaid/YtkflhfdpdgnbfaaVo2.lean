/- each: points made of points by a function's value. -/
import Derived.Test.YtkflhfdpdgnbfaaVn7
namespace Go.Proofs.Ytkflhfdpdgnbfaa
open Go Go.RowKit
set_option linter.unusedVariables false
set_option linter.unusedSimpArgs false
set_option maxRecDepth 100000
/-- What a function's value does of each point. -/
def FC (g : Nat) (cb : Array Value) (f : Pt → Option Pt) (w : World) (ps : List Pt) : Prop :=
  ∀ p ∈ ps, ∀ lv, Sl lenc w lv p.1 → ∀ W, Below w.heap.size w W → Calls Try.prog g (#[.agg #[lv, .float .f64 p.2]] ++ cb) W fun e w' => Below W.heap.size W w' ∧
    ∃ a n c y, e = .returned (.tuple #[.agg #[.slice a n c, .float .f64 y], .bool (f p).isSome]) ∧
      ∀ q, f p = some q → y = q.2 ∧ Sl lenc w' (.slice a n c) q.1 ∧ (q.1 ≠ [] → ∀ j, (Value.slice a n c).ownBlock = some j → j < w.heap.size ∨ W.heap.size ≤ j)
theorem take_fm {f : Pt → Option Pt} (ps : List Pt) (k : Nat) (h : k < ps.length) : (ps.take (k + 1)).filterMap f = (ps.take k).filterMap f ++ (f ps[k]).toList := by
  rw [List.take_succ_eq_append_getElem h, List.filterMap_append]
  congr 1
set_option maxHeartbeats 8000000 in
theorem each_any (g : Nat) (cb : Array Value) (eg : ∀ args w, (callFunc g args).run Try.prog w = .ok (.enter g args) w) (f : Pt → Option Pt) (v : Value) (ps : List Pt) (w : World) (h : VS w v ps) (hl : ps.length ≤ 100000) (hf : FC g cb f w ps) :
    Calls Try.prog 37 #[v, .func (.func g) #[] cb] w fun e w' => Below w.heap.size w w' ∧ NR (ps.filterMap f) e w' := by
  obtain ⟨a, cap, rfl, hlen, hc⟩ := h.split
  have HC := Lib.hid hc
  have HF := Lib.hid hf
  clear hc h hf
  obtain ⟨i0, hi, hz0, hz1, hz2⟩ := info_parts Try.infoPt
  go_enter Try.func37, Try.ntmps37
  go_wp2_with fail
  go_loopw [6, 13] (fun v i wr => ∃ (k : Nat), k ≤ ps.length ∧ i = .int .i64 k ∧ OV wr w.heap.size v ((ps.take k).filterMap f) ∧ Hid (Below w.heap.size w wr)) (fun _ i _ => ps.length - (intOf i).toNat)
  case atStart => exact ⟨0, Nat.zero_le _, rfl, OV.nil _ _, Below.refl _ _⟩
  case round =>
    obtain ⟨k, hk, rfl, hov, HB⟩ := hrel
    have hBz := HB.out.size
    have h00 : (0 : Int) ≤ (k : Int) := by omega
    by_cases hlt : k < ps.length
    · have hltz : (k : Int) < (ps.length : Int) := by omega
      obtain ⟨b, off, lv, rfl, k0, k1, hsl⟩ := HC.out k hlt
      have p0 := cell_below HB.out (Nat.le_refl _) k0
      have p1 := cell_below HB.out (Nat.le_refl _) k1
      have HFR := Lib.hid (fun W hb => HF.out ps[k] (List.getElem_mem hlt) lv hsl W hb)
      obtain ⟨a2, n2, c2, rfl⟩ : ∃ a2 n2 c2, lv = .slice a2 n2 c2 := by
        obtain ⟨a2, c2, e, -⟩ := hsl
        exact ⟨a2, _, c2, e⟩
      obtain ⟨x, hx⟩ : ∃ x, x = ps[k].2 := ⟨_, rfl⟩
      rw [← hx] at p1 HFR
      have HTF := Lib.hid (take_fm (f := f) ps k hlt)
      obtain ⟨r, hr⟩ : ∃ r, r = f ps[k] := ⟨_, rfl⟩
      rw [← hr] at HFR HTF
      clear hsl k0 k1 hx hr
      have HOV := Lib.hid hov
      have HLN := Lib.hid (show ((ps.take k).filterMap f).length ≤ ps.length from Nat.le_trans (List.length_filterMap_le _ _) (by simp; omega))
      clear hov
      cases r with
      | none =>
        go_wp2_with fail
        refine (HFR.out _ (HB.out.alloc hBz _)).mono ?_
        rintro e w2 ⟨hb2, a9, n9, c9, y, rfl, -⟩
        have hb3 : Below wr.heap.size wr w2 := ((Below.refl _ _).alloc (Nat.le_refl _) _).trans (hb2.mono (by simp))
        have HB3 := Lib.hid (HB.out.trans (hb3.mono hBz))
        have HOV2 := Lib.hid (HOV.out.kept hb3)
        have hz3 : wr.heap.size ≤ w2.heap.size := hb3.size
        clear hb2 hb3
        go_wp2_with fail
        go_roundw
        case rel => exact ⟨k + 1, by omega, by go_num, by rw [HTF.out]; simpa using HOV2.out.kept ((Below.refl _ _).alloc (Nat.le_refl _) _), HB3.out.alloc (by omega) _⟩
        case measure => simp [intOf]; omega
      | some q =>
        go_wp2_with fail
        refine (HFR.out _ (HB.out.alloc hBz _)).mono ?_
        rintro e w2 ⟨hb2, a9, n9, c9, y, rfl, hq⟩
        obtain ⟨rfl, hs9, hap⟩ := hq q rfl
        have hb3 : Below wr.heap.size wr w2 := ((Below.refl _ _).alloc (Nat.le_refl _) _).trans (hb2.mono (by simp))
        have HB3 := Lib.hid (HB.out.trans (hb3.mono hBz))
        obtain ⟨zs, hzs, hown2, hzok⟩ := HOV.out.kept hb3
        have hnl : ∀ j, u6.ownBlock = some j → w.heap.size ≤ j ∧ j < wr.heap.size := fun j e => by
          obtain ⟨_, _, ho, _⟩ := HOV.out
          exact ho.lt j e
        have HNL := Lib.hid hnl
        have HZS := Lib.hid hzs
        have HZO := Lib.hid hzok
        have HO2 := Lib.hid hown2
        have HAP := Lib.hid hap
        have HS9 := Lib.hid hs9
        have hz3 : wr.heap.size ≤ w2.heap.size := hb3.size
        obtain ⟨N, hN⟩ : ∃ N, N = ((ps.take k).filterMap f).length := ⟨_, rfl⟩
        have HN := Lib.hid hN
        rw [← hN] at hown2
        have hNl : N ≤ 100000 := by have := HLN.out; omega
        clear hb2 hb3 hq hzs hzok hnl hap hs9 hN
        go_wp2_with (at_builtin; refine wpList_append_own_at _ rfl _ _ 22 rfl w.heap.size 35 i0 (.agg #[.slice none 0 0, .float .f64 0]) 2 32 Try.underlying22 hi hz0 hz1 hz2 rfl (by decide) u6 N (zs.flatMap zenc) rfl ((hown2.alloc _).alloc _) ⟨w2.heap.size + 1, 0, none⟩ 1 1 [.slice a9 n9 c9, .float .f64 q.2] rfl rfl ?c1 ?c2 ?c3 ?c4 ?c5 ?_)
        case c1 => exact World.news_of_block (cs := #[.slice a9 n9 c9, .float .f64 q.2]) (by have := heap_new (w2.alloc (.cells #[.slice a9 n9 c9, .float .f64 q.2] 35)) (.cells #[.slice a9 n9 c9, .float .f64 q.2] 35); simpa using this)
        case c2 => intro u hu; simp at hu; rcases hu with rfl | rfl <;> rfl
        case c3 => unfold maxLen; omega
        case c4 => omega
        case c5 => simp; omega
        intro v' w10 hown' hgrow _ hat
        have hbC : Below w2.heap.size w2 ((w2.alloc (.cells #[.slice a9 n9 c9, .float .f64 q.2] 35)).alloc (.cells #[.slice a9 n9 c9, .float .f64 q.2] 35)) := ((Below.refl _ _).alloc (Nat.le_refl _) _).alloc (by simp) _
        have hov' : OV w10 w.heap.size v' ((ps.take (k + 1)).filterMap f) := by
          have h1 := OV.appended (v' := v') (w' := w10) (z := (.slice a9 n9 c9, q)) HZS.out (fun z hz => (HZO.out z hz).below hbC (Nat.le_refl _))
            ⟨HS9.out.below hbC (Nat.le_refl _), fun hx he => by
              obtain ⟨j, e1, e2⟩ := HS9.out.lt hx
              have h3 := HNL.out j (by rw [← he]; exact e1)
              have h4 : j < w.heap.size ∨ (wr.alloc (.cells #[.slice a2 n2 c2, .float .f64 x] 35)).heap.size ≤ j := HAP.out hx j e1
              simp at h4
              omega⟩ (by rw [← HN.out]; exact hown') hgrow (by simpa using hat)
          rw [HTF.out]
          exact h1
        have hbW : Below w.heap.size w w10 := (HB3.out.trans (hbC.mono (Nat.le_trans hBz hz3))).grown hgrow (by simp; omega) (fun j hj => (HO2.out.lt j hj).1)
        have HOV2 := Lib.hid hov'
        have HBW2 := Lib.hid hbW
        clear hov' hbW hbC hgrow hat hown' hown2
        go_wp2_with fail
        go_roundw
        case rel => exact ⟨k + 1, by omega, by go_num, HOV2.out, HBW2.out⟩
        case measure => simp [intOf]; omega
    · have hltz : ¬ (k : Int) < (ps.length : Int) := by omega
      obtain rfl : k = ps.length := by omega
      rw [List.take_of_length_le (Nat.le_refl _)] at hov
      obtain ⟨a4, c4, rfl, hc4, hc5⟩ := hov.slice
      have HNM := Lib.hid (normal_any _ _ wr hov.vs (Nat.le_trans (List.length_filterMap_le _ _) hl))
      obtain ⟨N, hN⟩ : ∃ N, N = (ps.filterMap f).length := ⟨_, rfl⟩
      rw [← hN] at HNM ⊢
      clear hov hN
      go_wp2_with fail
      refine HNM.out.mono ?_
      rintro e w2 ⟨hb2, hn⟩
      have HB2 := Lib.hid (HB.out.trans (hb2.mono hBz))
      have HN := Lib.hid hn
      rcases hn with ⟨-, rfl⟩ | ⟨-, -, rfl⟩ | ⟨-, qs, v', -, -, rfl, hv⟩
      · go_wp2_with fail
        go_ret2
        exact ⟨HB2.out, HN.out⟩
      · go_wp2_with fail
        go_ret2
        exact ⟨HB2.out, HN.out⟩
      · obtain ⟨a5, c5, rfl, -, -⟩ := hv.split
        clear hv
        go_wp2_with fail
        go_ret2
        exact ⟨HB2.out, HN.out⟩
end Go.Proofs.Ytkflhfdpdgnbfaa
