/- The document's Set. -/
import Derived.Test.YtdpigfcnphklgaaDoorLa15
namespace Go.Proofs.YtdpigfcnphklgaaDoor
open Go.RowKit
set_option linter.unusedVariables false
set_option linter.unusedSimpArgs false
set_option maxRecDepth 100000
theorem lx_mem {l : List Lb} {k : Nat} (h : k < l.length) : lx l k ∈ l := by rw [lx_at h]; exact List.getElem_mem h
theorem okP_no_name {l : List Lb} {k : Nat} (hk : k < l.length) (h : nameB (lx l k).1 = false ∨ 256 < (lx l k).2.size) : ¬ OkP l := by
  intro ho
  obtain ⟨h1, h2⟩ := ho.1 _ (lx_mem hk)
  rcases h with h | h
  · rw [h] at h1; cases h1
  · omega
theorem okP_no_dup {l : List Lb} {j k : Nat} (hj : j < k) (hk : k < l.length) (h : (lx l j).1 = (lx l k).1) : ¬ OkP l := by
  intro ho
  have := List.pairwise_iff_getElem.1 ho.2 j k (by omega) hk hj
  rw [lx_at hk, lx_at (by omega)] at h
  exact this h
theorem okP_snoc {l : List Lb} {k : Nat} (hk : k < l.length) (h : OkP (l.take k)) (h1 : nameB (lx l k).1 = true) (h2 : (lx l k).2.size ≤ 256) (h3 : ∀ j, j < k → (lx l j).1 ≠ (lx l k).1) : OkP (l.take (k + 1)) := by
  rw [List.take_succ_eq_append_getElem hk, ← lx_at hk]
  refine ⟨fun x hx => ?_, ?_⟩
  · rcases List.mem_append.1 hx with hx | hx
    · exact h.1 x hx
    · simp at hx; subst hx; exact ⟨h1, h2⟩
  · refine List.pairwise_append.2 ⟨h.2, List.pairwise_singleton _ _, fun x hx y hy => ?_⟩
    simp at hy; subst hy
    obtain ⟨j, hj, rfl⟩ := List.getElem_of_mem hx
    have hj' : j < k := by simp at hj; omega
    have := h3 j hj'
    rw [lx_at (by omega)] at this
    simpa using this
def RSet (l : List Lb) (w : World) (e : Ending) (w' : World) : Prop :=
  Below w.heap.size w w' ∧ ((OkP l ∧ (keepL l).length ≤ 32 ∧ ∃ v', e = .returned (.tuple #[v', .int .i64 0]) ∧ Sl lenc w' v' (insL (keepL l))) ∨ (¬ (OkP l ∧ (keepL l).length ≤ 32) ∧ e = .returned (.tuple #[.slice none 0 0, .int .i64 1])))
set_option maxHeartbeats 4000000 in
theorem rset_any (v : Value) (l : List Lb) (w : World) (h : Sl lenc w v l) (hl : l.length ≤ 100000) :
    Calls Tryd.prog 14 #[v] w fun e w' => RSet l w e w' := by
  obtain ⟨a, cap, rfl, hlen, -, hc⟩ := h.split lenc_len
  have HC := Lib.hid hc
  clear hc h
  go_enter Tryd.func14, Tryd.ntmps14
  go_wp2_with fail
  go_loopw [4, 5] (fun v i wr => ∃ (k : Nat), k ≤ l.length ∧ i = .int .i64 k ∧ Hid (OkP (l.take k)) ∧ Hid (Sl lenc wr v (insL (keepL (l.take k)))) ∧ Hid (Below w.heap.size w wr)) (fun _ i _ => l.length - (intOf i).toNat)
  case atStart => exact ⟨0, Nat.zero_le _, rfl, ⟨by simp, by simp⟩, Sl.nil _, Below.refl _ _⟩
  case round =>
    obtain ⟨k, hk, rfl, HO, HS, HB⟩ := hrel
    have h00 : (0 : Int) ≤ (k : Int) := by omega
    by_cases hlt : k < l.length
    · have hltz : (k : Int) < (l.length : Int) := by omega
      obtain ⟨b, off, rfl, hk0, hk1⟩ := lab_cells HC.out HB.out (Nat.le_refl _) hlt
      by_cases hn : nameB (lx l k).1 = true
      · by_cases h2 : 256 < (lx l k).2.size
        · have h2z : (256 : Int) < ((lx l k).2.size : Int) := by omega
          have h2b : decide ((256 : Int) < ((lx l k).2.size : Int)) = true := decide_eq_true h2z
          have HF := Lib.hid (okP_no_name hlt (.inr h2))
          go_wp2_with fail
          refine (rname_any _ _).mono ?_
          rintro e w1 ⟨rfl, rfl⟩
          rw [hn]
          go_wp2_with fail
          go_ret2
          exact ⟨HB.out, .inr ⟨fun h => HF.out h.1, rfl⟩⟩
        · have h2z : ¬ (256 : Int) < ((lx l k).2.size : Int) := by omega
          have h2b : decide ((256 : Int) < ((lx l k).2.size : Int)) = false := decide_eq_false h2z
          have H2 := Lib.hid h2
          clear h2
          go_wp2_with fail
          refine (rname_any _ _).mono ?_
          rintro e w1 ⟨rfl, rfl⟩
          rw [hn]
          have HN := Lib.hid hn
          clear hn
          go_wp2_with fail
          obtain ⟨wo, rfl⟩ : ∃ wo : World, wo = w1 := ⟨_, rfl⟩
          go_loopw [6] (fun j wr => ∃ (m : Nat), m ≤ k ∧ j = .int .i64 m ∧ Hid (∀ j, j < m → (lx l j).1 ≠ (lx l k).1) ∧ ∃ n, wr = wo.drewN n) (fun j _ => k - (intOf j).toNat)
          case atStart => exact ⟨0, Nat.zero_le _, rfl, fun j hj => absurd hj (Nat.not_lt_zero _), 0, rfl⟩
          case round =>
            obtain ⟨m, hm, rfl, HJ, n, rfl⟩ := hrel
            have h0m : (0 : Int) ≤ (m : Int) := by omega
            by_cases hmk : m < k
            · have hmkz : (m : Int) < (k : Int) := by omega
              have hml : (m : Int) < (l.length : Int) := by omega
              obtain ⟨b', off', hbo, hj0, hj1⟩ := lab_cells HC.out HB.out (Nat.le_refl _) (show m < l.length by omega)
              injection hbo with hbo
              injection hbo with hb1 hb2
              subst hb1 hb2
              by_cases he : ((lx l m).1.toList == (lx l k).1.toList) = true
              · have HF := Lib.hid (okP_no_dup hmk hlt (by rw [beq_cmp, decide_eq_true_eq] at he; exact (cmpS_eq _ _).1 he))
                go_wp2_with fail
                go_quiet (fail)
                go_wp2_with fail
                go_ret2
                exact ⟨below_drewN (below_drewN HB.out _) _, .inr ⟨fun h => HF.out h.1, rfl⟩⟩
              · have he1 : ((lx l m).1.toList == (lx l k).1.toList) = false := by simpa using he
                have HNE := Lib.hid (show (lx l m).1 ≠ (lx l k).1 from fun e => he (by rw [beq_cmp, decide_eq_true_eq]; exact (cmpS_eq _ _).2 e))
                clear he
                go_wp2_with fail
                go_quiet (fail)
                go_wp2_with fail
                go_roundw
                case rel =>
                  refine ⟨m + 1, by omega, by go_num, fun j hj => ?_, _, by first | rfl | (simp only [World.drewN_drewN])⟩
                  by_cases hjm : j = m
                  · subst hjm; exact HNE.out
                  · exact HJ.out j (by omega)
                case measure => simp [intOf]; omega
            · obtain rfl : m = k := by omega
              have hmkz : ¬ (m : Int) < (m : Int) := by omega
              have HO1 := Lib.hid (okP_snoc hlt HO.out HN.out (by have := H2.out; omega) HJ.out)
              have HK := Lib.hid (keep_snoc l m hlt)
              by_cases h0 : 0 < (lx l m).2.size
              · have hz1' : ¬ (lx l m).2.toList = [] := not_empty_of h0
                have hz2' : (lx l m).2.toList.isEmpty = false := by simpa using hz1'
                have HSS := Lib.hid (show insL (keepL (l.take (m + 1))) = putL (lx l m) (insL (keepL (l.take m))) by rw [HK.out, if_pos h0, ins_snoc])
                have hlen2 : (insL (keepL (l.take m))).length ≤ 1000000 := by rw [ins_length]; have := keep_take_len l m; omega
                have HP := Lib.hid (rput_any u4 _ (lx l m).1 (lx l m).2 (wo.drewN n) HS.out hlen2)
                clear hlen2 h0
                go_wp2_with fail
                refine HP.out.mono ?_
                rintro e w5 ⟨v', rfl, hs5, hb5⟩
                have HS5 := Lib.hid hs5
                have HB5 := Lib.hid ((below_drewN HB.out n).trans (hb5.mono (below_drewN HB.out n).size))
                clear hs5 hb5
                go_wp2_with fail
                go_roundw
                case rel => exact ⟨m + 1, by omega, by go_num, HO1.out, by rw [HSS.out]; exact HS5.out, HB5.out⟩
                case measure => simp [intOf]; omega
              · have hz1' : (lx l m).2.toList = [] := empty_of (by omega)
                have hz2' : (lx l m).2.toList.isEmpty = true := by simpa using hz1'
                have HSS := Lib.hid (show keepL (l.take (m + 1)) = keepL (l.take m) by rw [HK.out, if_neg h0, List.append_nil])
                clear h0
                go_wp2_with fail
                go_roundw
                case rel => exact ⟨m + 1, by omega, by go_num, HO1.out, by rw [HSS.out]; exact HS.out, below_drewN HB.out _⟩
                case measure => simp [intOf]; omega
      · have hn2 : nameB (lx l k).1 = false := by simpa using hn
        have HF := Lib.hid (okP_no_name hlt (.inl hn2))
        go_wp2_with fail
        refine (rname_any _ _).mono ?_
        rintro e w1 ⟨rfl, rfl⟩
        rw [hn2]
        go_wp2_with fail
        go_ret2
        exact ⟨HB.out, .inr ⟨fun h => HF.out h.1, rfl⟩⟩
    · have hltz : ¬ (k : Int) < (l.length : Int) := by omega
      obtain rfl : k = l.length := by omega
      rw [List.take_of_length_le (Nat.le_refl _)] at HO HS
      obtain ⟨a5, cap5, e5, -, -, -⟩ := HS.out.split lenc_len
      subst e5
      have hle := ins_length (keepL l)
      by_cases hbig : 32 < (keepL l).length
      · have hbz : (32 : Int) < ((insL (keepL l)).length : Int) := by omega
        clear hle
        go_wp2_with fail
        go_ret2
        exact ⟨HB.out, .inr ⟨fun h => by omega, rfl⟩⟩
      · have hbz : ¬ (32 : Int) < ((insL (keepL l)).length : Int) := by omega
        clear hle
        go_wp2_with fail
        go_ret2
        exact ⟨HB.out, .inl ⟨HO.out, by omega, _, rfl, HS.out⟩⟩
end Go.Proofs.YtdpigfcnphklgaaDoor
