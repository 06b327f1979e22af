/- The walk of VectorNames. -/
import Derived.Test.YtkflhfdpdgnbfaaVq3
import Derived.Test.YtkflhfdpdgnbfaaVp3
namespace Go.Proofs.Ytkflhfdpdgnbfaa
open Go Go.RowKit
set_option linter.unusedVariables false
set_option linter.unusedSimpArgs false
set_option maxRecDepth 100000
theorem Try.elemVec : Try.prog.underlying 25 = some (.slice (Try.prog.elem 25)) := by kernel_rfl
theorem Try.sizeVec (w : World) : (sizeOf (Try.prog.elem 25)).run Try.prog w = .ok 2 w := by rfl
/-- One point of a vector, cut out. -/
theorem VS.one {w : World} {a : Option Addr} {n cap : Nat} {ps : List Pt} (h : VS w (.slice a n cap) ps) {k : Nat} (hk : k < ps.length) :
    ∃ a1 c1, (∀ W : World, (Instr.slice 25 (.slice a n cap) (some (.int .i64 (k : Int))) (some (.int .i64 ((k : Int) + 1))) none).run Try.prog W = .ok (.slice a1 1 c1) W) ∧ VS w (.slice a1 1 c1) [ps[k]] := by
  obtain ⟨a0, cap0, e, hm, hc⟩ := h.split
  injection e with e1 e2 e3
  subst e1 e2 e3
  obtain ⟨b, off, lv, rfl, k0, k1, hs⟩ := hc k hk
  refine ⟨some ⟨b, off + k * 2, none⟩, cap - k, fun W => ?_, ?_⟩
  · rw [run_slice_lh W 25 (some ⟨b, off, none⟩) ps.length cap Try.elemVec .i64 .i64 k ((k : Int) + 1) (by omega) (by omega) (by omega), Try.sizeVec]
    have e1 : ((k : Int) + 1).toNat = k + 1 := by omega
    simp only [Result.andThen, sliced, Int.toNat_natCast, e1]
    rw [if_neg (by omega), show k + 1 - k = 1 by omega]
    simp [Addr.add_lit]
  · refine ⟨[(lv, ps[k].2)], ⟨_, _, rfl, ⟨by simp; omega, by omega⟩, (fun e => by cases e), fun _ => ⟨b, off + k * 2, rfl, fun j u hu => ?_⟩⟩, rfl, fun i hi hi2 => ?_⟩
    · match j, hu with
      | 0, hu => simp [penc] at hu; subst hu; exact k0
      | 1, hu => simp [penc] at hu; subst hu; exact k1
    · have : i = 0 := by simp at hi; omega
      subst this
      exact ⟨hs, rfl⟩
theorem nameless_no (l : List Lb) : ∀ x ∈ namelessL l, x.1 ≠ nmS := by
  intro x hx he
  unfold namelessL pickL at hx
  have := (List.mem_filter.1 hx).2
  rw [he] at this
  revert this
  decide +kernel
theorem nm_beq {s : ByteArray} (h : s ≠ nmS) : (s.toList == [95, 95, 110, 97, 109, 101, 95, 95]) = false := by
  have e : nmS.toList = [95, 95, 110, 97, 109, 101, 95, 95] := by decide +kernel
  rw [← e, beq_cmp]
  exact decide_eq_false fun hh => h ((cmpS_eq _ _).1 hh)
set_option maxHeartbeats 4000000 in
theorem named_no (v : Value) (ps : List Pt) (w : World) (h : VS w v ps) (hn : ∀ p ∈ ps, ∀ x ∈ p.1, x.1 ≠ nmS) :
    Calls Try.prog 18 #[v] w fun e w' => e = .returned (.bool false) ∧ ∃ n, w' = w.drewN n := by
  obtain ⟨a, cap, rfl, hlen, hc⟩ := h.split
  have HC := Lib.hid hc
  have HNO := Lib.hid hn
  clear hc h hn
  go_enter Try.func18, Try.ntmps18
  go_wp2_with fail
  go_loopw [3] (fun i wr => ∃ (k n : Nat), k ≤ ps.length ∧ i = .int .i64 k ∧ wr = w.drewN n) (fun i _ => ps.length - (intOf i).toNat)
  case atStart => exact ⟨0, 0, Nat.zero_le _, rfl, rfl⟩
  case round =>
    obtain ⟨k, n, hk, rfl, rfl⟩ := hrel
    have h00 : (0 : Int) ≤ (k : Int) := by omega
    by_cases hlt : k < ps.length
    · have hltz : (k : Int) < (ps.length : Int) := by omega
      obtain ⟨b, off, lv, rfl, k0, k1, hs⟩ := HC.out k hlt
      obtain ⟨a2, c2, rfl, hlen2, -, hc2⟩ := hs.split lenc_len
      have HC2 := Lib.hid hc2
      have HN1 := Lib.hid (HNO.out _ (List.getElem_mem hlt))
      obtain ⟨L, hL⟩ : ∃ L, L = ps[k].1 := ⟨_, rfl⟩
      rw [← hL] at HC2 HN1 hlen2 k0
      clear hs hc2 hL
      go_wp2_with fail
      go_loopw [4] (fun i wr => ∃ (m n : Nat), m ≤ L.length ∧ i = .int .i64 m ∧ wr = w.drewN n) (fun i _ => L.length - (intOf i).toNat)
      case atStart => exact ⟨0, n, Nat.zero_le _, rfl, rfl⟩
      case round =>
        obtain ⟨m, n, hm, rfl, rfl⟩ := hrel
        have h01 : (0 : Int) ≤ (m : Int) := by omega
        by_cases hmt : m < L.length
        · have hmtz : (m : Int) < (L.length : Int) := by omega
          obtain ⟨b3, off3, rfl, hcc⟩ := HC2.out m hmt
          have r0 : w.cell? ⟨b3, off3 + m * 2, none⟩ = some (.string L[m].1) := hcc 0 _ rfl
          have hne := nm_beq (HN1.out _ (List.getElem_mem hmt))
          have hne2 : ¬ L[m].1.toList = [95, 95, 110, 97, 109, 101, 95, 95] := by simpa using hne
          obtain ⟨s, hs⟩ : ∃ s, s = L[m].1 := ⟨_, rfl⟩
          rw [← hs] at r0 hne hne2
          clear hcc hs
          go_wp2_with fail
          go_roundw
          case rel => exact ⟨m + 1, n, by omega, by go_num, rfl⟩
          case measure => simp [intOf]; omega
        · have hmtz : ¬ (m : Int) < (L.length : Int) := by omega
          go_wp2_with fail
          go_roundw
          case rel => exact ⟨k + 1, n, by omega, by go_num, rfl⟩
          case measure => simp [intOf]; omega
    · have hltz : ¬ (k : Int) < (ps.length : Int) := by omega
      go_wp2_with fail
      go_ret
      exact ⟨rfl, n, rfl⟩
/-- An answer's points have no metric's name, and are as many. -/
theorem nror_nameless {ok : Bool} {ps : List Pt} {f : Pt → Option Pt} {e : Ending} {w : World} (hf : ∀ p, ∃ y, f p = some (namelessL p.1, y)) (h : NRor ok (ps.filterMap f) e w) :
    ∃ v n, e = .returned (.tuple #[v, .int .i64 n]) ∧ ((n = 0 ∧ ∃ q, VS w v q ∧ q.length = ps.length ∧ ∀ p ∈ q, ∀ x ∈ p.1, x.1 ≠ nmS) ∨ (n ≠ 0 ∧ v = .slice none 0 0)) := by
  unfold NRor at h
  split at h
  · rcases h with ⟨-, rfl⟩ | ⟨-, -, rfl⟩ | ⟨-, q, v', h1, h2, rfl, h4⟩
    · exact ⟨_, _, rfl, .inr ⟨by decide, rfl⟩⟩
    · exact ⟨_, _, rfl, .inr ⟨by decide, rfl⟩⟩
    · refine ⟨_, _, rfl, .inl ⟨rfl, q, h4, ?_, fun p hp x hx => ?_⟩⟩
      · rw [h1.length_eq, List.length_map]
        clear h1 h2 h4
        induction ps with
        | nil => rfl
        | cons p ps ih =>
          obtain ⟨y, hy⟩ := hf p
          rw [List.filterMap_cons_some hy, List.length_cons, ih, List.length_cons]
      · obtain ⟨r, hr, rfl⟩ := List.mem_map.1 (h1.subset hp)
        obtain ⟨p0, -, hp0⟩ := List.mem_filterMap.1 hr
        obtain ⟨y, hy⟩ := hf p0
        rw [hy] at hp0
        injection hp0 with hp0
        subst hp0
        exact nameless_no p0.1 x hx
  · exact ⟨_, _, h, .inr ⟨by decide, rfl⟩⟩
/-- What a filter leaves: each of it is a point of the vector. -/
theorem nr_kept {ps : List Pt} {e : Ending} {w : World} {op : Int} {x : Nat} {left : Bool} (hs : Strict ps) (hr : ∀ p ∈ ps, rightL p.1 = true) (h : NR (ps.filterMap (filterF op x left)) e w) :
    ∃ v t, e = .returned (.tuple #[v, .int .i64 0]) ∧ VS w v t ∧ ∀ p ∈ t, ∃ k, ∃ hk : k < ps.length, vsameL [p] [ps[k]] = true := by
  rw [filterF_eq] at h
  have ht : Strict ((ps.filter fun p => holdsF op (sideF left x p.2).1 (sideF left x p.2).2).map canonP) := by
    unfold Strict
    rw [List.pairwise_map]
    exact hs.sublist List.filter_sublist
  obtain ⟨v, he, hv⟩ := nr_of (fun p hp => hr p (List.mem_filter.1 hp).1) ht (List.Perm.refl _) h
  refine ⟨v, _, he, hv, fun p hp => ?_⟩
  obtain ⟨p0, hp0, rfl⟩ := List.mem_map.1 hp
  obtain ⟨k, hk, rfl⟩ := List.mem_iff_getElem.1 (List.mem_filter.1 hp0).1
  refine ⟨k, hk, vsame_yes ⟨rfl, fun i hi hi2 => ?_⟩⟩
  have : i = 0 := by simp at hi; omega
  subst this
  refine ⟨cmpL_refl _, ?_⟩
  show (canon (canon _) == canon _) = true
  rw [canon_canon]
  simp
theorem scale_named (op : Int) (x : Nat) (left : Bool) : ∀ p, ∃ y, scaleF op x left true p = some (namelessL p.1, y) := fun p => by
  unfold scaleF
  rw [if_neg (by rintro ⟨-, h⟩; cases h)]
  exact ⟨_, rfl⟩
set_option maxHeartbeats 8000000 in
theorem vectorNames_walk (v : Value) (ps : List Pt) (fn op : Int) (x : Nat) (w : World) (hw0 : VS w v ps ∧ ∀ p ∈ ps, (Lit.float .f64 p.2).wf = true) (hw1 : (Lit.int .i64 fn).wf = true) (hw2 : (Lit.int .i64 op).wf = true) (hw3 : (Lit.float .f64 x).wf = true) :
    Calls Try.prog 5 #[v, .int .i64 fn, .int .i64 op, .float .f64 x] w fun e w' => e = .returned (.bool true) ∧ Below w.heap.size w w' := by
  have hvs := hw0.1
  have hopb := i64_in hw2
  have HK := Lib.hid (known_any w)
  have HVS := Lib.hid hvs
  obtain ⟨a, cap, rfl, hlen, -⟩ := hvs.split
  obtain ⟨N, hN⟩ : ∃ N, N = ps.length := ⟨_, rfl⟩
  rw [← hN] at HVS hlen ⊢
  have HN := Lib.hid hN
  clear hvs hw0 hN hw1 hw2 hw3
  have HRT := Lib.hid (fun w' (hb : Below w.heap.size w w') => lright_any _ ps w' (HVS.out.below hb (Nat.le_refl _)))
  obtain ⟨rr, hrr⟩ : ∃ r, r = (vfewL ps && vrightL ps) := ⟨_, rfl⟩
  rw [← hrr] at HRT
  have HRR := Lib.hid hrr
  clear hrr
  cases rr with
  | false =>
    go_enter Try.func5, Try.ntmps5
    go_wp2_with fail
    refine HK.out.mono ?_
    rintro e w1 ⟨rfl, hb1⟩
    have HB1 := Lib.hid hb1
    clear hb1
    go_wp2_with fail
    refine (HRT.out _ HB1.out).mono ?_
    rintro e w2 ⟨rfl, n2, rfl⟩
    go_wp2_with fail
    go_ret
    exact ⟨rfl, below_drewN HB1.out n2⟩
  | true =>
    have hfw : vfewL ps = true ∧ vrightL ps = true := by have := HRR.out.symm; rwa [Bool.and_eq_true] at this
    have HST := Lib.hid (vright_parts hfw.2)
    have hN60 : N ≤ 60 := by rw [HN.out]; exact (few_all hfw.1).1
    have hl5 : ps.length ≤ 100000 := by rw [← HN.out]; omega
    have hlz : ∀ p ∈ ps, p.1.length ≤ 1000000 := fun p hp => by have := ((right_iff _).1 (HST.out.2 p hp)).2.2; omega
    have HMAP := Lib.hid (fun w' (hb : Below w.heap.size w w') => map_any _ ps fn x w' (HVS.out.below hb (Nat.le_refl _)) hl5 hlz)
    have HSC := Lib.hid (fun left flag w' (hb : Below w.heap.size w w') => scaled_any _ ps x left flag op w' (HVS.out.below hb (Nat.le_refl _)) hl5 hlz)
    have HONE := Lib.hid (fun (k : Nat) (hk : k < ps.length) => HVS.out.one hk)
    clear hfw hlz hl5
    go_enter Try.func5, Try.ntmps5
    go_wp2_with fail
    refine HK.out.mono ?_
    rintro e w1 ⟨rfl, hb1⟩
    have HB1 := Lib.hid hb1
    clear hb1
    go_wp2_with fail
    refine (HRT.out _ HB1.out).mono ?_
    rintro e w2 ⟨rfl, n2, rfl⟩
    have HB2 := Lib.hid (below_drewN HB1.out n2)
    generalize w1.drewN n2 = w2 at HB2 ⊢
    go_wp2_with fail
    refine (HMAP.out _ HB2.out).mono ?_
    rintro e w3 ⟨hb3, hn3⟩
    have HB3 := Lib.hid (HB2.out.trans (hb3.mono HB2.out.size))
    obtain ⟨va, na, rfl, ha⟩ := nror_nameless (f := fnF fn x) (fun p => ⟨_, rfl⟩) hn3
    clear hb3 hn3
    have HA := Lib.hid ha
    clear ha
    go_wp2_with fail
    refine (HSC.out false true _ HB3.out).mono ?_
    rintro e w4 ⟨hb4, hn4⟩
    have HB4 := Lib.hid (HB3.out.trans (hb4.mono HB3.out.size))
    obtain ⟨vb, nb, rfl, hb⟩ := nror_nameless (scale_named op x false) hn4
    have hA4 : (na = 0 ∧ ∃ q, VS w4 va q ∧ q.length = N ∧ ∀ p ∈ q, ∀ x ∈ p.1, x.1 ≠ nmS) ∨ (na ≠ 0 ∧ va = .slice none 0 0) := by
      rw [HN.out]
      exact HA.out.imp (fun ⟨h, q, h1, h2⟩ => ⟨h, q, h1.below hb4 (Nat.le_refl _), h2⟩) id
    rw [← HN.out] at hb
    have hNN : ((N : Int) != (N : Int)) = false := by simp
    clear hb4 hn4 HA
    have HSCF := Lib.hid (HSC.out true false)
    have hsplit : (op < 5) ∨ (¬ op < 5 ∧ 10 < op) ∨ (¬ op < 5 ∧ ¬ 10 < op) := by omega
    rcases hA4 with ⟨rfl, qa, hva, hla, hna⟩ | ⟨hna, rfl⟩
    case' inl =>
      have HNA := Lib.hid (fun w' (hb : Below w4.heap.size w4 w') => named_no va qa w' (hva.below hb (Nat.le_refl _)) hna)
      obtain ⟨aa, ca, rfl, -⟩ := hva.split
      rw [hla] at HNA ⊢
      clear hva hla hna
    case' inr =>
      have hnab : (na == 0) = false := by simpa using hna
      clear hna
    all_goals
      rcases hb with ⟨rfl, qb, hvb, hlb, hnb⟩ | ⟨hnb, rfl⟩
      case' inl =>
        have HNB := Lib.hid (fun w' (hb : Below w4.heap.size w4 w') => named_no vb qb w' (hvb.below hb (Nat.le_refl _)) hnb)
        obtain ⟨ab, cb, rfl, -⟩ := hvb.split
        rw [hlb] at HNB ⊢
        clear hvb hlb hnb
      case' inr =>
        have hnbb : (nb == 0) = false := by simpa using hnb
        clear hnb
    all_goals
      have HB44 := Lib.hid (Below.refl w4.heap.size w4)
      go_wp2_with (go_at_call 18; (first | with_reducible refine (HNA.out _ HB44.out).mono ?_ | with_reducible refine (HNB.out _ HB44.out).mono ?_); rintro e w5 ⟨rfl, n5, rfl⟩; have HB4 := Lib.hid (below_drewN HB4.out n5); have HB44 := Lib.hid (below_drewN HB44.out n5))
      have HBX := HB4
      try rw [World.drewN_drewN] at HBX
      first | with_reducible refine (HSCF.out _ HB4.out).mono ?_ | with_reducible refine (HSCF.out _ HBX.out).mono ?_
      rintro e w6 ⟨hb6, hn6⟩
      have HB6 := Lib.hid (show Below w.heap.size w w6 by first | exact HB4.out.trans (hb6.mono HB4.out.size) | exact HBX.out.trans (hb6.mono HBX.out.size))
      clear hb6
      rcases hsplit with hop | ⟨hop, hop2⟩ | ⟨hop, hop2⟩
      case' inl =>
        have hd1 : decide (op < 5) = true := decide_eq_true (by omega)
        have hany : ∃ u n, e = .returned (.tuple #[u, .int .i64 n]) := by
          unfold NRor at hn6
          split at hn6
          · rcases hn6 with ⟨-, rfl⟩ | ⟨-, -, rfl⟩ | ⟨-, q, v', -, -, rfl, -⟩ <;> exact ⟨_, _, rfl⟩
          · exact ⟨_, _, hn6⟩
        obtain ⟨u, n, rfl⟩ := hany
        clear hn6
        go_wp2_with fail
        go_ret
        exact ⟨rfl, HB6.out⟩
      case' inr.inl =>
        have hd1 : decide (op < 5) = false := decide_eq_false (by omega)
        have hd2 : decide (10 < op) = true := decide_eq_true (by omega)
        have hany : ∃ u n, e = .returned (.tuple #[u, .int .i64 n]) := by
          unfold NRor at hn6
          split at hn6
          · rcases hn6 with ⟨-, rfl⟩ | ⟨-, -, rfl⟩ | ⟨-, q, v', -, -, rfl, -⟩ <;> exact ⟨_, _, rfl⟩
          · exact ⟨_, _, hn6⟩
        obtain ⟨u, n, rfl⟩ := hany
        clear hn6
        go_wp2_with fail
        go_ret
        exact ⟨rfl, HB6.out⟩
      case' inr.inr =>
        have hd1 : decide (op < 5) = false := decide_eq_false (by omega)
        have hd2 : decide (10 < op) = false := decide_eq_false (by omega)
        have hok : opOk op = true := by unfold opOk; rw [Bool.and_eq_true]; exact ⟨decide_eq_true (by omega), decide_eq_true (by omega)⟩
        have hn7 : NR (ps.filterMap (filterF op x true)) e w6 := by
          unfold NRor at hn6
          rw [if_pos hok] at hn6
          unfold scaleF at hn6
          rw [if_pos ⟨by omega, rfl⟩] at hn6
          exact hn6
        obtain ⟨u, t, rfl, hu, ht⟩ := nr_kept HST.out.1 HST.out.2 hn7
        have HT := Lib.hid ht
        have HU := Lib.hid hu
        obtain ⟨at1, ct, rfl, htl, -⟩ := hu.split
        clear hn6 hn7 hok ht hu
        obtain ⟨T, hT⟩ : ∃ T, T = t.length := ⟨_, rfl⟩
        rw [← hT] at htl HU ⊢
        have HUO := Lib.hid (fun (k : Nat) (hk : k < t.length) => HU.out.one hk)
        have HTL := Lib.hid hT
        have hTm : T ≤ 9223372036854775807 := by have := htl.1; omega
        clear hT htl
        go_wp2_with fail
        go_loopw [15] (fun i wr => ∃ k : Nat, k ≤ T ∧ i = .int .i64 k ∧ Hid (Below w6.heap.size w6 wr)) (fun i _ => T - (intOf i).toNat)
        case atStart => exact ⟨0, Nat.zero_le _, rfl, Below.refl _ _⟩
        case round =>
          obtain ⟨k, hk, rfl, HBk⟩ := hrel
          have h00 : (0 : Int) ≤ (k : Int) := by omega
          by_cases hlt : k < T
          · have hltz : (k : Int) < (T : Int) := by omega
            have hkt : k < t.length := by have := HTL.out; omega
            obtain ⟨a3, c3, E3, hv3⟩ := HUO.out k hkt
            have HV3 := Lib.hid hv3
            have HE3 := Lib.hid E3
            obtain ⟨tp, htp⟩ : ∃ p, p = t[k] := ⟨_, rfl⟩
            have HTP := Lib.hid (show ∃ k0, ∃ hk0 : k0 < ps.length, vsameL [tp] [ps[k0]] = true from by rw [htp]; exact HT.out _ (List.getElem_mem hkt))
            rw [← htp] at HV3
            clear hv3 E3 htp
            go_wp2_with fail
            go_loopw [16, 17] (fun bi j wr2 => ∃ (m : Nat) (b : Bool), m ≤ N ∧ bi = .bool b ∧ j = .int .i64 m ∧ Hid (∀ j (hj : j < ps.length), j < m → vsameL [tp] [ps[j]] = true → b = true) ∧ Hid (Below w6.heap.size w6 wr2)) (fun _ j _ => N - (intOf j).toNat)
            case atStart => exact ⟨0, false, Nat.zero_le _, rfl, rfl, fun j _ hj => absurd hj (Nat.not_lt_zero _), HBk.out⟩
            case round =>
              obtain ⟨m, b, hm, rfl, rfl, HV, HBm⟩ := hrel
              have h01 : (0 : Int) ≤ (m : Int) := by omega
              by_cases hmt : m < N
              · have hmtz : (m : Int) < (N : Int) := by omega
                have hmp : m < ps.length := by rw [← HN.out]; exact hmt
                cases b with
                | true =>
                  go_wp2_with fail
                  go_quiet (fail)
                  go_wp2_with fail
                  go_roundw
                  case rel => exact ⟨m + 1, true, by omega, rfl, by go_num, fun j hj hjm _ => rfl, below_drewN HBm.out _⟩
                  case measure => simp [intOf]; omega
                | false =>
                  obtain ⟨a4, c4, E4, hv4⟩ := HONE.out m hmp
                  have E3 := HE3.out
                  have HCS := Lib.hid (fun w' (hb : Below wr.heap.size wr w') => csame_any (.slice a3 1 c3) (.slice a4 1 c4) [tp] [ps[m]] w' (HV3.out.below (HBm.out.trans (hb.mono HBm.out.size)) (Nat.le_refl _)) (hv4.below (HB6.out.trans ((HBm.out.trans (hb.mono HBm.out.size)).mono HB6.out.size)) (Nat.le_refl _)))
                  obtain ⟨r, hr⟩ : ∃ r, r = vsameL [tp] [ps[m]] := ⟨_, rfl⟩
                  rw [← hr] at HCS
                  have HR := Lib.hid hr
                  have hw3 : IntKind.i64.wrap ((k : Int) + 1) = (k : Int) + 1 := by rw [IntKind.wrap_i64] <;> omega
                  have hw4 : IntKind.i64.wrap ((m : Int) + 1) = (m : Int) + 1 := by rw [IntKind.wrap_i64] <;> omega
                  clear hr hv4
                  go_wp2_with fail
                  go_region_held3 (fun w' => True) (trivial)
                    (first
                      | (go_at_call 16
                         refine (HCS.out _ (by go_grown)).mono ?_
                         rintro e w9 ⟨rfl, hb9⟩
                         have hbA : Below wr.heap.size wr w9 := Below.trans (by go_grown) (hb9.mono (by first | exact Nat.le_refl _ | (simp; done)))))
                  have HBA := Lib.hid (HBm.out.trans (hbA.mono HBm.out.size))
                  clear hbA hb9
                  go_wp2_with fail
                  go_roundw
                  case rel => exact ⟨m + 1, r, by omega, rfl, by go_num, (fun j hj hjm hs => by
                    by_cases he : j = m
                    · subst he; rw [HR.out]; exact hs
                    · have := HV.out j hj (by omega) hs
                      cases this), HBA.out⟩
                  case measure => simp [intOf]; omega
              · have hmtz : ¬ (m : Int) < (N : Int) := by omega
                obtain ⟨k0, hk0, hs0⟩ := HTP.out
                have hb0 := HV.out k0 hk0 (by have := HN.out; omega) hs0
                subst hb0
                go_wp2_with fail
                go_roundw
                case rel => exact ⟨k + 1, by omega, by go_num, HBm.out⟩
                case measure => simp [intOf]; omega
          · have hltz : ¬ (k : Int) < (T : Int) := by omega
            go_wp2_with fail
            go_ret
            exact ⟨rfl, HB6.out.trans (HBk.out.mono HB6.out.size)⟩
end Go.Proofs.Ytkflhfdpdgnbfaa
