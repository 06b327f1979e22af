/- The places that can be come to behind a piece: the walk. (Printed by gen_gr10.py.) A path's nodes: plain laws of the library's split and of the reference's. strings.Builder: writing. Lists of labels: Few, Get. (Several texts in one file, by merge.py.) -/
import Derived.Test.YtnnfhcbopchodaaDoorZN4
import Derived.Test.YtnnfhcbopchodaaDoorShelf
import Derived.IntWalk
import Derived.Test.YtnnfhcbopchodaaDoorZN2
import Derived.Lib.Split
import Derived.Lib.IndexBytes
import Derived.Test.YtnnfhcbopchodaaDoorZN1
import Derived.Lib.Builder
import Derived.Lib.AppendStr
import Derived.Lib.UnsafeStr
import Derived.Lib.OthersKept
import Derived.Lib.OwnKind
import Derived.OwnWalk
import Derived.Deep.Light
namespace Go.Proofs.YtnnfhcbopchodaaDoor
open Go Go.RowKit
set_option linter.unusedVariables false
set_option linter.unusedSimpArgs false
set_option maxRecDepth 100000
def donel (d : Nat → Bool) (N : Nat) : List Value := (List.range N).map fun j => Value.bool (d j)
theorem donel_len (d : Nat → Bool) (N : Nat) : (donel d N).length = N := by simp [donel]
theorem donel_get {d : Nat → Bool} {N q : Nat} (h : q < N) : (donel d N)[q]? = some (.bool (d q)) := by simp [donel, h]
theorem donel_set (d : Nat → Bool) (N q : Nat) : (donel d N).set q (.bool true) = donel (fun j => if j = q then true else d j) N := by
  refine List.ext_getElem (by simp [donel_len]) fun j h1 h2 => ?_
  rw [List.getElem_set]
  simp only [donel, List.getElem_map, List.getElem_range]
  by_cases h : q = j
  · rw [if_pos h, if_pos h.symm]
  · rw [if_neg h, if_neg (fun e => h e.symm)]
theorem donel_made (N : Nat) : (madeCells (Value.bool false).cells (N * 1)).toList = donel (fun _ => false) N := by
  refine List.ext_getElem (by simp [donel_len, size_madeCells]) fun j h1 h2 => ?_
  simp only [donel, madeCells, List.getElem_map, List.getElem_range, Array.toList_map, Array.toList_range, Nat.mul_one]
  simp [Value.cells, Nat.mod_one]
theorem donel_congr {d d' : Nat → Bool} {N : Nat} (h : ∀ j, j < N → d j = d' j) : donel d N = donel d' N := by
  unfold donel
  exact List.map_congr_left fun j hj => by rw [h j (List.mem_range.1 hj)]
theorem Tryd.infoBl : (Tryd.prog.info? 4).map (fun i => (i.zero, i.size, i.bytes)) = some (some (.bool false), 1, 1) := by kernel_rfl
/-- What is come to from a place. -/
def contrib (p : Pc) (s : List UInt8) (k j : Nat) : Bool :=
  if p.kind = 3 then decide (k ≤ j) else if p.kind = 4 then p.words.any fun w => decide (j = k + w.length) && w.isPrefixOf (s.drop k)
  else decide (j = k + 1) && (match s[k]? with | some c => byteOk p c | none => false)
def accB (p : Pc) (s : List UInt8) (now : Nat → Bool) (k j : Nat) : Bool := (List.range k).any fun i => now i && contrib p s i j
theorem accB_succ (p : Pc) (s : List UInt8) (now : Nat → Bool) (k j : Nat) : accB p s now (k + 1) j = (accB p s now k j || (now k && contrib p s k j)) := by
  unfold accB
  rw [List.range_succ, List.any_append]
  simp
theorem acc_done (p : Pc) (s : List UInt8) (now : Nat → Bool) (j : Nat) (hj : j < s.length + 1) : accB p s now (s.length + 1) j = stepB p s now j := by
  unfold accB stepB contrib
  rw [Bool.eq_iff_iff, List.any_eq_true]
  by_cases h3 : p.kind = 3
  · simp only [h3, if_true]
    rw [List.any_eq_true]
    constructor
    · rintro ⟨i, hi, hb⟩
      simp only [Bool.and_eq_true, decide_eq_true_eq] at hb
      exact ⟨i, List.mem_range.2 (by omega), hb.1⟩
    · rintro ⟨i, hi, hb⟩
      have := List.mem_range.1 hi
      exact ⟨i, List.mem_range.2 (by omega), by simp [hb]; omega⟩
  · simp only [h3, if_false]
    by_cases h4 : p.kind = 4
    · simp only [h4, if_true]
      rw [List.any_eq_true]
      constructor
      · rintro ⟨i, hi, hb⟩
        rw [Bool.and_eq_true, List.any_eq_true] at hb
        obtain ⟨hn, w, hw, hb⟩ := hb
        simp only [Bool.and_eq_true, decide_eq_true_eq] at hb
        obtain ⟨rfl, hp⟩ := hb
        refine ⟨w, hw, ?_⟩
        rw [Nat.add_sub_cancel]
        simp [hn, hp]
      · rintro ⟨w, hw, hb⟩
        simp only [Bool.and_eq_true, decide_eq_true_eq] at hb
        obtain ⟨⟨hl, hn⟩, hp⟩ := hb
        refine ⟨j - w.length, List.mem_range.2 (by omega), ?_⟩
        rw [Bool.and_eq_true, List.any_eq_true]
        exact ⟨hn, w, hw, by simp [hp]; omega⟩
    · simp only [h4, if_false]
      cases j with
      | zero => simp
      | succ k =>
        constructor
        · rintro ⟨i, hi, hb⟩
          simp only [Bool.and_eq_true, decide_eq_true_eq] at hb
          obtain ⟨hn, he, hc⟩ := hb
          obtain rfl : i = k := by omega
          show (now i && _) = true
          rw [hn, Bool.true_and]; exact hc
        · intro hb
          have hb : (now k && (match s[k]? with | some c => byteOk p c | none => false)) = true := hb
          rw [Bool.and_eq_true] at hb
          exact ⟨k, List.mem_range.2 (by omega), by rw [hb.1, decide_eq_true rfl, Bool.true_and, Bool.true_and]; exact hb.2⟩
/-- A row of truths, as make gives it. -/
def BoolsAt (w : World) (v : Value) (d : Nat → Bool) (n : Nat) : Prop := ∃ g, v = .slice (some ⟨g, 0, none⟩) n n ∧ ∀ j, j < n → w.cell? ⟨g, j, none⟩ = some (.bool (d j))
theorem BoolsAt.below {w w' : World} {v : Value} {d : Nat → Bool} {n : Nat} (h : BoolsAt w v d n) (hb : Below w.heap.size w w') : BoolsAt w' v d n := by
  obtain ⟨g, rfl, hc⟩ := h
  exact ⟨g, rfl, fun j hj => cell_below hb (Nat.le_refl _) (hc j hj)⟩
theorem BoolsAt.own {w : World} {base g : Nat} {e : TypeId} {d : Nat → Bool} {n : Nat} (h : w.ownsRow base e 1 (.slice (some ⟨g, 0, none⟩) n n) n (donel d n)) : BoolsAt w (.slice (some ⟨g, 0, none⟩) n n) d n :=
  ⟨g, rfl, fun j hj => by
    have := h.cells (g := g) rfl j _ (donel_get hj)
    rw [Addr.add_lit] at this
    simpa using this⟩
theorem own_frozen {w : World} {base g : Nat} {e : TypeId} {n : Nat} {xs : List Value} (h : w.ownsRow base e 1 (.slice (some ⟨g, 0, none⟩) n n) n xs) (j : Nat) : w.frozen? ⟨g, j, none⟩ = false := h.frozenAt _
theorem step_st {w : World} {base g : Nat} {e : TypeId} {d : Nat → Bool} {n : Nat} (h : w.ownsRow base e 1 (.slice (some ⟨g, 0, none⟩) n n) n (donel d n)) (j : Nat) :
    (w.setCell ⟨g, j, none⟩ (.bool true)).ownsRow base e 1 (.slice (some ⟨g, 0, none⟩) n n) n (donel (fun i => if i = j then true else d i) n) := by
  have := (h.stored j (.bool true)).1
  rw [donel_set] at this
  exact this
set_option maxHeartbeats 4000000 in
theorem step_any (z : ZPc) (v : Value) (d : Nat → Bool) (s : ByteArray) (w : World) (hw : Sl wenc w z.1 z.2.words) (hn : BoolsAt w v d (s.size + 1)) (hs : s.size ≤ 256) :
    Calls Tryd.prog 33 #[.agg (zpc z).toArray, v, .string s] w fun e w' => ∃ v', e = .returned v' ∧ BoolsAt w' v' (stepB z.2 s.data.toList d) (s.size + 1) ∧ Below w.heap.size w w' := by
  obtain ⟨gn, rfl, hcs⟩ := hn
  have HCS := Lib.hid hcs
  have HWS := Lib.hid hw
  obtain ⟨n, hn⟩ : ∃ n, n = s.size + 1 := ⟨_, rfl⟩
  have HN := Lib.hid hn
  rw [← hn] at HCS ⊢
  have hnn : n = s.size + 1 := hn
  have hgn : gn < w.heap.size := World.block_lt_of_cell? w _ (hcs 0 (by omega))
  clear hcs hw hn
  have hn257 : n ≤ 257 := by omega
  have HNS := Lib.hid hnn
  obtain ⟨b, hb⟩ : ∃ b, b = w.heap.size := ⟨_, rfl⟩
  have HB := Lib.hid hb
  obtain ⟨i0, hi, hz0, hz1, hz2⟩ := info_parts Tryd.infoBl
  have HI := Lib.hid hi
  have HI0 := Lib.hid hz0
  have HI1 := Lib.hid hz1
  have HI2 := Lib.hid (show i0.bytes * n ≤ 281474976710656 by rw [hz2]; omega)
  rw [← hb] at hgn
  clear hi hz0 hz1 hz2 hnn hb
  go_enter Tryd.func33, Tryd.ntmps33
  go_wp2_with (refine wpList_make_full _ rfl _ _ _ rfl (b + 1) 4 i0 (.bool false) 1 Tryd.underlying82 HI.out HI0.out HI1.out .i64 .i64 _ _ n rfl rfl rfl rfl HI2.out (by unfold maxLen; omega) (by simp [← HB.out]) ?_; rintro w2 hd2 hg2)
  have hz1 : (w.alloc (.cells (zpc z).toArray PcT)).heap.size = b + 1 := by simp [HB.out]
  rw [hz1, donel_made] at hd2
  have HD0 := Lib.hid hd2
  have hP0 : PcB (w.alloc (.cells (zpc z).toArray PcT)) b z := by
    have := heap_new w (.cells (zpc z).toArray PcT)
    rw [← HB.out] at this
    exact this
  have HP0 := Lib.hid (hP0.kp (Kp.of_grown (B := fun _ => False) hg2 (fun _ h => by cases h)) (fun h => h))
  have HB0 := Lib.hid (show Below w.heap.size w w2 from (((Kp.refl (fun _ => False) w).alloc _).trans (Kp.of_grown hg2 (fun _ h => by cases h))).below (Nat.le_refl _) (fun _ h => h.elim))
  rw [← HB.out]
  clear hd2 hg2 hP0 hz1
  go_loopw [18] (fun i wr => ∃ k : Nat, k ≤ n ∧ i = .int .i64 k ∧ Hid (wr.ownsRow (b + 1) 4 1 (.slice (some ⟨b + 1, 0, none⟩) n n) n (donel (accB z.2 s.data.toList d k) n)) ∧ Hid (PcB wr b z) ∧ Hid (Below w.heap.size w wr)) (fun i _ => n - (intOf i).toNat)
  case atStart => exact ⟨0, Nat.zero_le _, rfl, by rw [show donel (accB z.2 s.data.toList d 0) n = donel (fun _ => false) n from rfl]; exact HD0.out, HP0.out, HB0.out⟩
  case round =>
    obtain ⟨k, hk, rfl, HD, HP, HW⟩ := hrel
    by_cases hlt : k < n
    · have c0 : wr.cell? ⟨gn, k, none⟩ = some (.bool (d k)) := cell_below HW.out (Nat.le_refl _) (HCS.out k hlt)
      obtain ⟨dk, hdk⟩ : ∃ dk, dk = d k := ⟨_, rfl⟩
      rw [← hdk] at c0
      have HDK := Lib.hid hdk
      clear hdk
      cases dk with
      | false =>
        go_wp2_with fail
        go_roundw
        case rel =>
          refine ⟨k + 1, by omega, by go_num, ?_, HP.out, HW.out⟩
          rw [show donel (accB z.2 s.data.toList d (k + 1)) n = donel (accB z.2 s.data.toList d k) n from donel_congr fun j _ => by rw [accB_succ, ← HDK.out]; simp]
          exact HD.out
        case measure => simp [intOf]; omega
      | true =>
        have q0 := HP.out.c0
        obtain ⟨kd, hkd⟩ : ∃ kd, kd = z.2.kind := ⟨_, rfl⟩
        rw [← hkd] at q0
        have HKD := Lib.hid hkd
        clear hkd
        by_cases h3 : kd = 3
        · have e3 : ((kd : Int) == 3) = true := by rw [h3]; rfl
          have H3 := Lib.hid (show z.2.kind = 3 by rw [← HKD.out]; exact h3)
          clear h3
          go_wp2_with fail
          go_loopw [10] (fun i wq => ∃ m : Nat, k ≤ m ∧ m ≤ n ∧ i = .int .i64 m ∧ Hid (wq.ownsRow (b + 1) 4 1 (.slice (some ⟨b + 1, 0, none⟩) n n) n (donel (fun j => accB z.2 s.data.toList d k j || (decide (k ≤ j) && decide (j < m))) n)) ∧ Hid (PcB wq b z) ∧ Hid (Below w.heap.size w wq)) (fun i _ => n - (intOf i).toNat)
          case atStart => exact ⟨k, Nat.le_refl _, hk, rfl, by
            rw [show donel (fun j => accB z.2 s.data.toList d k j || (decide (k ≤ j) && decide (j < k))) n = donel (accB z.2 s.data.toList d k) n from donel_congr fun j _ => by
              have : (decide (k ≤ j) && decide (j < k)) = false := by rw [Bool.and_eq_false_iff]; simp; omega
              rw [this, Bool.or_false]]
            exact HD.out, HP.out, HW.out⟩
          case round =>
            obtain ⟨m, hm1, hm2, rfl, HD2, HP2, HW2⟩ := hrel
            by_cases hlt2 : m < n
            · have kd2 : ∃ x, wr.cell? ⟨b + 1, m, none⟩ = some x := by
                have := HD2.out.cells (g := b + 1) rfl m _ (donel_get hlt2)
                exact ⟨_, by simpa [Addr.add_lit] using this⟩
              obtain ⟨x, kx⟩ := kd2
              have kf := own_frozen HD2.out m
              go_wp2_with fail
              go_roundw
              case rel =>
                refine ⟨m + 1, by omega, by omega, by go_num, ?_, ?_, ?_⟩
                · have := step_st HD2.out m
                  rw [show donel (fun j => accB z.2 s.data.toList d k j || (decide (k ≤ j) && decide (j < m + 1))) n = donel (fun i => if i = m then true else (accB z.2 s.data.toList d k i || (decide (k ≤ i) && decide (i < m)))) n from donel_congr fun j _ => by
                    by_cases h : j = m
                    · subst h; simp [hm1]
                    · rw [if_neg h]
                      congr 2
                      rw [decide_eq_decide]
                      omega]
                  exact this
                · exact HP2.out.kp ((Kp.refl (· = b + 1) _).setCell (p := ⟨b + 1, m, none⟩) (.inl rfl) _) (by omega)
                · exact HW2.out.setCell (p := ⟨b + 1, m, none⟩) (by show _ ≤ b + 1; have := HB.out; omega) _
              case measure => simp [intOf]; omega
            · obtain rfl : m = n := by omega
              go_wp2_with fail
              go_roundw
              case rel =>
                refine ⟨k + 1, by omega, by go_num, ?_, HP2.out, HW2.out⟩
                rw [show donel (accB z.2 s.data.toList d (k + 1)) m = donel (fun j => accB z.2 s.data.toList d k j || (decide (k ≤ j) && decide (j < m))) m from donel_congr fun j hj => by
                  rw [accB_succ, ← HDK.out, Bool.true_and]
                  unfold contrib
                  rw [if_pos H3.out, decide_eq_true hj, Bool.and_true]]
                exact HD2.out
              case measure => simp [intOf]; omega
        · have e3 : ((kd : Int) == 3) = false := by rw [beq_eq_false_iff_ne]; omega
          by_cases h4 : kd = 4
          · have e4 : ((kd : Int) == 4) = true := by rw [h4]; rfl
            have H4 := Lib.hid (show z.2.kind = 4 by rw [← HKD.out]; exact h4)
            have hq258 := HP.out.c258
            obtain ⟨aw, cw, hz1, hcw, -, hcc⟩ := HWS.out.split wenc_len
            rw [hz1] at hq258
            have HCC := Lib.hid hcc
            have HZ1 := Lib.hid hz1
            clear hz1 hcc
            go_wp2_with fail
            go_loopw [47] (fun i wq => ∃ m : Nat, m ≤ z.2.words.length ∧ i = .int .i64 m ∧ Hid (wq.ownsRow (b + 1) 4 1 (.slice (some ⟨b + 1, 0, none⟩) n n) n (donel (fun j => accB z.2 s.data.toList d k j || ((z.2.words.take m).any fun w => decide (j = k + w.length) && w.isPrefixOf (s.data.toList.drop k))) n)) ∧ Hid (PcB wq b z) ∧ Hid (Below w.heap.size w wq)) (fun i _ => z.2.words.length - (intOf i).toNat)
            case atStart => exact ⟨0, Nat.zero_le _, rfl, by
              rw [show donel (fun j => accB z.2 s.data.toList d k j || ((z.2.words.take 0).any fun w => decide (j = k + w.length) && w.isPrefixOf (s.data.toList.drop k))) n = donel (accB z.2 s.data.toList d k) n from donel_congr fun j _ => by simp]
              exact HD.out, HP.out, HW.out⟩
            case round =>
              obtain ⟨m, hm2, rfl, HD2, HP2, HW2⟩ := hrel
              by_cases hlt2 : m < z.2.words.length
              · obtain ⟨bw, ow, haw, hcell⟩ := HCC.out m hlt2
                subst haw
                obtain ⟨wd, hwd⟩ : ∃ wd, wd = z.2.words[m] := ⟨_, rfl⟩
                have hcw := cell_below HW2.out (Nat.le_refl _) (hcell 0 _ rfl)
                simp only [Nat.mul_one, Nat.add_zero] at hcw
                rw [← hwd] at hcw
                obtain ⟨pb, hpb⟩ : ∃ pb, pb = wd.isPrefixOf (s.data.toList.drop k) := ⟨_, rfl⟩
                have hpx := fun w => Tryd.strings_HasPrefix (s.extract k s.size) ⟨wd.toArray⟩ w
                rw [Lib.extract_to_end, show Lib.hasPrefix (s.data.toList.drop k) (⟨wd.toArray⟩ : ByteArray).data.toList = pb by rw [hpb]; rfl] at hpx
                have HPX := Lib.hid hpx
                have htk : z.2.words.take (m + 1) = z.2.words.take m ++ [wd] := by rw [List.take_succ_eq_append_getElem hlt2, hwd]
                have HTK := Lib.hid htk
                have HPB := Lib.hid hpb
                have hks : (k : Int) ≤ s.size := by have := HN.out; omega
                have hks2 : k ≤ s.size := by omega
                clear hpx htk hwd hcell
                cases pb with
                | false =>
                  clear hpb
                  go_wp2_with fail
                  refine (HPX.out _).mono ?_
                  rintro e w5 ⟨rfl, rfl⟩
                  go_wp2_with fail
                  go_roundw
                  case rel =>
                    refine ⟨m + 1, by omega, by go_num, ?_, HP2.out, HW2.out⟩
                    rw [show donel (fun j => accB z.2 s.data.toList d k j || ((z.2.words.take (m + 1)).any fun w => decide (j = k + w.length) && w.isPrefixOf (s.data.toList.drop k))) n = donel (fun j => accB z.2 s.data.toList d k j || ((z.2.words.take m).any fun w => decide (j = k + w.length) && w.isPrefixOf (s.data.toList.drop k))) n from donel_congr fun j _ => by
                      rw [HTK.out, List.any_append, List.any_cons, ← HPB.out]
                      simp]
                    exact HD2.out
                  case measure => simp [intOf]; omega
                | true =>
                  have hwl : wd.length ≤ s.size - k := by
                    have h1 := (List.isPrefixOf_iff_prefix.1 hpb.symm).length_le
                    rw [List.length_drop] at h1
                    exact h1
                  have hin : k + wd.length < n := by have := HN.out; omega
                  clear hpb
                  have kd2 : ∃ x, wr.cell? ⟨b + 1, k + wd.length, none⟩ = some x := by
                    have := HD2.out.cells (g := b + 1) rfl (k + wd.length) _ (donel_get hin)
                    exact ⟨_, by simpa [Addr.add_lit] using this⟩
                  obtain ⟨x, kx⟩ := kd2
                  have kf := own_frozen HD2.out (k + wd.length)
                  have hsz : (⟨wd.toArray⟩ : ByteArray).size = wd.length := by show wd.toArray.size = _; simp
                  have h0 : (0 : Int) ≤ (k : Int) + (wd.length : Int) := by omega
                  have h1 : (k : Int) + (wd.length : Int) < (n : Int) := by omega
                  have h2 : ((k : Int) + (wd.length : Int)).toNat = k + wd.length := by omega
                  have h3 : IntKind.i64.wrap ((k : Int) + (wd.length : Int)) = (k : Int) + (wd.length : Int) := IntWalk.i64_in _ (by omega)
                  go_wp2_with fail
                  refine (HPX.out _).mono ?_
                  rintro e w5 ⟨rfl, rfl⟩
                  go_wp2_with fail
                  go_roundw
                  case rel =>
                    refine ⟨m + 1, by omega, by go_num, ?_, ?_, ?_⟩
                    · have := step_st HD2.out (k + wd.length)
                      rw [show donel (fun j => accB z.2 s.data.toList d k j || ((z.2.words.take (m + 1)).any fun w => decide (j = k + w.length) && w.isPrefixOf (s.data.toList.drop k))) n = donel (fun i => if i = k + wd.length then true else (accB z.2 s.data.toList d k i || ((z.2.words.take m).any fun w => decide (i = k + w.length) && w.isPrefixOf (s.data.toList.drop k)))) n from donel_congr fun j _ => by
                        rw [HTK.out, List.any_append, List.any_cons, ← HPB.out]
                        by_cases h : j = k + wd.length
                        · rw [if_pos h, decide_eq_true h]; simp
                        · rw [if_neg h, decide_eq_false h]; simp]
                      exact this
                    · exact HP2.out.kp ((Kp.refl (· = b + 1) _).setCell (p := ⟨b + 1, k + wd.length, none⟩) (.inl rfl) _) (by omega)
                    · exact HW2.out.setCell (p := ⟨b + 1, k + wd.length, none⟩) (by show _ ≤ b + 1; have := HB.out; omega) _
                  case measure => simp [intOf]; omega
              · obtain rfl : m = z.2.words.length := by omega
                go_wp2_with fail
                go_roundw
                case rel =>
                  refine ⟨k + 1, by omega, by go_num, ?_, HP2.out, HW2.out⟩
                  rw [show donel (accB z.2 s.data.toList d (k + 1)) n = donel (fun j => accB z.2 s.data.toList d k j || ((z.2.words.take z.2.words.length).any fun w => decide (j = k + w.length) && w.isPrefixOf (s.data.toList.drop k))) n from donel_congr fun j hj => by
                    rw [accB_succ, ← HDK.out, Bool.true_and, List.take_length]
                    unfold contrib
                    rw [if_neg (show ¬ z.2.kind = 3 by have := H4.out; omega), if_pos H4.out]]
                  exact HD2.out
                case measure => simp [intOf]; omega
          · have e4 : ((kd : Int) == 4) = false := by rw [beq_eq_false_iff_ne]; omega
            have HN3 := Lib.hid (show ¬ z.2.kind = 3 by rw [← HKD.out]; exact h3)
            have HN4 := Lib.hid (show ¬ z.2.kind = 4 by rw [← HKD.out]; exact h4)
            by_cases hks : k < s.size
            · have hget : s.data.toList[k]? = some s[k] := by rw [bAt_some hks, bAt_get hks]
              have hd1 : decide ((k : Int) < (s.size : Int)) = true := by rw [decide_eq_true_iff]; omega
              have hd2 : decide (k < s.size) = true := by rw [decide_eq_true_iff]; exact hks
              have HGET := Lib.hid hget
              have c1 := HP.out.c1
              have cs := HP.out.cs s[k].toNat s[k].toNat_lt
              rw [show UInt8.ofNat s[k].toNat = s[k] by simp] at cs
              have cl : s[k].toNat < 256 := s[k].toNat_lt
              have hb1 : b ≠ b + 1 := by omega
              clear hget
              by_cases h2 : kd = 2
              · have e2 : ((kd : Int) == 2) = true := by rw [h2]; rfl
                have HOK := Lib.hid (show (match s.data.toList[k]? with | some c => byteOk z.2 c | none => false) = true by
                  rw [HGET.out]; show byteOk z.2 s[k] = true; unfold byteOk; rw [← HKD.out, h2]; rfl)
                clear h2
                have HACC := Lib.hid (show ∀ j, accB z.2 s.data.toList d (k + 1) j = if j = k + 1 then true else accB z.2 s.data.toList d k j from fun j => by
                  rw [accB_succ, ← HDK.out, Bool.true_and]
                  unfold contrib
                  rw [if_neg HN3.out, if_neg HN4.out, HOK.out, Bool.and_true]
                  by_cases h : j = k + 1
                  · rw [if_pos h, decide_eq_true h, Bool.or_true]
                  · rw [if_neg h, decide_eq_false h, Bool.or_false])
                have hin : k + 1 < n := by have := HN.out; omega
                have kd2 : ∃ x, wr.cell? ⟨b + 1, k + 1, none⟩ = some x := by
                  have := HD.out.cells (g := b + 1) rfl (k + 1) _ (donel_get hin)
                  exact ⟨_, by simpa [Addr.add_lit] using this⟩
                obtain ⟨x, kx⟩ := kd2
                have kf := own_frozen HD.out (k + 1)
                go_wp2_with fail
                go_quiet (fail)
                go_wp2_with fail
                go_roundw
                case rel =>
                  refine ⟨k + 1, by omega, by go_num, ?_, ?_, ?_⟩
                  · rw [show donel (accB z.2 s.data.toList d (k + 1)) n = donel (fun i => if i = k + 1 then true else accB z.2 s.data.toList d k i) n from donel_congr fun j _ => HACC.out j]
                    exact step_st (show (wr.drewN _).ownsRow (b + 1) 4 1 (.slice (some ⟨b + 1, 0, none⟩) n n) n _ from HD.out) (k + 1)
                  · exact HP.out.kp (((Kp.refl (· = b + 1) wr).drewN _).setCell (p := ⟨b + 1, k + 1, none⟩) (.inl rfl) _) (by omega)
                  · exact (below_drewN HW.out _).setCell (p := ⟨b + 1, k + 1, none⟩) (by show _ ≤ b + 1; have := HB.out; omega) _
                case measure => simp [intOf]; omega
              · have e2 : ((kd : Int) == 2) = false := by rw [beq_eq_false_iff_ne]; omega
                by_cases h1 : kd = 1
                · have e1 : ((kd : Int) == 1) = true := by rw [h1]; rfl
                  obtain ⟨sb, hsb⟩ : ∃ sb, sb = z.2.set s[k] := ⟨_, rfl⟩
                  rw [← hsb] at cs
                  have HOK := Lib.hid (show (match s.data.toList[k]? with | some c => byteOk z.2 c | none => false) = sb by
                    rw [HGET.out]; show byteOk z.2 s[k] = sb; unfold byteOk; rw [← HKD.out, h1, hsb]; simp)
                  clear h1 h2 hsb
                  cases sb with
                  | true =>
                    have e0 : ((kd : Int) == 0) = ((kd : Int) == 0) := rfl
                    clear e0
                    have HACC := Lib.hid (show ∀ j, accB z.2 s.data.toList d (k + 1) j = if j = k + 1 then true else accB z.2 s.data.toList d k j from fun j => by
                      rw [accB_succ, ← HDK.out, Bool.true_and]
                      unfold contrib
                      rw [if_neg HN3.out, if_neg HN4.out, HOK.out, Bool.and_true]
                      by_cases h : j = k + 1
                      · rw [if_pos h, decide_eq_true h, Bool.or_true]
                      · rw [if_neg h, decide_eq_false h, Bool.or_false])
                    have hin : k + 1 < n := by have := HN.out; omega
                    have kd2 : ∃ x, wr.cell? ⟨b + 1, k + 1, none⟩ = some x := by
                      have := HD.out.cells (g := b + 1) rfl (k + 1) _ (donel_get hin)
                      exact ⟨_, by simpa [Addr.add_lit] using this⟩
                    obtain ⟨x, kx⟩ := kd2
                    have kf := own_frozen HD.out (k + 1)
                    go_wp2_with fail
                    go_quiet (fail)
                    go_wp2_with fail
                    go_roundw
                    case rel =>
                      refine ⟨k + 1, by omega, by go_num, ?_, ?_, ?_⟩
                      · rw [show donel (accB z.2 s.data.toList d (k + 1)) n = donel (fun i => if i = k + 1 then true else accB z.2 s.data.toList d k i) n from donel_congr fun j _ => HACC.out j]
                        exact step_st (show (wr.drewN _).ownsRow (b + 1) 4 1 (.slice (some ⟨b + 1, 0, none⟩) n n) n _ from HD.out) (k + 1)
                      · exact HP.out.kp (((Kp.refl (· = b + 1) wr).drewN _).setCell (p := ⟨b + 1, k + 1, none⟩) (.inl rfl) _) (by omega)
                      · exact (below_drewN HW.out _).setCell (p := ⟨b + 1, k + 1, none⟩) (by show _ ≤ b + 1; have := HB.out; omega) _
                    case measure => simp [intOf]; omega
                  | false =>
                    have e0 : ((kd : Int) == 0) = false := by have := beq_iff_eq.1 e1; rw [beq_eq_false_iff_ne]; omega
                    have HACC := Lib.hid (show ∀ j, accB z.2 s.data.toList d (k + 1) j = accB z.2 s.data.toList d k j from fun j => by
                      rw [accB_succ, ← HDK.out, Bool.true_and]
                      unfold contrib
                      rw [if_neg HN3.out, if_neg HN4.out, HOK.out, Bool.and_false, Bool.or_false])
                    go_wp2_with fail
                    go_quiet (fail)
                    go_wp2_with fail
                    go_roundw
                    case rel =>
                      refine ⟨k + 1, by omega, by go_num, ?_, HP.out, below_drewN HW.out _⟩
                      rw [show donel (accB z.2 s.data.toList d (k + 1)) n = donel (accB z.2 s.data.toList d k) n from donel_congr fun j _ => HACC.out j]
                      exact HD.out
                    case measure => simp [intOf]; omega
                · have e1 : ((kd : Int) == 1) = false := by rw [beq_eq_false_iff_ne]; omega
                  by_cases h0 : kd = 0
                  · have e0 : ((kd : Int) == 0) = true := by rw [h0]; rfl
                    obtain ⟨tb, htb⟩ : ∃ tb, tb = (z.2.text == s[k]) := ⟨_, rfl⟩
                    have et : ((z.2.text.toNat : Int) == (s[k].toNat : Int)) = tb := by
                      rw [htb, gu8_eq z.2.text s[k].toNat cl]; simp
                    have et2 : (z.2.text.toNat == s[k].toNat) = tb := by
                      rw [← et, Bool.eq_iff_iff, beq_iff_eq, beq_iff_eq]; omega
                    have HOK := Lib.hid (show (match s.data.toList[k]? with | some c => byteOk z.2 c | none => false) = tb by
                      rw [HGET.out]; show byteOk z.2 s[k] = tb; unfold byteOk; rw [← HKD.out, h0, htb]; simp)
                    clear h1 h2 h0 htb
                    cases tb with
                    | true =>
                      have HACC := Lib.hid (show ∀ j, accB z.2 s.data.toList d (k + 1) j = if j = k + 1 then true else accB z.2 s.data.toList d k j from fun j => by
                        rw [accB_succ, ← HDK.out, Bool.true_and]
                        unfold contrib
                        rw [if_neg HN3.out, if_neg HN4.out, HOK.out, Bool.and_true]
                        by_cases h : j = k + 1
                        · rw [if_pos h, decide_eq_true h, Bool.or_true]
                        · rw [if_neg h, decide_eq_false h, Bool.or_false])
                      have hin : k + 1 < n := by have := HN.out; omega
                      have kd2 : ∃ x, wr.cell? ⟨b + 1, k + 1, none⟩ = some x := by
                        have := HD.out.cells (g := b + 1) rfl (k + 1) _ (donel_get hin)
                        exact ⟨_, by simpa [Addr.add_lit] using this⟩
                      obtain ⟨x, kx⟩ := kd2
                      have kf := own_frozen HD.out (k + 1)
                      go_wp2_with fail
                      go_quiet (fail)
                      go_wp2_with fail
                      go_roundw
                      case rel =>
                        refine ⟨k + 1, by omega, by go_num, ?_, ?_, ?_⟩
                        · rw [show donel (accB z.2 s.data.toList d (k + 1)) n = donel (fun i => if i = k + 1 then true else accB z.2 s.data.toList d k i) n from donel_congr fun j _ => HACC.out j]
                          exact step_st (show (wr.drewN _).ownsRow (b + 1) 4 1 (.slice (some ⟨b + 1, 0, none⟩) n n) n _ from HD.out) (k + 1)
                        · exact HP.out.kp (((Kp.refl (· = b + 1) wr).drewN _).setCell (p := ⟨b + 1, k + 1, none⟩) (.inl rfl) _) (by omega)
                        · exact (below_drewN HW.out _).setCell (p := ⟨b + 1, k + 1, none⟩) (by show _ ≤ b + 1; have := HB.out; omega) _
                      case measure => simp [intOf]; omega
                    | false =>
                      have HACC := Lib.hid (show ∀ j, accB z.2 s.data.toList d (k + 1) j = accB z.2 s.data.toList d k j from fun j => by
                        rw [accB_succ, ← HDK.out, Bool.true_and]
                        unfold contrib
                        rw [if_neg HN3.out, if_neg HN4.out, HOK.out, Bool.and_false, Bool.or_false])
                      go_wp2_with fail
                      go_quiet (fail)
                      go_wp2_with fail
                      go_roundw
                      case rel =>
                        refine ⟨k + 1, by omega, by go_num, ?_, HP.out, below_drewN HW.out _⟩
                        rw [show donel (accB z.2 s.data.toList d (k + 1)) n = donel (accB z.2 s.data.toList d k) n from donel_congr fun j _ => HACC.out j]
                        exact HD.out
                      case measure => simp [intOf]; omega
                  · have e0 : ((kd : Int) == 0) = false := by rw [beq_eq_false_iff_ne]; omega
                    have HOK := Lib.hid (show (match s.data.toList[k]? with | some c => byteOk z.2 c | none => false) = false by
                      rw [HGET.out]; show byteOk z.2 s[k] = false; unfold byteOk; rw [← HKD.out]; simp [h2, h1, h0])
                    clear h1 h2 h0
                    have HACC := Lib.hid (show ∀ j, accB z.2 s.data.toList d (k + 1) j = accB z.2 s.data.toList d k j from fun j => by
                      rw [accB_succ, ← HDK.out, Bool.true_and]
                      unfold contrib
                      rw [if_neg HN3.out, if_neg HN4.out, HOK.out, Bool.and_false, Bool.or_false])
                    go_wp2_with fail
                    go_quiet (fail)
                    go_wp2_with fail
                    go_roundw
                    case rel =>
                      refine ⟨k + 1, by omega, by go_num, ?_, HP.out, below_drewN HW.out _⟩
                      rw [show donel (accB z.2 s.data.toList d (k + 1)) n = donel (accB z.2 s.data.toList d k) n from donel_congr fun j _ => HACC.out j]
                      exact HD.out
                    case measure => simp [intOf]; omega
            · have hd1 : decide ((k : Int) < (s.size : Int)) = false := by rw [decide_eq_false_iff_not]; omega
              have hd2 : decide (k < s.size) = false := by rw [decide_eq_false_iff_not]; exact hks
              have HOK := Lib.hid (show (match s.data.toList[k]? with | some c => byteOk z.2 c | none => false) = false by rw [bAt_none (by omega)])
              clear hks
              have HACC := Lib.hid (show ∀ j, accB z.2 s.data.toList d (k + 1) j = accB z.2 s.data.toList d k j from fun j => by
                rw [accB_succ, ← HDK.out, Bool.true_and]
                unfold contrib
                rw [if_neg HN3.out, if_neg HN4.out, HOK.out, Bool.and_false, Bool.or_false])
              go_wp2_with fail
              go_quiet (fail)
              go_wp2_with fail
              go_roundw
              case rel =>
                refine ⟨k + 1, by omega, by go_num, ?_, HP.out, below_drewN HW.out _⟩
                rw [show donel (accB z.2 s.data.toList d (k + 1)) n = donel (accB z.2 s.data.toList d k) n from donel_congr fun j _ => HACC.out j]
                exact HD.out
              case measure => simp [intOf]; omega
    · obtain rfl : k = n := by omega
      go_wp2_with fail
      go_ret
      refine ⟨_, rfl, ?_, HW.out⟩
      have h1 := BoolsAt.own HD.out
      obtain ⟨g, hg, hc⟩ := h1
      refine ⟨g, hg, fun j hj => ?_⟩
      rw [hc j hj]
      congr 2
      have h2 := HN.out
      rw [h2]
      exact acc_done z.2 s.data.toList d j (by rw [h2] at hj; exact hj)
end Go.Proofs.YtnnfhcbopchodaaDoor
namespace Go.Proofs.YtnnfhcbopchodaaDoor
open Go Go.RowKit
set_option linter.unusedVariables false
set_option linter.unusedSimpArgs false
theorem splitD_cons (c : UInt8) (r : List UInt8) : splitD (c :: r) = if c = 46 then [] :: splitD r else match splitD r with
    | [] => [[c]]
    | n :: ns => (c :: n) :: ns := rfl
theorem ibyte_miss : ∀ (s : List UInt8), Lib.indexByte s 46 = -1 → splitD s = [s]
  | [], _ => rfl
  | b :: l, h => by
    unfold Lib.indexByte at h
    split at h
    · cases h
    · rename_i hb
      have hb : b ≠ 46 := by simpa using hb
      split at h
      · rename_i h1
        have ih := ibyte_miss l (by simpa using h1)
        rw [splitD_cons, if_neg hb, ih]
      · rename_i h1
        have := Lib.indexByte_ge l 46
        omega
theorem ibyte_hit : ∀ (s : List UInt8) (i : Nat), Lib.indexByte s 46 = i → splitD s = s.take i :: splitD (s.drop (i + 1))
  | [], i, h => by unfold Lib.indexByte at h; omega
  | b :: l, i, h => by
    unfold Lib.indexByte at h
    split at h
    · rename_i hb
      have hb : b = 46 := by simpa using hb
      obtain rfl : i = 0 := by omega
      rw [splitD_cons, if_pos hb]
      rfl
    · rename_i hb
      have hb : b ≠ 46 := by simpa using hb
      split at h
      · omega
      · rename_i h1
        obtain ⟨j, rfl⟩ : ∃ j, i = j + 1 := ⟨i - 1, by
          have := Lib.indexByte_ge l 46
          have h1 : ¬ Lib.indexByte l 46 = -1 := by simpa using h1
          omega⟩
        have ih := ibyte_hit l j (by omega)
        rw [splitD_cons, if_neg hb, ih]
        rfl
theorem splitK_dot : ∀ (n : Nat) (s : List UInt8), s.length ≤ n → Lib.splitK [46] 0 (Lib.count s [46]) s = splitD s := by
  intro n
  induction n with
  | zero =>
    intro s h
    have : s = [] := List.eq_nil_of_length_eq_zero (by omega)
    subst this
    rfl
  | succ n ih =>
    intro s h
    by_cases hm : Lib.indexByte s 46 = -1
    · have hi : Lib.index s [46] = -1 := by rw [Lib.index_one]; exact hm
      rw [Lib.count_miss hi, ibyte_miss s hm]
      rfl
    · obtain ⟨i, hi⟩ : ∃ i : Nat, Lib.indexByte s 46 = i := ⟨(Lib.indexByte s 46).toNat, by have := Lib.indexByte_ge s 46; omega⟩
      have hi2 : Lib.index s [46] = i := by rw [Lib.index_one]; exact hi
      have h1 := Lib.count_hit (sub := [46]) (by simp) hi2
      have h1 : Lib.count s [46] = Lib.count (s.drop (i + 1)) [46] + 1 := by rw [h1]; exact Nat.add_comm _ _
      have hne : s ≠ [] := by rintro rfl; exact hm rfl
      have hl : (s.drop (i + 1)).length ≤ n := by
        rw [List.length_drop]
        have := List.length_pos_iff.2 hne
        omega
      have ih2 := ih _ hl
      rw [h1, ibyte_hit s i hi]
      unfold Lib.splitK
      have h2 : ¬ (Lib.index s [46] == -1) = true := by rw [hi2]; simp
      rw [if_neg h2, hi2]
      show s.take (i + 0) :: Lib.splitK [46] 0 (Lib.count (s.drop (i + 1)) [46]) (s.drop (i + 1)) = _
      rw [ih2]
      rfl
theorem splitB_dot (s : ByteArray) : (Lib.splitB ⟨#[46]⟩ 0 (Lib.countB s ⟨#[46]⟩) s).map Value.string = (splitD s.data.toList).flatMap wenc := by
  have h1 := Lib.splitB_data ⟨#[46]⟩ 0 (Lib.countB s ⟨#[46]⟩) s
  have h2 : (⟨#[46]⟩ : ByteArray).data.toList = [46] := rfl
  have h3 : Lib.countB s ⟨#[46]⟩ = Lib.count s.data.toList [46] := rfl
  rw [h2, h3, splitK_dot _ _ (Nat.le_refl _)] at h1
  rw [← h1, h3]
  generalize Lib.splitB ⟨#[46]⟩ 0 (Lib.count s.data.toList [46]) s = L
  induction L with
  | nil => rfl
  | cons x r ih => rw [List.map_cons, List.map_cons, List.flatMap_cons, ih]; rfl
theorem splitB_len (s : ByteArray) : Lib.countB s ⟨#[46]⟩ + 1 = (splitD s.data.toList).length := by
  have key : ∀ (n : Nat) (s : List UInt8), s.length ≤ n → Lib.count s [46] + 1 = (splitD s).length := by
    intro n
    induction n with
    | zero =>
      intro s h
      have : s = [] := List.eq_nil_of_length_eq_zero (by omega)
      subst this
      rfl
    | succ n ih =>
      intro s h
      by_cases hm : Lib.indexByte s 46 = -1
      · have hi : Lib.index s [46] = -1 := by rw [Lib.index_one]; exact hm
        rw [Lib.count_miss hi, ibyte_miss s hm]
        rfl
      · obtain ⟨i, hi⟩ : ∃ i : Nat, Lib.indexByte s 46 = i := ⟨(Lib.indexByte s 46).toNat, by have := Lib.indexByte_ge s 46; omega⟩
        have hi2 : Lib.index s [46] = i := by rw [Lib.index_one]; exact hi
        have hne : s ≠ [] := by rintro rfl; exact hm rfl
        have hl : (s.drop (i + [46].length)).length ≤ n := by
          rw [List.length_drop]
          have := List.length_pos_iff.2 hne
          simp; omega
        have h1 := Lib.count_hit (sub := [46]) (by simp) hi2
        have h1 : Lib.count s [46] = Lib.count (s.drop (i + 1)) [46] + 1 := by rw [h1]; exact Nat.add_comm _ _
        have hl : (s.drop (i + 1)).length ≤ n := hl
        have := ih _ hl
        rw [h1, ibyte_hit s i hi, List.length_cons, this]
  exact key _ _ (Nat.le_refl _)
/-- The reference's way: a node that is being read, ahead of those that follow. -/
def glue (cur : List UInt8) : List (List UInt8) → List (List UInt8)
  | [] => [cur]
  | n :: ns => (cur ++ n) :: ns
theorem glue_nil {L : List (List UInt8)} (h : L ≠ []) : glue [] L = L := by cases L with | nil => exact absurd rfl h | cons a l => rfl
theorem glue_dot (cur : List UInt8) (r : List UInt8) : glue cur (splitD (46 :: r)) = cur :: splitD r := by
  rw [splitD_cons, if_pos rfl]
  simp [glue]
theorem glue_char (cur : List UInt8) (c : UInt8) (r : List UInt8) (h : c ≠ 46) : glue cur (splitD (c :: r)) = glue (cur ++ [c]) (splitD r) := by
  have hne := splitD_ne r
  rw [splitD_cons, if_neg h]
  cases hs : splitD r with
  | nil => exact absurd hs hne
  | cons n ns => simp [glue]
theorem glue_end (cur : List UInt8) : glue cur (splitD []) = [cur] := by simp [glue, splitD]
def SpJ (s : List UInt8) (out : List (List UInt8)) (a i : Nat) : Prop := splitD s = out ++ glue ((s.take i).drop a) (splitD (s.drop i)) ∧ out.all nodeOk = true ∧ (∀ c ∈ (s.take i).drop a, isG c = true) ∧ a ≤ i ∧ i ≤ s.length
theorem SpJ.start (s : List UInt8) : SpJ s [] 0 0 := by
  refine ⟨?_, rfl, by simp, Nat.le_refl _, Nat.zero_le _⟩
  rw [List.nil_append, List.drop_zero, List.take_zero]
  exact (glue_nil (splitD_ne s)).symm
theorem take_snoc' {s : List UInt8} {i a : Nat} {c : UInt8} (h : s[i]? = some c) (ha : a ≤ i) : (s.take (i + 1)).drop a = (s.take i).drop a ++ [c] := by
  obtain ⟨hl, hc⟩ := List.getElem?_eq_some_iff.1 h
  rw [List.take_succ_eq_append_getElem hl, List.drop_append_of_le_length (by rw [List.length_take]; omega), hc]
theorem drop_cons' {s : List UInt8} {i : Nat} {c : UInt8} (h : s[i]? = some c) : s.drop i = c :: s.drop (i + 1) := by
  obtain ⟨hl, hc⟩ := List.getElem?_eq_some_iff.1 h
  rw [List.drop_eq_getElem_cons hl, hc]
theorem SpJ.char {s : List UInt8} {out : List (List UInt8)} {a i : Nat} {c : UInt8} (h : SpJ s out a i) (hc : s[i]? = some c) (h46 : c ≠ 46) (hg : isG c = true) : SpJ s out a (i + 1) := by
  obtain ⟨h1, h2, h3, h4, h5⟩ := h
  have hl := (List.getElem?_eq_some_iff.1 hc).1
  refine ⟨?_, h2, ?_, by omega, hl⟩
  · rw [h1, drop_cons' hc, glue_char _ _ _ h46, take_snoc' hc h4]
  · intro x hx
    rw [take_snoc' hc h4] at hx
    rcases List.mem_append.1 hx with hx | hx
    · exact h3 x hx
    · rw [List.mem_singleton.1 hx]; exact hg
theorem SpJ.bad {s : List UInt8} {out : List (List UInt8)} {a i : Nat} {c : UInt8} (h : SpJ s out a i) (hc : s[i]? = some c) (h46 : c ≠ 46) (hg : isG c = false) : (splitD s).all nodeOk = false := by
  obtain ⟨h1, h2, h3, h4, h5⟩ := h
  rw [h1, drop_cons' hc, glue_char _ _ _ h46, List.all_append, h2, Bool.true_and]
  cases hs : splitD (s.drop (i + 1)) with
  | nil => exact absurd hs (splitD_ne _)
  | cons n ns =>
    simp only [glue, List.all_cons]
    have : nodeOk ((s.take i).drop a ++ [c] ++ n) = false := by
      unfold nodeOk
      simp [hg]
    rw [this, Bool.false_and]
def cur (s : List UInt8) (a i : Nat) : List UInt8 := (s.take i).drop a
theorem cur_len {s : List UInt8} {a i : Nat} (h : i ≤ s.length) : (cur s a i).length = i - a := by unfold cur; rw [List.length_drop, List.length_take]; omega
theorem node_cur {s : List UInt8} {out : List (List UInt8)} {a i : Nat} (h : SpJ s out a i) : nodeOk (cur s a i) = (decide (a < i) && decide (i - a ≤ 256)) := by
  obtain ⟨h1, h2, h3, h4, h5⟩ := h
  unfold nodeOk
  rw [cur_len h5]
  have hall : (cur s a i).all isG = true := by rw [List.all_eq_true]; exact h3
  rw [hall, Bool.and_true]
  congr 1
  have hl := cur_len (a := a) h5
  rw [Bool.eq_iff_iff]
  simp only [Bool.not_eq_true', decide_eq_true_eq, List.isEmpty_eq_false_iff]
  constructor
  · intro h
    have := List.length_pos_iff.2 h
    omega
  · intro h hn
    rw [hn] at hl
    simp at hl
    omega
/-- A node's end: at a dot or at the text's end. -/
theorem SpJ.fin {s : List UInt8} {out : List (List UInt8)} {a i : Nat} (h : SpJ s out a i) (hc : s[i]? = some 46 ∨ i = s.length) : ((nodeOk (cur s a i) = false → (splitD s).all nodeOk = false) ∧ (nodeOk (cur s a i) = true → (i < s.length → SpJ s (out ++ [cur s a i]) (i + 1) (i + 1)) ∧ (i = s.length → splitD s = out ++ [cur s a i] ∧ (splitD s).all nodeOk = true))) := by
  obtain ⟨h1, h2, h3, h4, h5⟩ := h
  rcases hc with hc | hc
  · have hl := (List.getElem?_eq_some_iff.1 hc).1
    rw [drop_cons' hc, glue_dot] at h1
    refine ⟨fun hn => ?_, fun hn => ⟨fun _ => ⟨?_, ?_, ?_, Nat.le_refl _, hl⟩, fun e => by omega⟩⟩
    · rw [h1, List.all_append, List.all_cons]
      rw [show nodeOk ((s.take i).drop a) = false from hn]
      simp
    · rw [show (s.take (i + 1)).drop (i + 1) = [] from List.drop_eq_nil_of_le (by rw [List.length_take]; omega), glue_nil (splitD_ne _), List.append_assoc]
      exact h1
    · rw [List.all_append, h2, List.all_cons, hn]; rfl
    · intro c hc2
      rw [List.drop_eq_nil_of_le (by rw [List.length_take]; omega)] at hc2
      cases hc2
  · subst hc
    rw [List.drop_length, glue_end] at h1
    refine ⟨fun hn => ?_, fun hn => ⟨fun e => by omega, fun _ => ⟨h1, ?_⟩⟩⟩
    · rw [h1, List.all_append, List.all_cons]
      rw [show nodeOk ((s.take s.length).drop a) = false from hn]
      simp
    · rw [h1, List.all_append, h2, List.all_cons, show nodeOk ((s.take s.length).drop a) = true from hn]; rfl
end Go.Proofs.YtnnfhcbopchodaaDoor
namespace Go.Proofs.YtnnfhcbopchodaaDoor
open Go.RowKit
set_option linter.unusedVariables false
set_option linter.unusedSimpArgs false
set_option maxRecDepth 100000
theorem Tryd.sizeBld : (Tryd.prog.info? 65).map (·.size) = some 2 := by kernel_rfl
theorem Tryd.liesBld : liesAt Tryd.prog Tryd.prog.depth 65 (2 / Tryd.prog.cellsOf 65) 0 65 1 = true := by kernel_rfl
theorem Tryd.infoU8 : (Tryd.prog.info? 5).map (fun i => (i.zero, i.size, i.bytes)) = some (some (.int .u8 0), 1, 1) := by kernel_rfl
theorem cc_used (b : Nat) (w : World) (h0 : w.cell? ⟨b, 0, none⟩ = some (.pointer (some ⟨b, 0, none⟩))) :
    Calls Tryd.prog 47 #[.pointer (some ⟨b, 0, none⟩)] w fun e w' => e = .returned (.tuple #[]) ∧ w' = w := by
  obtain ⟨j, hj, _⟩ := Option.map_eq_some_iff.1 Tryd.sizeBld
  go_enter Tryd.func47, Tryd.ntmps47
  go_wp2_with fail
  rw [Lib.run_neq_ptr_same w _ Tryd.underlying62 hj]
  go_wp2_with fail
  go_end0
  exact ⟨rfl, rfl⟩
theorem cc_fresh (b : Nat) (w : World) (h0 : w.cell? ⟨b, 0, none⟩ = some (.pointer none)) (hsh : w.shape? b = some (65, 2)) (hfz : w.frozen? ⟨b, 0, none⟩ = false) :
    Calls Tryd.prog 47 #[.pointer (some ⟨b, 0, none⟩)] w fun e w' => e = .returned (.tuple #[]) ∧ w' = w.setCell ⟨b, 0, none⟩ (.pointer (some ⟨b, 0, none⟩)) := by
  obtain ⟨j, hj, hjs⟩ := Option.map_eq_some_iff.1 Tryd.sizeBld
  go_enter Tryd.func47, Tryd.ntmps47
  go_wp2_with fail
  rw [Lib.run_to_unsafe w ⟨b, 0, none⟩ Tryd.underlying62 Tryd.underlying106 hj (by rw [hjs]; decide) hsh (Nat.zero_lt_succ 1)]
  simp only [Result.andThen]
  rw [Oper.upon_value]
  go_wp2_with fail
  rw [run_callFunc_extern Tryd.func67 (by kernel_rfl) (by kernel_rfl) (by kernel_rfl) (e := Extern.AbiNoEscape.same) (by kernel_rfl)]
  rw [Lib.run_noEscape]
  simp only [Result.andThen]
  rw [Oper.upon_value]
  go_wp2_with fail
  rw [Lib.run_from_unsafe w ⟨b, 0, none⟩ Tryd.underlying106 Tryd.underlying62 hj hsh Tryd.liesBld]
  simp only [Result.andThen]
  rw [Oper.upon_value]
  go_wp2_with fail
  go_end0
  exact ⟨rfl, rfl⟩
theorem cc_any (B b : Nat) (bs : List Value) (w : World) (h : Lib.IsBuilder 65 5 B b bs w) :
    Calls Tryd.prog 47 #[.pointer (some ⟨b, 0, none⟩)] w fun e w' => e = .returned (.tuple #[]) ∧ (Lib.BuilderAt 65 5 B b (.pointer (some ⟨b, 0, none⟩)) bs w' ∧ Below B w w' ∧ Lib.OthersKept 5 (some b) w w') := by
  rcases h with h | h
  · refine (cc_fresh b w h.cell0 h.shape h.frozen0).mono ?_
    rintro e w' ⟨rfl, rfl⟩
    exact ⟨rfl, h.used _, (Below.refl B w).setCell (p := ⟨b, 0, none⟩) h.1 _, (Lib.OthersKept.refl _ _ _).setCell ⟨b, 0, none⟩ rfl _⟩
  · refine (cc_used b w h.cell0).mono ?_
    rintro e w' ⟨rfl, rfl⟩
    exact ⟨rfl, h, Below.refl B _, Lib.OthersKept.refl _ _ _⟩
set_option maxHeartbeats 1000000 in
theorem ws_any (B b : Nat) (bs : List Value) (s : ByteArray) (w : World) (h : Lib.IsBuilder 65 5 B b bs w) (hlen : bs.length + s.size ≤ 140737488355328) (hBw : B ≤ w.heap.size) :
    Calls Tryd.prog 25 #[.pointer (some ⟨b, 0, none⟩), .string s] w fun e w' => e = .returned (.tuple #[.int .i64 s.size, .nilIface]) ∧ (Lib.BuilderAt 65 5 B b (.pointer (some ⟨b, 0, none⟩)) (bs ++ Lib.strCells s) w' ∧ Below B w w' ∧ Lib.OthersKept 5 (some b) w w') := by
  obtain ⟨i0, hi, hz0, hz1, hz2⟩ := info_parts Tryd.infoU8
  have HC := Lib.hid (cc_any B b bs w h)
  clear h
  go_enter Tryd.func25, Tryd.ntmps25
  go_wp2_with fail
  refine HC.out.mono ?_
  rintro e w1 ⟨rfl, h1, hb1, hk1⟩
  have HK1 := Lib.hid hk1
  clear hk1
  obtain ⟨hB, v, hbk, hown, hne⟩ := h1
  have c0 : w1.cell? ⟨b, 0, none⟩ = some (.pointer (some ⟨b, 0, none⟩)) := by rw [Lib.cell_of_heap hbk]; rfl
  have c1 : w1.cell? ⟨b, 1, none⟩ = some v := by rw [Lib.cell_of_heap hbk]; rfl
  go_wp2_with (at_builtin; refine Lib.wpList_append_own_string _ rfl _ _ 63 9 rfl B 5 i0 Tryd.underlying63 Tryd.underlying9 hi hz0 hz1 hz2 _ _ _ rfl hown s rfl ?c3 ?c4 ?c5 ?_)
  case c3 => unfold maxLen; omega
  case c4 => omega
  case c5 => have := hb1.size; omega
  intro v' w2 hown' hgrow _
  have hlt : b < w1.heap.size := by
    rcases Nat.lt_or_ge b w1.heap.size with h' | h'
    · exact h'
    · simp [Array.getElem?_eq_none h'] at hbk
  have hb2 : w2.heap[b]? = some (.cells #[.pointer (some ⟨b, 0, none⟩), v] 65 (0, 0)) := by
    rw [hgrow.block b hlt (fun e => hne e.symm)]
    exact hbk
  have d0 : w2.cell? ⟨b, 0, none⟩ = some (.pointer (some ⟨b, 0, none⟩)) := by rw [Lib.cell_of_heap hb2]; rfl
  have d1 : w2.cell? ⟨b, 1, none⟩ = some v := by rw [Lib.cell_of_heap hb2]; rfl
  have f1 : w2.frozen? ⟨b, 1, none⟩ = false := Lib.frozen_of_heap hb2 1
  obtain ⟨ao, n', cap, rfl⟩ : ∃ ao n' cap, v' = .slice ao n' cap := by
    rcases hown'.2 with ⟨hv, _⟩ | ⟨g, cap, cur, hv, _⟩
    · exact ⟨_, _, _, hv⟩
    · exact ⟨_, _, _, hv⟩
  go_wp2_with fail
  go_ret2
  refine ⟨rfl, ?_, ?_, ?_⟩
  · exact Lib.BuilderAt.put (T := 65) (e := 5) hB hb2 (bs' := bs ++ Lib.strCells s) (by simpa [Lib.strCells_length] using hown') (by decide)
  · exact (hb1.grown hgrow (by have := hb1.size; omega) (fun k hk => (hown.lt k hk).1)).setCell (p := ⟨b, 1, none⟩) hB _
  · exact (HK1.out.grown hgrow (Lib.ownsRow_kind hown)).setCell ⟨b, 1, none⟩ rfl _
theorem below_grownBy {w w' : World} (hb : Below w.heap.size w w') : w.grownBy w' none := ⟨hb.os, hb.tape, hb.output, hb.size, fun b hk _ => hb.block b hk⟩
theorem isB_later {T e : TypeId} {B b : Nat} {bs : List Value} {w w' : World} (h : Lib.IsBuilder T e B b bs w) (hb : Below w.heap.size w w') : Lib.IsBuilder T e B b bs w' := by
  have go : ∀ p, Lib.BuilderAt T e B b p bs w → Lib.BuilderAt T e B b p bs w' := by
    rintro p ⟨hB, v, hbk, hown, hne⟩
    have hlt : b < w.heap.size := (Array.getElem?_eq_some_iff.1 hbk).1
    refine ⟨hB, v, by rw [hb.block b hlt]; exact hbk, hown.kept (below_grownBy hb) ?_, hne⟩
    cases v.ownBlock with
    | none => exact .inl rfl
    | some g => exact .inr (by simp)
  exact h.imp (go _) (go _)
end Go.Proofs.YtnnfhcbopchodaaDoor
namespace Go.Proofs.YtnnfhcbopchodaaDoor
open Go.RowKit
set_option linter.unusedVariables false
set_option linter.unusedSimpArgs false
set_option maxRecDepth 100000

abbrev Lb := ByteArray × ByteArray
def lenc (m : Lb) : List Value := [.string m.1, .string m.2]
theorem lenc_len (m : Lb) : (lenc m).length = 2 := rfl
def lx (cs : List Lb) (k : Nat) : Lb := cs.getD k (ByteArray.empty, ByteArray.empty)
theorem lx_at {cs : List Lb} {k : Nat} (h : k < cs.length) : lx cs k = cs[k] := by simp [lx, h]
def getL (name : ByteArray) : List Lb → ByteArray
  | [] => ⟨#[]⟩
  | c :: cs => if c.1.toList == name.toList then c.2 else getL name cs
/-- A label's two cells, in a later world. -/
theorem lab_cells {w wr : World} {a : Option Addr} {cs : List Lb} {B k : Nat} (HC : ∀ k (hk : k < cs.length), ∃ b off, a = some ⟨b, off, none⟩ ∧ ∀ i u, (lenc cs[k])[i]? = some u → w.cell? ⟨b, off + (k * 2 + i), none⟩ = some u) (hb : Below B w wr) (hB : w.heap.size ≤ B) (hlt : k < cs.length) :
    ∃ b off, a = some ⟨b, off, none⟩ ∧ wr.cell? ⟨b, off + k * 2, none⟩ = some (.string (lx cs k).1) ∧ wr.cell? ⟨b, off + k * 2 + 1, none⟩ = some (.string (lx cs k).2) := by
  obtain ⟨b, off, rfl, hcc⟩ := HC k hlt
  refine ⟨b, off, rfl, ?_, ?_⟩
  · rw [lx_at hlt]; exact cell_below hb hB (hcc 0 _ rfl)
  · rw [lx_at hlt]; exact cell_below hb hB (hcc 1 _ rfl)

set_option maxHeartbeats 1000000 in
theorem get_any (v : Value) (cs : List Lb) (name : ByteArray) (w : World) (h : Sl lenc w v cs) :
    Calls Tryd.prog 38 #[v, .string name] w fun e w' => e = .returned (.string (getL name cs)) ∧ Below w.heap.size w w' := by
  obtain ⟨a, cap, rfl, hlen, -, hc⟩ := h.split lenc_len
  have HC := Lib.hid hc
  clear hc h
  go_enter Tryd.func38, Tryd.ntmps38
  go_wp2_with fail
  go_loopw [9] (fun i wr => ∃ k : Nat, k ≤ cs.length ∧ i = .int .i64 k ∧ Hid (getL name (cs.drop k) = getL name cs) ∧ Below w.heap.size w wr) (fun i _ => cs.length - (intOf i).toNat)
  case atStart => exact ⟨0, Nat.zero_le _, rfl, rfl, Below.refl _ _⟩
  case round =>
    obtain ⟨k, hk, rfl, HV, hb⟩ := hrel
    by_cases hlt : k < cs.length
    · obtain ⟨b, off, rfl, hk0, hk1⟩ := lab_cells HC.out hb (Nat.le_refl _) hlt
      have HD := Lib.hid (show cs.drop k = lx cs k :: cs.drop (k + 1) by rw [List.drop_eq_getElem_cons hlt]; simp [lx, hlt])
      have hs := hb.size
      have hltz : (k : Int) < (cs.length : Int) := by omega
      by_cases he : ((lx cs k).1.toList == name.toList) = true
      · go_wp2_with fail
        go_ret
        exact ⟨by rw [← HV.out, HD.out, getL, if_pos he] <;> rfl, by first | exact hb.alloc hs _ | exact below_drewN (hb.alloc hs _) _⟩
      · have he2 : ((lx cs k).1.toList == name.toList) = false := by simpa using he
        go_wp2_with fail
        go_roundw
        case rel => exact ⟨k + 1, by omega, by go_num, by show _ = _; rw [← HV.out, HD.out, getL, if_neg he], hb.alloc hs _⟩
        case measure => simp [intOf]; omega
    · have hltz : ¬ (k : Int) < (cs.length : Int) := by omega
      go_wp2_with fail
      go_ret
      exact ⟨by rw [← HV.out, List.drop_eq_nil_of_le (by omega)]; rfl, hb⟩

set_option maxHeartbeats 1000000 in
theorem rget_any (v : Value) (cs : List Lb) (name : ByteArray) (w : World) (h : Sl lenc w v cs) :
    Calls Tryd.prog 41 #[v, .string name] w fun e w' => e = .returned (.string (getL name cs)) ∧ w' = w := by
  obtain ⟨a, cap, rfl, hlen, -, hc⟩ := h.split lenc_len
  have HC := Lib.hid hc
  clear hc h
  go_enter Tryd.func41, Tryd.ntmps41
  go_wp2_with fail
  go_loopw [5] (fun i wr => ∃ k : Nat, k ≤ cs.length ∧ i = .int .i64 k ∧ Hid (getL name (cs.drop k) = getL name cs) ∧ wr = w) (fun i _ => cs.length - (intOf i).toNat)
  case atStart => exact ⟨0, Nat.zero_le _, rfl, rfl, rfl⟩
  case round =>
    obtain ⟨k, hk, rfl, HV, rfl⟩ := hrel
    by_cases hlt : k < cs.length
    · obtain ⟨b, off, rfl, hk0, hk1⟩ := lab_cells HC.out (Below.refl _ _) (Nat.le_refl _) hlt
      have HD := Lib.hid (show cs.drop k = lx cs k :: cs.drop (k + 1) by rw [List.drop_eq_getElem_cons hlt]; simp [lx, hlt])
      have hltz : (k : Int) < (cs.length : Int) := by omega
      have h00 : (0 : Int) ≤ (k : Int) := by omega
      by_cases he : ((lx cs k).1.toList == name.toList) = true
      · go_wp2_with fail
        go_ret
        exact ⟨by rw [← HV.out, HD.out, getL, if_pos he] <;> rfl, rfl⟩
      · have he2 : ((lx cs k).1.toList == name.toList) = false := by simpa using he
        go_wp2_with fail
        go_roundw
        case rel => exact ⟨k + 1, by omega, by go_num, by show _ = _; rw [← HV.out, HD.out, getL, if_neg he], by trivial⟩
        case measure => simp [intOf]; omega
    · have hltz : ¬ (k : Int) < (cs.length : Int) := by omega
      go_wp2_with fail
      go_ret
      exact ⟨by rw [← HV.out, List.drop_eq_nil_of_le (by omega)]; rfl, rfl⟩
end Go.Proofs.YtnnfhcbopchodaaDoor
