/- A piece's pattern: the walk. (Printed by gen_gr11.py.) Each node's pattern: the walk. (Printed by gen_gr13.py.) A path is read as itself; the patterns that known asks. Stars: as many nodes as one likes. Chapter 23's known answer. Chapter 4's patterns in the small language, as the reader reads them: plain. Chapter 4's programs of instructions, plain: what emit makes of a tree, what reach and Match do. (Several texts in one file, by merge.py.) -/
import Derived.Test.YtnnfhcbopchodaaDoorZN9
import Derived.Test.YtnnfhcbopchodaaDoorZN10
import Derived.Laws.BytesString
import Derived.Laws.BytesArg
import Derived.Test.YtnnfhcbopchodaaDoorZN1
namespace Go.Proofs.YtnnfhcbopchodaaDoor
open Go Go.RowKit
set_option linter.unusedVariables false
set_option linter.unusedSimpArgs false
set_option maxRecDepth 100000
theorem byteCells_one' (l : List UInt8) : ∀ u ∈ Lib.byteCells l, u.oneCell' = true := by
  intro u hu
  obtain ⟨b, _, rfl⟩ := List.mem_map.1 hu
  rfl
/-- A row of bytes of one's own, read as a text. -/
theorem conv_own {w : World} {base n : Nat} {v : Value} {l : List UInt8} (h : w.ownsRow base 5 1 v n (Lib.byteCells l)) :
    (convert 63 9 v).run Tryd.prog w = .ok (.string ⟨l.toArray⟩) w := by
  have hn : n = l.length := by have := h.1; rw [Lib.byteCells_length] at this; omega
  subst hn
  rcases h.2 with ⟨rfl, h0⟩ | ⟨g, cap, cur, rfl, _, _, _, _, _⟩
  · obtain rfl := List.eq_nil_of_length_eq_zero h0
    exact run_convert_bytes_nil w _ _ Tryd.underlying63 Tryd.underlying5 0 0 _ Tryd.underlying9
  · have e := run_convert_bytes_arg (P := Tryd.prog) w _ _ Tryd.underlying63 Tryd.underlying5 g 0 l.length cap (l.map fun b => (b.toNat : Int)) (by simp) (fun i hi => by
      have h1 := h.cells (g := g) rfl i (.int .u8 l[i].toNat) (by simp [Lib.byteCells, hi])
      rw [Addr.add_lit] at h1
      rw [h1]
      simp [List.getD, hi]) _ Tryd.underlying9
    rw [e]
    have : strOfNums (l.map fun b => (b.toNat : Int)) = ⟨l.toArray⟩ := by
      unfold strOfNums
      rw [List.map_map]
      have : ((fun n : Int => UInt8.ofNat n.toNat) ∘ fun b : UInt8 => (b.toNat : Int)) = id := by
        funext b
        simp
      rw [this, List.map_id]
    rw [this]
theorem Tryd.ginfoU8 : (Tryd.prog.info? 5).map (fun i => (i.zero, i.size, i.bytes)) = some (some (.int .u8 0), 1, 1) := by kernel_rfl
theorem enc_ascii (c : UInt8) (h : c < 128) : Utf8.encode (c.toNat : Int) = bsl [c] := by
  have h2 : ∀ n : Fin 128, Utf8.encode ((n : Nat) : Int) = bsl [UInt8.ofNat n] := by decide +kernel
  have := h2 ⟨c.toNat, UInt8.lt_iff_toNat_lt.1 h⟩
  rw [this]
  simp
def classC (f : UInt8 → Bool) (i : Nat) : List UInt8 := if f (UInt8.ofNat i) = true then (if i = 45 then [92] else []) ++ [UInt8.ofNat i] else []
def classB (f : UInt8 → Bool) (k : Nat) : List UInt8 := (List.range k).flatMap (classC f)
theorem classB_succ (f : UInt8 → Bool) (k : Nat) : classB f (k + 1) = classB f k ++ classC f k := by
  unfold classB
  rw [List.range_succ, List.flatMap_append]
  simp
theorem classC_len (f : UInt8 → Bool) (k : Nat) : (classC f k).length ≤ 2 := by
  unfold classC
  split
  · split <;> simp
  · simp
theorem classB_len (f : UInt8 → Bool) (k : Nat) : (classB f k).length ≤ 2 * k := by
  induction k with
  | zero => simp [classB]
  | succ k ih => rw [classB_succ, List.length_append]; have := classC_len f k; omega
/-- A piece's pattern. -/
def patP (p : Pc) : List UInt8 :=
  if p.kind = 0 then [p.text] else if p.kind = 2 then [46] else if p.kind = 3 then [46, 42] else if p.kind = 4 then 40 :: (Lib.join p.words [124] ++ [41]) else 91 :: (classB p.set 256 ++ [93])
def PcOk (p : Pc) : Prop := (p.kind = 0 → p.text < 128) ∧ (Lib.join p.words [124]).length ≤ 100000
theorem Sl.wsenc {w : World} {v : Value} {ws : List (List UInt8)} (h : Sl wenc w v ws) : Sl senc1 w v (ws.map bsl) := by
  obtain ⟨a, cap, rfl, hm, hn, hc⟩ := h
  refine ⟨a, cap, by simp, by simpa using hm, fun e => ?_, fun hx => ?_⟩
  · obtain ⟨e1, e2⟩ := hn e; exact ⟨e1, by rw [e2]; rfl⟩
  · obtain ⟨b, off, e, hd⟩ := hc (fun e => hx (by rw [e]; rfl))
    refine ⟨b, off, e, fun j u hu => hd j u ?_⟩
    rw [List.flatMap_map] at hu
    exact hu
theorem barjoin_any (v : Value) (ws : List (List UInt8)) (w : World) (h : Sl wenc w v ws) (hl : (Lib.join ws [124]).length ≤ 140737488355328) (hn : ws.length ≤ 140737488355328) :
    Calls Tryd.prog 39 #[v, .string ⟨#[124]⟩] w fun e w' => e = .returned (.string (bsl (Lib.join ws [124]))) ∧ Below w.heap.size w w' := by
  obtain ⟨a, cap, rfl, hm, hc⟩ := h.wsenc.strings
  have hws : (ws.map bsl).map (·.data.toList) = ws := by
    rw [List.map_map]
    exact List.map_id ws
  by_cases hx : ws = []
  · subst hx
    refine (Tryd.strings_Join_none a cap ⟨#[124]⟩ w).mono ?_
    rintro e w' ⟨rfl, rfl⟩
    exact ⟨rfl, Below.refl _ _⟩
  · have hpos : 0 < (ws.map bsl).length := by rw [List.length_map]; exact List.length_pos_iff.2 hx
    obtain ⟨b, off, rfl, hcell⟩ := hc 0 hpos
    have hblt : b < w.heap.size := World.block_lt_of_cell? w _ (hcell 0 hpos)
    refine (Tryd.strings_Join b off cap (ws.map bsl) ⟨#[124]⟩ w (fun j x hj => ?_) hblt (by rw [List.length_map]; exact hn) hm.1 (by rw [hws]; exact hl)).mono ?_
    · obtain ⟨h1, h2⟩ := List.getElem?_eq_some_iff.1 hj
      rw [hcell j h1, h2]
    · rintro e w' ⟨rfl, hb⟩
      rw [hws]
      exact ⟨rfl, hb⟩
theorem join_lens {ws : List (List UInt8)} : ws.length ≤ (Lib.join ws [124]).length + 1 := by
  cases ws with
  | nil => simp
  | cons x r =>
    rw [Lib.join_length, List.length_cons]
    simp
    try omega
abbrev ArT : TypeId := 31
theorem Tryd.infoAr : (Tryd.prog.info? ArT).map (·.size) = some 256 := by kernel_rfl
theorem Tryd.arRow : ∃ d, Tryd.prog.underlying ArT = some d ∧ d.isRow = true := by
  have h : ((Tryd.prog.underlying ArT).map (·.isRow)) = some true := by kernel_rfl
  cases hu : Tryd.prog.underlying ArT with
  | none => rw [hu] at h; cases h
  | some d => rw [hu] at h; exact ⟨d, rfl, by simpa using h⟩
theorem Tryd.stepLoadAr {ops : Array Oper} {rest : List Oper} {o : Oper} {a : Act} {w : World} {Q : Exit → Act → World → Prop} {z : ZPc} (x : Operand) (b : Nat) (hg : o.guard = none) (ho : o.op = .load ArT x) (hx : a.eval x = .pointer (some ⟨b, 2, none⟩)) (hz : PcB w b z)
    (h : wpList Tryd.prog ops Q rest (a.put o.dst (.agg (pbits z.2.set).toArray)) w) : wpList Tryd.prog ops Q (o :: rest) a w := by
  obtain ⟨d, hd, hr⟩ := Tryd.arRow
  refine wpList_load_mid hg ArT x ho b 2 hx (pbits z.2.set) d (fun j v hv => ?_) hd hr (by rw [pbits_len]; exact Tryd.infoAr) h
  have hj : j < 256 := by
    have := (List.getElem?_eq_some_iff.1 hv).1
    rw [pbits_len] at this
    exact this
  rw [hz.cs j hj]
  rw [← hv]
  simp [pbits, hj]
theorem Tryd.indexAr (f : UInt8 → Bool) (k : Nat) (hk : k < 256) (w : World) : (Instr.index ArT (.agg (pbits f).toArray) (.int .i64 (k : Int))).run Tryd.prog w = .ok (.bool (f (UInt8.ofNat k))) w := by
  have h : (pbits f)[k]? = some (.bool (f (UInt8.ofNat k))) := by simp [pbits, hk]
  have hs : (sizeOf 4).run Tryd.prog w = .ok 1 w := by rfl
  have h0 : (0 : Int) ≤ (k : Int) ∧ (k : Int) < (256 : Int) := by omega
  simp [Instr.index, asIntOf, run_underlying Tryd.underlying31, hs, h0, hk]
  have ha : (isAgg 4).run Tryd.prog w = .ok false w := by rfl
  simp [part, ha, h]
theorem Tryd.stepBoxPc {ops : Array Oper} {rest : List Oper} {o : Oper} {a : Act} {w : World} {Q : Exit → Act → World → Prop} {z : ZPc} (x : Operand) (hg : o.guard = none) (ho : o.op = .box PcT x) (hx : a.eval x = .agg (zpc z).toArray)
    (h : ∀ W, PcB W w.heap.size z → Below w.heap.size w W → wpList Tryd.prog ops Q rest (a.put o.dst (.pointer (some ⟨w.heap.size, 0, none⟩))) W) : wpList Tryd.prog ops Q (o :: rest) a w :=
  Great.wpList_boxTo hg PcT x ho o.dst rfl w.heap.size rfl (zpc z).toArray (by rw [hx]; rfl) (h _ (heap_new w _) ((Below.refl _ _).alloc (Nat.le_refl _) _))
set_option maxHeartbeats 4000000 in
theorem pattern_any (z : ZPc) (w : World) (hw : Sl wenc w z.1 z.2.words) (hp : PcOk z.2) :
    Calls Tryd.prog 26 #[.agg (zpc z).toArray] w fun e w' => e = .returned (.string (bsl (patP z.2))) ∧ Below w.heap.size w w' := by
  have HW := Lib.hid hw
  obtain ⟨kd, hkd⟩ : ∃ kd, kd = z.2.kind := ⟨_, rfl⟩
  have HKD := Lib.hid hkd
  obtain ⟨R, hR⟩ : ∃ R, R = patP z.2 := ⟨_, rfl⟩
  rw [← hR]
  unfold patP at hR
  rw [← hkd] at hR
  by_cases h0 : kd = 0
  · have e0 : ((kd : Int) == 0) = true := by rw [h0]; rfl
    have HE := Lib.hid (show Utf8.encode (z.2.text.toNat : Int) = bsl R by
      rw [hR, if_pos h0]
      exact enc_ascii _ (hp.1 (by rw [← hkd]; exact h0)))
    have ht : (0 : Int) ≤ (z.2.text.toNat : Int) ∧ (z.2.text.toNat : Int) ≤ 255 := by have := z.2.text.toNat_lt; omega
    have t32 : IntKind.i32.wrap (z.2.text.toNat : Int) = (z.2.text.toNat : Int) := IntWalk.i32_in _ (by omega)
    clear hR h0 hkd hw hp
    go_enter Tryd.func26, Tryd.ntmps26
    go_wp2_with (refine Tryd.stepBoxPc (z := z) (.tmp 0) rfl rfl rfl ?_
                 intro W0 hp0 hb0
                 have q0 := hp0.c0
                 rw [← HKD.out] at q0
                 have q1 := hp0.c1
                 have HP0 := Lib.hid hp0
                 have HB0 := Lib.hid hb0
                 clear hp0 hb0)
    go_ret
    exact ⟨by rw [← HE.out]; rfl, HB0.out⟩
  · have e0 : ((kd : Int) == 0) = false := by rw [beq_eq_false_iff_ne]; omega
    rw [if_neg h0] at hR
    by_cases h2 : kd = 2
    · have e2 : ((kd : Int) == 2) = true := by rw [h2]; rfl
      have HE := Lib.hid (show R = [46] by rw [hR, if_pos h2])
      clear hR h2 h0 hkd hw hp
      go_enter Tryd.func26, Tryd.ntmps26
      go_wp2_with (refine Tryd.stepBoxPc (z := z) (.tmp 0) rfl rfl rfl ?_
                   intro W0 hp0 hb0
                   have q0 := hp0.c0
                   rw [← HKD.out] at q0
                   skip
                   have HP0 := Lib.hid hp0
                   have HB0 := Lib.hid hb0
                   clear hp0 hb0)
      go_ret
      exact ⟨by rw [HE.out]; rfl, HB0.out⟩
    · have e2 : ((kd : Int) == 2) = false := by rw [beq_eq_false_iff_ne]; omega
      rw [if_neg h2] at hR
      by_cases h3 : kd = 3
      · have e3 : ((kd : Int) == 3) = true := by rw [h3]; rfl
        have HE := Lib.hid (show R = [46, 42] by rw [hR, if_pos h3])
        clear hR h2 h0 h3 hkd hw hp
        go_enter Tryd.func26, Tryd.ntmps26
        go_wp2_with (refine Tryd.stepBoxPc (z := z) (.tmp 0) rfl rfl rfl ?_
                     intro W0 hp0 hb0
                     have q0 := hp0.c0
                     rw [← HKD.out] at q0
                     skip
                     have HP0 := Lib.hid hp0
                     have HB0 := Lib.hid hb0
                     clear hp0 hb0)
        go_ret
        exact ⟨by rw [HE.out]; rfl, HB0.out⟩
      · have e3 : ((kd : Int) == 3) = false := by rw [beq_eq_false_iff_ne]; omega
        rw [if_neg h3] at hR
        by_cases h4 : kd = 4
        · have e4 : ((kd : Int) == 4) = true := by rw [h4]; rfl
          have HE := Lib.hid (show R = 40 :: (Lib.join z.2.words [124] ++ [41]) by rw [hR, if_pos h4])
          obtain ⟨za, zc, hz1, -⟩ := hw
          have HZ1 := Lib.hid hz1
          rw [hz1] at HW
          clear hz1
          have HJ := Lib.hid (fun W (hb : Below w.heap.size w W) => barjoin_any _ z.2.words W (HW.out.below hb (Nat.le_refl _)) (by have := hp.2; omega) (by have := hp.2; have := join_lens (ws := z.2.words); omega))
          have hjs : (bsl (Lib.join z.2.words [124])).size ≤ 100000 := by rw [bsl_size]; exact hp.2
          obtain ⟨js, hjs2⟩ : ∃ js, js = Lib.join z.2.words [124] := ⟨_, rfl⟩
          rw [← hjs2] at HJ HE hjs
          clear hR h2 h0 h3 h4 hkd hp hjs2
          go_enter Tryd.func26, Tryd.ntmps26
          go_wp2_with (refine Tryd.stepBoxPc (z := z) (.tmp 0) rfl rfl rfl ?_
                       intro W0 hp0 hb0
                       have q0 := hp0.c0
                       rw [← HKD.out] at q0
                       (have q258 := hp0.c258; rw [HZ1.out] at q258)
                       have HP0 := Lib.hid hp0
                       have HB0 := Lib.hid hb0
                       clear hp0 hb0)
          refine (HJ.out _ HB0.out).mono ?_
          rintro e w5 ⟨rfl, hb5⟩
          have HB5 := Lib.hid (HB0.out.trans (hb5.mono HB0.out.size))
          clear hb5
          go_wp2_with fail
          go_ret
          refine ⟨?_, HB5.out⟩
          rw [HE.out]
          have h1 : (⟨#[40]⟩ ++ bsl js ++ ⟨#[41]⟩ : ByteArray) = bsl (40 :: (js ++ [41])) := ba_eq (by simp [bsl, ByteArray.data_append])
          rw [← h1]
          rfl
        · have e4 : ((kd : Int) == 4) = false := by rw [beq_eq_false_iff_ne]; omega
          have HE := Lib.hid (show R = 91 :: (classB z.2.set 256 ++ [93]) by rw [hR, if_neg h4])
          obtain ⟨i0, hi, hz0, hz1, hz2⟩ := info_parts Tryd.ginfoU8
          have HI := Lib.hid hi
          have HI0 := Lib.hid hz0
          have HI1 := Lib.hid hz1
          have HI2 := Lib.hid hz2
          clear hR h2 h0 h3 h4 hkd hw hp hi hz0 hz1 hz2
          have hidx : ∀ (k : Nat) (w : World), k < 256 → (Instr.index ArT (.agg (pbits z.2.set).toArray) (.int .i64 (k : Int))).run Tryd.prog w = .ok (.bool (z.2.set (UInt8.ofNat k))) w := fun k w hk => Tryd.indexAr z.2.set k hk w
          have HIDX := Lib.hid hidx
          clear hidx
          go_enter Tryd.func26, Tryd.ntmps26
          go_wp2_with (first
            | (refine Tryd.stepBoxPc (z := z) (.tmp 0) rfl rfl rfl ?_
               intro W0 hp0 hb0
               have q0 := hp0.c0
               rw [← HKD.out] at q0
               have HP0 := Lib.hid hp0
               have HB0 := Lib.hid hb0
               clear hp0 hb0)
            | (refine Tryd.stepLoadAr (z := z) (.tmp 26) w.heap.size rfl rfl rfl (HP0.out.kp ((Kp.refl (fun _ => False) W0).alloc _) (fun h => h)) ?_))
          have hz0 := HB0.out.size
          have hlit : (W0.alloc (.cells #[.int .u8 91] 5)).ownsRow w.heap.size 5 1 (.slice (some ⟨W0.heap.size, 0, none⟩) 1 1) 1 (Lib.byteCells (91 :: classB z.2.set 0)) :=
            World.ownsRow_lit W0 #[.int .u8 91] 1 hz0 (by unfold maxLen; omega) rfl
          have HLIT := Lib.hid hlit
          have HBL := Lib.hid (HB0.out.alloc hz0 (.cells #[.int .u8 91] 5))
          clear hlit q0
          go_loopw [3, 28] (fun ov iv wr => ∃ k : Nat, iv = .int .i64 k ∧ k ≤ 256 ∧ Hid (wr.ownsRow w.heap.size 5 1 ov (91 :: classB z.2.set k).length (Lib.byteCells (91 :: classB z.2.set k))) ∧ Hid (Below w.heap.size w wr)) (fun _ i _ => 256 - (intOf i).toNat)
          case atStart => exact ⟨0, rfl, by decide, HLIT.out, HBL.out⟩
          case round =>
            obtain ⟨k, rfl, hk, HO, HW2⟩ := hrel
            have hws := HW2.out.size
            have hcl : (91 :: classB z.2.set k).length ≤ 600 := by have := classB_len z.2.set k; rw [List.length_cons]; omega
            obtain ⟨L, hL⟩ : ∃ L, L = 91 :: classB z.2.set k := ⟨_, rfl⟩
            rw [← hL] at HO hcl
            have HLL := Lib.hid hL
            clear hL
            by_cases hlt : k < 256
            · have w8 : IntKind.u8.wrap (k : Int) = (k : Int) := IntWalk.u8_in _ (by omega)
              have hk0 : (0 : Int) ≤ (k : Int) := by omega
              obtain ⟨bit, hbit⟩ : ∃ bit, bit = z.2.set (UInt8.ofNat k) := ⟨_, rfl⟩
              have hx := fun w => HIDX.out k w hlt
              rw [← hbit] at hx
              have HBIT := Lib.hid hbit
              clear hbit
              cases bit with
              | false =>
                have HCC := Lib.hid (show 91 :: classB z.2.set (k + 1) = L by
                  rw [classB_succ, HLL.out]
                  unfold classC
                  rw [← HBIT.out]
                  simp)
                go_wp2_with fail
                go_roundw
                case rel => exact ⟨k + 1, by go_num, by omega, by rw [HCC.out]; exact HO.out, HW2.out⟩
                case measure => simp [intOf]; omega
              | true =>
                have HKB := Lib.hid (show Lib.byteCells [UInt8.ofNat k] = [.int .u8 (k : Int)] by
                  show [Value.int .u8 ((UInt8.ofNat k).toNat : Int)] = _
                  rw [UInt8.toNat_ofNat', Nat.mod_eq_of_lt hlt])
                by_cases h45 : k = 45
                · have e45 : ((k : Int) == 45) = true := by rw [h45]; rfl
                  have HCC := Lib.hid (show 91 :: classB z.2.set (k + 1) = (L ++ [92]) ++ [UInt8.ofNat k] by
                    rw [classB_succ, HLL.out]
                    unfold classC
                    rw [← HBIT.out, if_pos rfl, if_pos h45]
                    simp)
                  clear h45
                  go_wp2_with (first
                    | (refine wpList_append_rd rfl (.tmp 37) (.tmp 38) _ rfl w.heap.size 5 i0 _ 1 1 Tryd.underlying63 HI.out HI0.out HI1.out HI2.out rfl (by decide) u3 L.length (Lib.byteCells L) rfl (World.ownsRow.alloc HO.out _) (some ⟨wr.heap.size, 0, none⟩) 1 1 [.int .u8 92] rfl (fun e => by cases e) rfl (fun ad e j u hu => by injection e with e; subst e; exact World.news_of_block (heap_new wr _) j u hu) (by intro u hu; simp at hu; rcases hu with rfl; rfl) (by unfold maxLen; omega) (by omega) (by simp; omega) ?_
                       intro v5 w5 hown5 hgrow5
                       have HW5 := Lib.hid ((HW2.out.alloc hws _).grown hgrow5 (by simp; omega) (fun j hj => (HO.out.lt j hj).1))
                       have HO5 := Lib.hid (show w5.ownsRow w.heap.size 5 1 v5 (L ++ [92]).length (Lib.byteCells (L ++ [92])) by rw [Lib.byteCells_append, List.length_append]; exact hown5)
                       have hws5 := HW5.out.size
                       have hl5 : (L ++ [92]).length ≤ 601 := by rw [List.length_append]; simp; omega
                       clear hown5 hgrow5)
                    | (refine wpList_append_rd rfl (.tmp 41) (.tmp 44) _ rfl w.heap.size 5 i0 _ 1 1 Tryd.underlying63 HI.out HI0.out HI1.out HI2.out rfl (by decide) v5 (L ++ [92]).length (Lib.byteCells (L ++ [92])) rfl (World.ownsRow.alloc HO5.out _) (some ⟨w5.heap.size, 0, none⟩) 1 1 [.int .u8 (k : Int)] rfl (fun e => by cases e) rfl (fun ad e j u hu => by injection e with e; subst e; exact World.news_of_block (heap_new w5 _) j u hu) (by intro u hu; simp at hu; rcases hu with rfl; rfl) (by unfold maxLen; omega) (by omega) (by simp; omega) ?_
                       intro v6 w6 hown6 hgrow6))
                  go_roundw
                  case rel =>
                    refine ⟨k + 1, by go_num, by omega, ?_, ((HW5.out.alloc hws5 _).grown hgrow6 (by simp; omega) (fun j hj => (HO5.out.lt j hj).1))⟩
                    unfold Hid
                    rw [HCC.out, Lib.byteCells_append, HKB.out, List.length_append]
                    exact hown6
                  case measure => simp [intOf]; omega
                · have e45 : ((k : Int) == 45) = false := by rw [beq_eq_false_iff_ne]; omega
                  have HCC := Lib.hid (show 91 :: classB z.2.set (k + 1) = L ++ [UInt8.ofNat k] by
                    rw [classB_succ, HLL.out]
                    unfold classC
                    rw [← HBIT.out, if_pos rfl, if_neg h45]
                    simp)
                  clear h45
                  go_wp2_with (refine wpList_append_rd rfl (.tmp 41) (.tmp 44) _ rfl w.heap.size 5 i0 _ 1 1 Tryd.underlying63 HI.out HI0.out HI1.out HI2.out rfl (by decide) u3 L.length (Lib.byteCells L) rfl (World.ownsRow.alloc HO.out _) (some ⟨wr.heap.size, 0, none⟩) 1 1 [.int .u8 (k : Int)] rfl (fun e => by cases e) rfl (fun ad e j u hu => by injection e with e; subst e; exact World.news_of_block (heap_new wr _) j u hu) (by intro u hu; simp at hu; rcases hu with rfl; rfl) (by unfold maxLen; omega) (by omega) (by simp; omega) ?_
                               intro v6 w6 hown6 hgrow6)
                  go_roundw
                  case rel =>
                    refine ⟨k + 1, by go_num, by omega, ?_, ((HW2.out.alloc hws _).grown hgrow6 (by simp; omega) (fun j hj => (HO.out.lt j hj).1))⟩
                    unfold Hid
                    rw [HCC.out, Lib.byteCells_append, HKB.out, List.length_append]
                    exact hown6
                  case measure => simp [intOf]; omega
            · obtain rfl : k = 256 := by omega
              have HRR := Lib.hid (show R = L ++ [93] by rw [HE.out, HLL.out]; rfl)
              go_wp2_with (refine wpList_append_rd rfl (.tmp 47) (.tmp 48) _ rfl w.heap.size 5 i0 _ 1 1 Tryd.underlying63 HI.out HI0.out HI1.out HI2.out rfl (by decide) u3 L.length (Lib.byteCells L) rfl (World.ownsRow.alloc HO.out _) (some ⟨wr.heap.size, 0, none⟩) 1 1 [.int .u8 93] rfl (fun e => by cases e) rfl (fun ad e j u hu => by injection e with e; subst e; exact World.news_of_block (heap_new wr _) j u hu) (by intro u hu; simp at hu; rcases hu with rfl; rfl) (by unfold maxLen; omega) (by omega) (by simp; omega) ?_
                           intro v6 w6 hown6 hgrow6
                           have RC := conv_own (l := L ++ [93]) (by rw [Lib.byteCells_append]; exact hown6))
              go_ret
              exact ⟨by rw [HRR.out]; rfl, (HW2.out.alloc hws _).grown hgrow6 (by simp; omega) (fun j hj => (HO.out.lt j hj).1)⟩
end Go.Proofs.YtnnfhcbopchodaaDoor
namespace Go.Proofs.YtnnfhcbopchodaaDoor
open Go Go.RowKit
set_option linter.unusedVariables false
set_option linter.unusedSimpArgs false
set_option maxRecDepth 100000
def GlobOk (g : List (List Pc)) : Prop := g.length ≤ 31 ∧ ∀ ps ∈ g, ps.length ≤ 5000 ∧ ∀ p ∈ ps, PcOk p
theorem patP_len {p : Pc} (h : PcOk p) : (patP p).length ≤ 100002 := by
  unfold patP
  split
  · simp
  · split
    · simp
    · split
      · simp
      · split
        · have := h.2
          simp
          omega
        · have := classB_len p.set 256
          simp
          omega
def patN (ps : List Pc) : List UInt8 := ps.flatMap patP
theorem patN_snoc {ps : List Pc} {m : Nat} (h : m < ps.length) : patN (ps.take (m + 1)) = patN (ps.take m) ++ patP ps[m] := by
  unfold patN
  rw [List.take_succ_eq_append_getElem h, List.flatMap_append]
  simp
theorem patN_len {ps : List Pc} (h : ∀ p ∈ ps, PcOk p) : (patN ps).length ≤ ps.length * 100002 := by
  induction ps with
  | nil => exact Nat.zero_le _
  | cons a r ih =>
    have h1 := patP_len (h a (by simp))
    have h2 := ih (fun x hx => h x (by simp [hx]))
    unfold patN at h2 ⊢
    rw [List.flatMap_cons, List.length_append, List.length_cons]
    omega
def patsG (g : List (List Pc)) : List (List UInt8) := g.map patN
theorem patsG_snoc {g : List (List Pc)} {k : Nat} (h : k < g.length) : (patsG g).take (k + 1) = (patsG g).take k ++ [patN (g.getD k [])] := by
  have hl : (patsG g)[k]? = some (patN (g.getD k [])) := by
    unfold patsG
    rw [List.getElem?_map, List.getD_eq_getElem?_getD, List.getElem?_eq_getElem h]
    rfl
  rw [List.take_add_one, hl]
  rfl
set_option maxHeartbeats 4000000 in
theorem nodes_any (gb : Nat) (g : List (List Pc)) (w : World) (hg : GlobAt w gb g) (hok : GlobOk g) :
    Calls Tryd.prog 9 #[.pointer (some ⟨gb, 0, none⟩)] w fun e w' => ∃ v, e = .returned v ∧ Sl wenc w' v (patsG g) ∧ Below w.heap.size w w' := by
  obtain ⟨nv, vs, hnv, hvs, hnd⟩ := hg
  obtain ⟨an, cn, rfl, hcn, -, hvc⟩ := hvs.split venc_len
  have HVC := Lib.hid hvc
  have HND := Lib.hid hnd
  have hvl : vs.length = g.length := hnd.1
  have HVL := Lib.hid hvl
  have HOK := Lib.hid hok
  have hgl := hok.1
  rw [hvl] at hnv
  obtain ⟨i0, hi, hz0, hz1, hz2⟩ := info_parts Tryd.ginfoStr
  have HI := Lib.hid hi
  have HI0 := Lib.hid hz0
  have HI1 := Lib.hid hz1
  have HI2 := Lib.hid hz2
  clear hvs hvc hnd hvl hok hi hz0 hz1 hz2
  go_enter Tryd.func9, Tryd.ntmps9
  go_wp2_with fail
  clear hnv
  go_loopw [3, 14] (fun ov iv wr => ∃ k : Nat, iv = .int .i64 k ∧ k ≤ g.length ∧ Hid (wr.ownsRow w.heap.size 9 1 ov k (((patsG g).take k).flatMap wenc)) ∧ Hid (Below w.heap.size w wr)) (fun _ i _ => g.length - (intOf i).toNat)
  case atStart => exact ⟨0, rfl, Nat.zero_le _, World.ownsRow_nil _ _ _ _, Below.refl _ _⟩
  case round =>
    obtain ⟨k, rfl, hkg, HO, HW⟩ := hrel
    obtain ⟨wo, hwo⟩ : ∃ wo, wo = wr := ⟨_, rfl⟩
    subst hwo
    have hws := HW.out.size
    by_cases hlt : k < g.length
    · have hkv : k < vs.length := by rw [HVL.out]; exact hlt
      obtain ⟨bv, ov, hav, hvc⟩ := HVC.out k hkv
      subst hav
      have v0 := cell_below HW.out (Nat.le_refl _) (hvc 0 _ rfl)
      simp only [Nat.mul_one, Nat.add_zero] at v0
      obtain ⟨zs, hzs, ⟨hzl, -⟩, hzw⟩ := HND.out.2 k hlt
      have hvd : vs.getD k undef = vs[k] := by rw [List.getD_eq_getElem?_getD, List.getElem?_eq_getElem hkv]; rfl
      rw [hvd] at hzl
      have hzl2 := hzl.below HW.out (Nat.le_refl _)
      obtain ⟨az, cz, hvz, hcz, -, hzc⟩ := hzl2.split zpc_len
      rw [hvz] at v0
      have HSN := Lib.hid (patsG_snoc hlt)
      obtain ⟨ps, hps⟩ : ∃ ps, ps = g.getD k [] := ⟨_, rfl⟩
      rw [← hps] at HSN
      have hpm : ps ∈ g := by
        rw [hps, List.getD_eq_getElem?_getD, List.getElem?_eq_getElem hlt]
        exact List.getElem_mem hlt
      have HPO := Lib.hid (HOK.out.2 ps hpm)
      rw [← hps] at hzs
      have hpl : zs.length = ps.length := by rw [← hzs, List.length_map]
      have hzl5 : zs.length ≤ 5000 := by rw [hpl]; exact HPO.out.1
      have HPL := Lib.hid hpl
      have HZC := Lib.hid hzc
      have HZS := Lib.hid hzs
      have HZW := Lib.hid hzw
      clear hzl hzl2 hzc hzs hzw hvd hvz hvc hps hpm hpl
      go_wp2_with fail
      have HBL0 := Lib.hid (Lib.fresh_isBuilder BldT U8T wo)
      have HWQ0 := Lib.hid (show Below wo.heap.size wo (wo.alloc (.cells #[.pointer none, .slice none 0 0] BldT)) from (Below.refl _ _).alloc (Nat.le_refl _) _)
      obtain ⟨bB, hbB⟩ : ∃ b, b = wo.heap.size := ⟨_, rfl⟩
      rw [← hbB] at HBL0 HWQ0 ⊢
      have HBB := Lib.hid hbB
      clear v0 hbB
      go_loopw [20] (fun iv wq => ∃ m : Nat, iv = .int .i64 m ∧ m ≤ zs.length ∧ Hid (Lib.IsBuilder BldT U8T bB bB (Lib.byteCells (patN (ps.take m))) wq) ∧ Hid (Below bB wo wq)) (fun i _ => zs.length - (intOf i).toNat)
      case atStart => exact ⟨0, rfl, Nat.zero_le _, HBL0.out, HWQ0.out⟩
      case round =>
        obtain ⟨m, rfl, hml, HBq, HQ⟩ := hrel
        obtain ⟨wq, hwq0⟩ : ∃ wq, wq = wr := ⟨_, rfl⟩
        subst hwq0
        have hqs := HQ.out.size
        have hbq : bB ≤ wq.heap.size := by have := HBB.out; omega
        by_cases hlt2 : m < zs.length
        · obtain ⟨bz, oz, haz, hcz2⟩ := HZC.out m hlt2
          subst haz
          have hQ2 : Below wo.heap.size wo wq := by have := HQ.out; rw [HBB.out] at this; exact this
          have HCELL := Lib.hid (show ∀ i u, (zpc zs[m])[i]? = some u → wq.cell? ⟨bz, oz + m * 259 + i, none⟩ = some u from fun i u hu => by
            have := cell_below hQ2 (Nat.le_refl _) (hcz2 i u hu)
            rw [Nat.add_assoc]; exact this)
          have hmem : zs[m] ∈ zs := List.getElem_mem hlt2
          have hwq : Sl wenc wq zs[m].1 zs[m].2.words := ((HZW.out _ hmem).1.below HW.out (Nat.le_refl _)).below hQ2 (Nat.le_refl _)
          have HWQ := Lib.hid hwq
          have hone : zs[m].1.oneCell' = true := by obtain ⟨a, cap, e, -⟩ := hwq; rw [e]; rfl
          have HONE := Lib.hid hone
          have hmp : m < ps.length := by rw [← HPL.out]; exact hlt2
          have hpm2 : ps[m] = zs[m].2 := by
            have h1 := HZS.out
            simp only [← h1, List.getElem_map]
          have HST := Lib.hid (show patN (ps.take (m + 1)) = patN (ps.take m) ++ patP zs[m].2 by rw [patN_snoc hmp, hpm2])
          have HPK := Lib.hid (show PcOk zs[m].2 by rw [← hpm2]; exact HPO.out.2 _ (List.getElem_mem hmp))
          have hlen := patN_len (ps := ps.take m) (fun p hp => HPO.out.2 p (List.mem_of_mem_take hp))
          rw [List.length_take, Nat.min_eq_left (by omega)] at hlen
          have HLEN := Lib.hid hlen
          obtain ⟨zz, hzz⟩ : ∃ zz, zz = zs[m] := ⟨_, rfl⟩
          rw [← hzz] at HCELL HWQ HONE HST HPK
          clear hmem hwq hone hzz hcz2 hQ2 hpm2 hlen
          have HCALL := Lib.hid (fun W (hb : Below wq.heap.size wq W) => pattern_any zz W (HWQ.out.below hb (Nat.le_refl _)) HPK.out)
          have HPT := Lib.hid (patP_len HPK.out)
          obtain ⟨pt, hpt⟩ : ∃ pt, pt = patP zz.2 := ⟨_, rfl⟩
          rw [← hpt] at HCALL HST HPT
          clear hpt
          go_wp2_with (first
            | (refine Tryd.stepLoadMid (z := zz) (.tmp 22) bz (oz + m * 259) rfl rfl rfl HCELL.out ?_)
            | (refine Tryd.stepAllocPc (n := wq.heap.size) rfl rfl rfl ?_
               intro W5 p5 z5 k5
               clear z5)
            | (refine Tryd.stepStorePc (z' := zz) (.tmp 8) (.tmp 23) wq.heap.size rfl rfl rfl rfl p5 HONE.out ?_
               intro W6 p6 z6 k6
               clear z6)
            | (refine Tryd.stepLoadPc (.tmp 8) wq.heap.size rfl rfl rfl p6 ?_))
          have hb6 : Below wq.heap.size wq W6 := (k5.trans_new k6 (fun b hb => .inr (by omega))).below (Nat.le_refl _) (fun b h => h.elim)
          have HB6 := Lib.hid hb6
          refine (HCALL.out W6 hb6).mono ?_
          rintro e w7 ⟨rfl, hb7⟩
          have HB7 := Lib.hid (HB6.out.trans (hb7.mono HB6.out.size))
          have HBq7 := Lib.hid (isB_later HBq.out HB7.out)
          have HQ7 := Lib.hid (HQ.out.trans (HB7.out.mono hbq))
          have HWS := Lib.hid (ws_any bB bB _ (bsl pt) w7 HBq7.out (by rw [Lib.byteCells_length, bsl_size]; have := HLEN.out; have := HPT.out; have : m * 100002 ≤ 5000 * 100002 := Nat.mul_le_mul_right _ (by omega); omega) (by have := HB7.out.size; omega))
          clear hb6 hb7 p5 p6 k5 k6
          go_wp2_with fail
          refine HWS.out.mono ?_
          rintro e w8 ⟨rfl, hb8, hw8, hk8⟩
          have HB8 := Lib.hid (show Lib.IsBuilder BldT U8T bB bB (Lib.byteCells (patN (ps.take (m + 1)))) w8 by
            rw [HST.out, Lib.byteCells_append]
            refine .inr ?_
            rw [Lib.strCells_eq] at hb8
            exact hb8)
          have HQ8 := Lib.hid (HQ7.out.trans hw8)
          clear hb8 hw8 hk8
          go_wp2_with fail
          go_roundw
          case rel => exact ⟨m + 1, by go_num, by omega, HB8.out, HQ8.out⟩
          case measure => simp [intOf]; omega
        · obtain rfl : m = zs.length := by omega
          have hfull := HBq.out
          rw [List.take_of_length_le (by rw [← HPL.out]; exact Nat.le_refl _)] at hfull
          have HST := Lib.hid (Tryd.Builder_String_any bB bB (patN ps) wq hfull hbq)
          clear hfull
          go_wp2_with fail
          refine HST.out.mono ?_
          rintro e w9 ⟨rfl, hb9⟩
          have hQ9 : Below wo.heap.size wo w9 := by have := HQ.out.trans hb9; rw [HBB.out] at this; exact this
          have HO9 := Lib.hid (HO.out.kept (below_grownBy hQ9) (by
            cases hq : u3.ownBlock with
            | none => exact .inl rfl
            | some q => exact .inr (by simp)))
          have HW9 := Lib.hid (HW.out.trans (hQ9.mono hws))
          have hws9 := HW9.out.size
          clear hQ9 hb9
          go_wp2_with (refine wpList_append_rd rfl (.tmp 28) (.tmp 30) _ rfl w.heap.size 9 i0 _ 1 16 Tryd.underlying28 HI.out HI0.out HI1.out HI2.out rfl (by decide) u3 k (((patsG g).take k).flatMap wenc) rfl (World.ownsRow.alloc HO9.out _) (some ⟨w9.heap.size, 0, none⟩) 1 1 [.string ⟨(patN ps).toArray⟩] rfl (fun e => by cases e) rfl (fun ad e j u hu => by injection e with e; subst e; exact World.news_of_block (heap_new w9 _) j u hu) (by intro u hu; simp at hu; rcases hu with rfl; rfl) (by unfold maxLen; omega) (by omega) (by simp; omega) ?_
                       intro v' w10 hown' hgrow)
          go_roundw
          case rel =>
            refine ⟨k + 1, by go_num, by omega, ?_, (HW9.out.alloc hws9 _).grown hgrow (by simp; omega) (fun j hj => (HO9.out.lt j hj).1)⟩
            unfold Hid
            rw [HSN.out, List.flatMap_append]
            exact hown'
          case measure => simp [intOf]; omega
    · obtain rfl : k = g.length := by omega
      go_wp2_with fail
      go_ret
      refine ⟨_, rfl, ?_, HW.out⟩
      have hst := HO.out
      have hl : (patsG g).length = g.length := by unfold patsG; simp
      rw [List.take_of_length_le (by rw [hl]; exact Nat.le_refl _), ← hl] at hst
      exact Sl.own wenc_len (by decide) hst
end Go.Proofs.YtnnfhcbopchodaaDoor
namespace Go.Proofs.YtnnfhcbopchodaaDoor
open Go Go.RowKit
set_option linter.unusedVariables false
set_option linter.unusedSimpArgs false
theorem split_cons : ∀ {r n : List UInt8} {ns : List (List UInt8)}, splitD r = n :: ns → (ns = [] ∧ r = n) ∨ ∃ r', r = n ++ 46 :: r' ∧ splitD r' = ns
  | [], n, ns, h => by
    simp [splitD] at h
    exact .inl ⟨h.2.symm ▸ rfl, h.1 ▸ rfl⟩
  | c :: r, n, ns, h => by
    unfold splitD at h
    split at h
    · rename_i hc
      injection h with h1 h2
      subst h1 hc
      exact .inr ⟨r, rfl, h2⟩
    · cases hs : splitD r with
      | nil => exact absurd hs (splitD_ne r)
      | cons m ms =>
        rw [hs] at h
        injection h with h1 h2
        subst h1
        rcases split_cons hs with ⟨e1, e2⟩ | ⟨r', e1, e2⟩
        · exact .inl ⟨by rw [← h2, e1], by rw [e2]⟩
        · exact .inr ⟨r', by rw [e1]; rfl, by rw [e2, h2]⟩
theorem drop_get {s n t : List UInt8} {a : Nat} (h : s.drop a = n ++ t) (ha : a ≤ s.length) (k : Nat) : s[a + k]? = (n ++ t)[k]? := by
  rw [← h, List.getElem?_drop]
theorem nodes_path (s : List UInt8) : ∀ (ns : List (List UInt8)) (r : List UInt8) (fuel a : Nat) (g : List (List Pc)), splitD r = ns → s.drop a = r → a ≤ s.length → (∀ n ∈ ns, nodeOk n = true) → ns.length < fuel → g.length + ns.length ≤ 31 →
    nodesG s fuel a g = .ok (g ++ ns.map fun n => n.map itselfP)
  | [], r, _, _, _, h, _, _, _, _, _ => absurd h (splitD_ne r)
  | n :: ns, r, fuel, a, g, h, hd, ha, hok, hf, hl => by
    obtain ⟨f, rfl⟩ : ∃ f, fuel = f + 1 := ⟨fuel - 1, by simp at hf; omega⟩
    have hn : nodeOk n = true := hok n (by simp)
    unfold nodeOk at hn
    simp only [Bool.and_eq_true, Bool.not_eq_true', List.isEmpty_eq_false_iff, decide_eq_true_eq, List.all_eq_true] at hn
    obtain ⟨⟨hne, -⟩, hg⟩ := hn
    have hlen : s.length = a + r.length := by have := congrArg List.length hd; rw [List.length_drop] at this; omega
    have key : ∀ t, r = n ++ t → (t = [] ∨ ∃ r', t = 46 :: r') → nodeG s (s.length + 1) a [] = .ok (n.map itselfP, a + n.length) ∧ s[a + n.length]? = t[0]? := by
      intro t ht hx
      have he : s[a + n.length]? = t[0]? := by
        rw [drop_get (hd.trans ht) ha, List.getElem?_append_right (Nat.le_refl _), Nat.sub_self]
      refine ⟨?_, he⟩
      have hle : n.length ≤ s.length := by rw [hlen, ht, List.length_append]; omega
      have := node_path s n (s.length + 1) a [] hg (.inl hne) (by omega) (fun k hk => by rw [drop_get (hd.trans ht) ha, List.getElem?_append_left hk, List.getElem?_eq_getElem hk]) (by
        rw [he]
        rcases hx with rfl | ⟨r', rfl⟩
        · exact .inl rfl
        · exact .inr rfl)
      simpa using this
    unfold nodesG
    rcases split_cons h with ⟨h1, h2⟩ | ⟨r', h1, h2⟩
    · obtain ⟨e1, e2⟩ := key [] (by rw [h2]; simp) (.inl rfl)
      rw [e1]
      simp only
      rw [e2]
      simp [h1]
    · obtain ⟨e1, e2⟩ := key (46 :: r') h1 (.inr ⟨r', rfl⟩)
      rw [e1]
      simp only
      rw [e2]
      have hns : ns ≠ [] := by rw [← h2]; exact splitD_ne r'
      have hns1 : 0 < ns.length := List.length_pos_iff.2 hns
      have h31 : ¬ (g ++ [n.map itselfP]).length = 31 := by rw [List.length_append]; simp at hl ⊢; omega
      simp only [List.getElem?_cons_zero, h31, if_false]
      rw [nodes_path s ns r' f (a + n.length + 1) (g ++ [n.map itselfP]) h2 (by
        rw [show a + n.length + 1 = a + (n.length + 1) from rfl, ← List.drop_drop, hd, h1]
        simp) (by rw [hlen, h1, List.length_append, List.length_cons]; omega) (fun m hm => hok m (by simp [hm])) (by simp at hf; omega) (by rw [List.length_append]; simp at hl ⊢; omega)]
      simp
/-- A path is read as itself. -/
theorem comp_path {s : List UInt8} (h : okG s = true) (hl : s.length ≤ 4096) : compG s = .ok (pathG s) := by
  unfold okG at h
  simp only [Bool.and_eq_true, List.all_eq_true, decide_eq_true_eq] at h
  unfold compG
  rw [if_neg (by omega)]
  have hlen : (splitD s).length ≤ s.length + 1 := by
    have : ∀ s : List UInt8, (splitD s).length ≤ s.length + 1 := by
      intro s
      induction s with
      | nil => simp [splitD]
      | cons c r ih =>
        unfold splitD
        split
        · simp; omega
        · split
          · simp
          · rename_i hh; rw [hh] at ih; simp at ih ⊢; omega
    exact this s
  have h2 : (splitD s).length < s.length + 2 := by omega
  have h3 := nodes_path s (splitD s) s (s.length + 2) 0 [] rfl rfl (Nat.zero_le _) h.1 h2 (by simpa using h.2)
  rw [h3]
  rfl
def kn1 : List UInt8 := [97, 46, 98, 42, 46, 123, 120, 44, 121, 122, 125]
def kn2 : List UInt8 := [97, 46, 46, 98]
def knG : List (List Pc) := [[itselfP 97], [itselfP 98, manyP], [wordsP [[120], [121, 122]]]]
theorem comp_kn1 : compG kn1 = .ok knG := by rfl
theorem comp_kn2 : compG kn2 = .error (2, 2) := by rfl
theorem match_kn1 : matchG knG [97, 46, 98, 98, 46, 121, 122] = true := by decide +kernel
theorem match_kn2 : matchG knG [97, 46, 98, 98] = false := by decide +kernel
end Go.Proofs.YtnnfhcbopchodaaDoor
namespace Go.Proofs.YtnnfhcbopchodaaDoor
open Go Go.RowKit
set_option linter.unusedVariables false
set_option maxRecDepth 100000
/-- A star, and so many times a dot and a star. -/
def starsS : Nat → List UInt8
  | 0 => [42]
  | n + 1 => starsS n ++ [46, 42]
theorem comp_stars (n : Nat) (h2 : n ≤ 30) : compG (starsS n) = .ok (starsG (n + 1)) := by
  obtain rfl | rfl | rfl | rfl | rfl | rfl | rfl | rfl | rfl | rfl | rfl | rfl | rfl | rfl | rfl | rfl | rfl | rfl | rfl | rfl | rfl | rfl | rfl | rfl | rfl | rfl | rfl | rfl | rfl | rfl | rfl : n = 0 ∨ n = 1 ∨ n = 2 ∨ n = 3 ∨ n = 4 ∨ n = 5 ∨ n = 6 ∨ n = 7 ∨ n = 8 ∨ n = 9 ∨ n = 10 ∨ n = 11 ∨ n = 12 ∨ n = 13 ∨ n = 14 ∨ n = 15 ∨ n = 16 ∨ n = 17 ∨ n = 18 ∨ n = 19 ∨ n = 20 ∨ n = 21 ∨ n = 22 ∨ n = 23 ∨ n = 24 ∨ n = 25 ∨ n = 26 ∨ n = 27 ∨ n = 28 ∨ n = 29 ∨ n = 30 := by omega
  all_goals rfl
/-- GlobStars, as plain law. -/
theorem stars_law {s : List UInt8} (h : okG s = true) (hl : s.length ≤ 300) (t : List UInt8) :
    ∃ a b, compG s = .ok a ∧ compG (starsS ((splitD s).length - 1)) = .ok b ∧ matchG a s = true ∧ matchG b s = true ∧ matchG a t = decide (s = t) ∧ matchG b t = (okG t && decide ((splitD t).length = (splitD s).length)) := by
  have h31 : (splitD s).length ≤ 31 := by unfold okG at h; simp only [Bool.and_eq_true, decide_eq_true_eq] at h; exact h.2
  have h1 : 0 < (splitD s).length := List.length_pos_iff.2 (splitD_ne s)
  have e : (splitD s).length - 1 + 1 = (splitD s).length := by omega
  refine ⟨pathG s, starsG (splitD s).length, comp_path h (by omega), ?_, ?_, ?_, match_path h t, match_stars _ t⟩
  · have := comp_stars ((splitD s).length - 1) (by omega)
    rw [e] at this; exact this
  · rw [match_path h]; simp
  · rw [match_stars, h]; simp
end Go.Proofs.YtnnfhcbopchodaaDoor
namespace Go.Proofs.YtnnfhcbopchodaaDoor
open Go Go.RowKit
set_option linter.unusedVariables false
set_option linter.unusedSimpArgs false
set_option maxRecDepth 100000
theorem compile_ok (s : ByteArray) (g : List (List Pc)) (w : World) (hs : s.size ≤ 4096) (h : compG s.data.toList = .ok g) :
    Calls Tryd.prog 8 #[.string s] w fun e w' => ∃ gb, e = .returned (.tuple #[.pointer (some ⟨gb, 0, none⟩), .int .i64 0, .int .i64 0]) ∧ GlobAt w' gb g ∧ Below w.heap.size w w' := by
  refine (compile_any s w hs).mono ?_
  rintro e w' ⟨hb, hr⟩
  have h2 : nodesG s.data.toList (s.size + 2) 0 [] = .ok g := by
    unfold compG at h
    rw [if_neg (by have : s.data.toList.length = s.size := rfl; omega)] at h
    exact h
  rw [h2] at hr
  obtain ⟨gb, rfl, hg⟩ := hr
  exact ⟨gb, rfl, hg, hb⟩
theorem compile_err (s : ByteArray) (a : Nat) (er : Int) (w : World) (hs : s.size ≤ 4096) (h : compG s.data.toList = .error (a, er)) :
    Calls Tryd.prog 8 #[.string s] w fun e w' => e = .returned (.tuple #[.pointer none, .int .i64 a, .int .i64 er]) ∧ Below w.heap.size w w' := by
  refine (compile_any s w hs).mono ?_
  rintro e w' ⟨hb, hr⟩
  have h2 : nodesG s.data.toList (s.size + 2) 0 [] = .error (a, er) := by
    unfold compG at h
    rw [if_neg (by have : s.data.toList.length = s.size := rfl; omega)] at h
    exact h
  rw [h2] at hr
  exact ⟨hr, hb⟩
def kS1 : ByteArray := ⟨#[97, 46, 98, 42, 46, 123, 120, 44, 121, 122, 125]⟩
def kS2 : ByteArray := ⟨#[97, 46, 46, 98]⟩
theorem knG_ok : GlobOk knG := by
  refine ⟨by decide, fun ps hps => ?_⟩
  simp only [knG, List.mem_cons, List.not_mem_nil, or_false] at hps
  rcases hps with rfl | rfl | rfl
  · refine ⟨by decide, fun p hp => ?_⟩
    rw [List.mem_singleton.1 hp]
    exact ⟨fun _ => (by decide), by decide⟩
  · refine ⟨by decide, fun p hp => ?_⟩
    simp only [List.mem_cons, List.not_mem_nil, or_false] at hp
    rcases hp with rfl | rfl
    · exact ⟨fun _ => (by decide), by decide⟩
    · exact ⟨fun h => (by cases h), by decide⟩
  · refine ⟨by decide, fun p hp => ?_⟩
    rw [List.mem_singleton.1 hp]
    exact ⟨fun h => (by cases h), by decide⟩
theorem nd3 : ndS 3 = ⟨#[95, 95, 103, 51, 95, 95]⟩ := by decide +kernel
set_option maxHeartbeats 4000000 in
theorem gknown_any (w : World) (hk : KW w) : Calls Tryd.prog 6 #[] w fun e w' => e = .returned (.bool true) ∧ Below w.heap.size w w' := by
  have HKW := Lib.hid hk
  have HC1 := Lib.hid (compile_ok kS1 knG w (by decide) comp_kn1)
  have HC2 := Lib.hid (fun w => compile_err kS2 2 2 w (by decide) comp_kn2)
  clear hk
  go_enter Tryd.func6, Tryd.ntmps6
  go_wp2_with fail
  refine HC1.out.mono ?_
  rintro e w1 ⟨gb, rfl, hg1, hb1⟩
  have HG1 := Lib.hid hg1
  have HB1 := Lib.hid hb1
  clear hg1 hb1
  go_wp2_with fail
  refine (HC2.out w1).mono ?_
  rintro e w2 ⟨rfl, hb2⟩
  have HG2 := Lib.hid (HG1.out.below hb2)
  have HB2 := Lib.hid (HB1.out.trans (hb2.mono HB1.out.size))
  have HM1 := Lib.hid (match_any gb knG ⟨#[97, 46, 98, 98, 46, 121, 122]⟩ w2 HG2.out (HKW.out.below HB2.out) (by decide))
  rw [show matchG knG (⟨#[97, 46, 98, 98, 46, 121, 122]⟩ : ByteArray).data.toList = true from match_kn1] at HM1
  clear hb2
  go_wp2_with fail
  refine HM1.out.mono ?_
  rintro e w3 ⟨rfl, hb3⟩
  have HG3 := Lib.hid (HG2.out.below hb3)
  have HB3 := Lib.hid (HB2.out.trans (hb3.mono HB2.out.size))
  have HM2 := Lib.hid (match_any gb knG ⟨#[97, 46, 98, 98]⟩ w3 HG3.out (HKW.out.below HB3.out) (by decide))
  rw [show matchG knG (⟨#[97, 46, 98, 98]⟩ : ByteArray).data.toList = false from match_kn2] at HM2
  clear hb3
  go_wp2_with fail
  refine HM2.out.mono ?_
  rintro e w4 ⟨rfl, hb4⟩
  have HG4 := Lib.hid (HG3.out.below hb4)
  have HB4 := Lib.hid (HB3.out.trans (hb4.mono HB3.out.size))
  have HND := Lib.hid (gnode_any 3 w4 ((HKW.out.below HB4.out).1) (by decide) (by decide))
  rw [nd3] at HND
  clear hb4
  go_wp2_with fail
  refine HND.out.mono ?_
  rintro e w5 ⟨rfl, hb5⟩
  have HG5 := Lib.hid (HG4.out.below hb5)
  have HB5 := Lib.hid (HB4.out.trans (hb5.mono HB4.out.size))
  have HNS := Lib.hid (nodes_any gb knG w5 HG5.out knG_ok)
  clear hb5
  go_wp2_with fail
  refine HNS.out.mono ?_
  rintro e w6 ⟨v6, rfl, hs6, hb6⟩
  have HB6 := Lib.hid (HB5.out.trans (hb6.mono HB5.out.size))
  obtain ⟨a6, c6, rfl, -⟩ := hs6
  rw [show (patsG knG).length = 3 from rfl]
  clear hb6
  go_wp2_with fail
  go_ret
  exact ⟨rfl, HB6.out⟩
end Go.Proofs.YtnnfhcbopchodaaDoor
namespace Go.Proofs.YtnnfhcbopchodaaDoor
open Go Go.RowKit
set_option linter.unusedVariables false
/-- A pattern's tree: a kind, kids, a set. -/
inductive RT where
  | node (kind : Nat) (kids : List RT) (set : UInt8 → Bool)
def RT.kind : RT → Nat | .node k _ _ => k
def RT.kids : RT → List RT | .node _ l _ => l
def RT.set : RT → UInt8 → Bool | .node _ _ S => S
def noS : UInt8 → Bool := fun _ => false
def oneS (c : UInt8) : UInt8 → Bool := fun y => y == c
def escI : List UInt8 := [93, 91, 92, 45, 94, 46, 40, 41, 124, 42, 43, 63]
def escA : List UInt8 := [92, 46, 91, 93, 40, 41, 124, 42, 43, 63, 94, 36, 123, 125, 47, 45]
/-- The byte behind a stroke. -/
def escL (which : List UInt8) : List UInt8 → Option (UInt8 × List UInt8)
  | [] => none
  | c :: r => if which.contains c = true then some (c, r) else none
/-- A byte in brackets. -/
def itemL : List UInt8 → Option (UInt8 × List UInt8)
  | [] => none
  | c :: r => if c = 92 then escL escI r else if c = 93 ∨ c = 45 ∨ c = 94 then none else some (c, r)
def fillS (S : UInt8 → Bool) (a b : UInt8) : UInt8 → Bool := fun y => S y || (decide (a ≤ y) && decide (y ≤ b))
/-- The items of a class, to the bracket's end. -/
def clsL : Nat → Bool → (UInt8 → Bool) → List UInt8 → Option ((UInt8 → Bool) × List UInt8)
  | 0, _, _, _ => none
  | f + 1, first, S, l =>
    if first = false ∧ l.head? = some 93 then some (S, l.drop 1) else
    match itemL l with
    | none => none
    | some (a, l1) =>
      if l1.head? = some 45 then
        match itemL (l1.drop 1) with
        | none => none
        | some (b, l3) => if b < a then none else clsL f false (fillS S a b) l3
      else clsL f false (fillS S a a) l1
def classL (l : List UInt8) : Option ((UInt8 → Bool) × List UInt8) :=
  if l.head? = some 94 then (clsL (l.length + 1) true noS (l.drop 1)).map fun p => (fun y => !p.1 y, p.2)
  else clsL (l.length + 1) true noS l
def sufL (a : RT) (l : List UInt8) : RT × List UInt8 :=
  if l.head? = some 42 then (.node 4 [a] noS, l.drop 1) else if l.head? = some 43 then (.node 5 [a] noS, l.drop 1) else if l.head? = some 63 then (.node 6 [a] noS, l.drop 1) else (a, l)
mutual
def atomL : Nat → Nat → List UInt8 → Option (RT × List UInt8)
  | 0, _, _ => none
  | f + 1, d, l =>
    match l with
    | [] => none
    | c :: r =>
      if c = 46 then some (.node 3 [] fun _ => true, r)
      else if c = 92 then (escL escA r).map fun p => (.node 3 [] (oneS p.1), p.2)
      else if c = 91 then (classL r).map fun p => (.node 3 [] p.1, p.2)
      else if c = 40 then
        if d = 40 then none else
        match altsL f (d + 1) r with
        | none => none
        | some (t, l1) => if l1.head? = some 41 then some (t, l1.drop 1) else none
      else some (.node 3 [] (oneS c), r)
def piecesL : Nat → Nat → List RT → List UInt8 → Option (RT × List UInt8)
  | 0, _, _, _ => none
  | f + 1, d, acc, l =>
    match l with
    | [] => some (.node 1 acc noS, [])
    | c :: r =>
      if c = 124 ∨ c = 41 then some (.node 1 acc noS, c :: r)
      else if c = 42 ∨ c = 43 ∨ c = 63 ∨ c = 93 then none
      else match atomL f d (c :: r) with
        | none => none
        | some (a, l1) => piecesL f d (acc ++ [(sufL a l1).1]) (sufL a l1).2
def moreL : Nat → Nat → List RT → List UInt8 → Option (RT × List UInt8)
  | 0, _, _, _ => none
  | f + 1, d, acc, l =>
    if l.head? = some 124 then
      match piecesL f d [] (l.drop 1) with
      | none => none
      | some (p, l1) => moreL f d (acc ++ [p]) l1
    else some (.node 2 acc noS, l)
def altsL : Nat → Nat → List UInt8 → Option (RT × List UInt8)
  | 0, _, _ => none
  | f + 1, d, l =>
    match piecesL f d [] l with
    | none => none
    | some (p, l1) => moreL f d [p] l1
end
/-- A pattern's tree, where it is one. -/
def compR (l : List UInt8) : Option RT :=
  match altsL (3 * l.length + 5) 0 l with
  | none => none
  | some (t, r) => if r = [] then some t else none
theorem compR_ab : (compR [97, 124, 98, 42]).isSome = true := by decide +kernel
theorem compR_no : (compR [97, 42, 42]).isSome = false := by decide +kernel
end Go.Proofs.YtnnfhcbopchodaaDoor
namespace Go.Proofs.YtnnfhcbopchodaaDoor
open Go Go.RowKit
set_option linter.unusedVariables false
set_option linter.unusedSimpArgs false
/-- An instruction: 1 a byte of a set, 2 on at two places, 3 on at one, 4 the end. -/
structure In where
  kind : Nat
  set : UInt8 → Bool
  a : Nat
  b : Nat
def putB : List In → Nat → Nat → List In
  | [], _, _ => []
  | i :: r, 0, v => { i with b := v } :: r
  | i :: r, f + 1, v => i :: putB r f v
def putA : List In → Nat → Nat → List In
  | [], _, _ => []
  | i :: r, 0, v => { i with a := v } :: r
  | i :: r, f + 1, v => i :: putA r f v
def patchE : List In → List Nat → Nat → List In
  | p, [], _ => p
  | p, o :: r, e => patchE (putA p o e) r e
mutual
/-- What emit makes. -/
def emitP : List In → RT → List In
  | p, .node k kids S =>
    if k = 3 then p ++ [⟨1, S, 0, 0⟩]
    else if k = 1 then catP p kids
    else if k = 2 then patchE (altP p [] kids).1 (altP p [] kids).2 (altP p [] kids).1.length
    else if k = 5 then oneP p kids ++ [⟨2, noS, p.length, (oneP p kids).length + 1⟩]
    else if k = 4 then putB (oneP (p ++ [⟨2, noS, p.length + 1, 0⟩]) kids ++ [⟨3, noS, p.length, 0⟩]) p.length ((oneP (p ++ [⟨2, noS, p.length + 1, 0⟩]) kids).length + 1)
    else putB (oneP (p ++ [⟨2, noS, p.length + 1, 0⟩]) kids) p.length (oneP (p ++ [⟨2, noS, p.length + 1, 0⟩]) kids).length
def catP : List In → List RT → List In
  | p, [] => p
  | p, a :: r => catP (emitP p a) r
def altP : List In → List Nat → List RT → List In × List Nat
  | p, outs, [] => (p, outs)
  | p, outs, a :: r =>
    if r.isEmpty = true then altP (emitP p a) outs r
    else altP (putB (emitP (p ++ [⟨2, noS, p.length + 1, 0⟩]) a ++ [⟨3, noS, 0, 0⟩]) p.length ((emitP (p ++ [⟨2, noS, p.length + 1, 0⟩]) a).length + 1)) (outs ++ [(emitP (p ++ [⟨2, noS, p.length + 1, 0⟩]) a).length]) r
def oneP : List In → List RT → List In
  | p, [] => p
  | p, a :: _ => emitP p a
end
/-- What reach marks: places that wait, the last one first. -/
def reachP (P : List In) : Nat → List Bool → List Nat → Option (List Bool)
  | 0, _, _ => none
  | f + 1, d, [] => some d
  | f + 1, d, k :: ws => match P[k]?, d[k]? with
    | some i, some b => if b = true then reachP P f d ws else reachP P f (d.set k true) (if i.kind = 2 then i.b :: i.a :: ws else if i.kind = 3 then i.a :: ws else ws)
    | _, _ => none
def fuelR (P : List In) : Nat := 3 * P.length + 3
def sweepP (P : List In) (d : List Bool) (c : UInt8) : Nat → Nat → List Bool → Option (List Bool)
  | 0, _, nx => some nx
  | f + 1, k, nx => match P[k]?, d[k]? with
    | some i, some b => if b = true ∧ i.kind = 1 ∧ i.set c = true then (match reachP P (fuelR P) nx [k + 1] with | some n2 => sweepP P d c f (k + 1) n2 | none => none) else sweepP P d c f (k + 1) nx
    | _, _ => none
def runP (P : List In) : List Bool → List UInt8 → Option Bool
  | d, [] => d[P.length - 1]?
  | d, c :: r => match sweepP P d c P.length 0 (List.replicate P.length false) with | some d2 => runP P d2 r | none => none
def progP (t : RT) : List In := emitP [] t ++ [⟨4, noS, 0, 0⟩]
def matchP (t : RT) (b : List UInt8) : Option Bool := match reachP (progP t) (fuelR (progP t)) (List.replicate (progP t).length false) [0] with | some d => runP (progP t) d b | none => none
mutual
/-- A tree as the reader makes it. -/
def okT : RT → Bool
  | .node k kids _ => (k == 1 || k == 3 || (k == 2 || k == 4 || k == 5 || k == 6) && !kids.isEmpty) && oksT kids
def oksT : List RT → Bool
  | [] => true
  | a :: r => okT a && oksT r
end
mutual
/-- How many instructions a tree makes, at most. -/
def costT : RT → Nat
  | .node k kids _ => 2 + costsT kids
def costsT : List RT → Nat
  | [] => 0
  | a :: r => 2 + costT a + costsT r
end
theorem putB_len : ∀ (p : List In) (f v : Nat), (putB p f v).length = p.length
  | [], _, _ => rfl
  | _ :: _, 0, _ => rfl
  | i :: r, f + 1, v => by unfold putB; simp [putB_len r f v]
theorem putA_len : ∀ (p : List In) (f v : Nat), (putA p f v).length = p.length
  | [], _, _ => rfl
  | _ :: _, 0, _ => rfl
  | i :: r, f + 1, v => by unfold putA; simp [putA_len r f v]
theorem patchE_len : ∀ (o : List Nat) (p : List In) (e : Nat), (patchE p o e).length = p.length
  | [], _, _ => rfl
  | x :: r, p, e => by unfold patchE; rw [patchE_len r, putA_len]
mutual
theorem emitP_len : ∀ (t : RT) (p : List In), p.length ≤ (emitP p t).length ∧ (emitP p t).length ≤ p.length + costT t
  | .node k kids S, p => by
    have h1 := catP_len kids p
    have h2 := altP_len kids p []
    have h3 := oneP_len kids p
    have h4 := oneP_len kids (p ++ [⟨2, noS, p.length + 1, 0⟩])
    rw [List.length_append, List.length_singleton] at h4
    unfold emitP costT
    split
    · rw [List.length_append, List.length_singleton]; omega
    split
    · omega
    split
    · rw [patchE_len]; omega
    split
    · rw [List.length_append, List.length_singleton]; omega
    split
    · rw [putB_len, List.length_append, List.length_singleton]; omega
    · rw [putB_len]; omega
theorem catP_len : ∀ (l : List RT) (p : List In), p.length ≤ (catP p l).length ∧ (catP p l).length ≤ p.length + costsT l
  | [], p => by unfold catP costsT; omega
  | a :: r, p => by
    unfold catP costsT
    have h1 := emitP_len a p
    have h2 := catP_len r (emitP p a)
    omega
theorem altP_len : ∀ (l : List RT) (p : List In) (o : List Nat), p.length ≤ (altP p o l).1.length ∧ (altP p o l).1.length ≤ p.length + costsT l
  | [], p, o => by unfold altP costsT; simp
  | a :: r, p, o => by
    unfold altP costsT
    split
    · have h1 := emitP_len a p
      have h2 := altP_len r (emitP p a) o
      omega
    · have h1 := emitP_len a (p ++ [⟨2, noS, p.length + 1, 0⟩])
      have h2 := altP_len r (putB (emitP (p ++ [⟨2, noS, p.length + 1, 0⟩]) a ++ [⟨3, noS, 0, 0⟩]) p.length ((emitP (p ++ [⟨2, noS, p.length + 1, 0⟩]) a).length + 1)) (o ++ [(emitP (p ++ [⟨2, noS, p.length + 1, 0⟩]) a).length])
      rw [putB_len, List.length_append, List.length_singleton] at h2
      rw [List.length_append, List.length_singleton] at h1
      omega
theorem oneP_len : ∀ (l : List RT) (p : List In), p.length ≤ (oneP p l).length ∧ (oneP p l).length ≤ p.length + costsT l
  | [], p => by unfold oneP costsT; omega
  | a :: r, p => by
    unfold oneP costsT
    have h1 := emitP_len a p
    omega
end
end Go.Proofs.YtnnfhcbopchodaaDoor
