/- A node's pieces: the walk. A node's pieces: the walk. (Printed by gen_gr8.py.) Compile: the walk. (Printed by gen_gr9.py.) (Several texts in one file, by merge.py.) -/
import Derived.Test.YtnnfhcbopchodaaDoorZN3
import Derived.Deep.LoopGhost
import Derived.Deep.AppendLies
namespace Go.Proofs.YtnnfhcbopchodaaDoor
open Go Go.RowKit
set_option linter.unusedVariables false
set_option linter.unusedSimpArgs false
set_option maxRecDepth 100000
theorem SlA.kp_of {α : Type} {enc : α → List Value} {B C : Nat → Prop} {w w' : World} {v : Value} {xs : List α} (h : SlA enc B w v xs) (hk : Kp C w w') (hc : ∀ b, C b → B b) : SlA enc B w' v xs := ⟨Sl.kp (h.mono hc) hk, h.2⟩
theorem get_lt {s : List UInt8} {a : Nat} {c : UInt8} (h : s[a]? = some c) : a < s.length := (List.getElem?_eq_some_iff.1 h).1
theorem braces_adv (s : List UInt8) : ∀ (f fr a : Nat) (ws : List (List UInt8)) (r : List (List UInt8)) (a' : Nat), bracesG s f fr a ws = .ok (r, a') → a < a' ∧ a' ≤ s.length
  | 0, _, _, _, _, _, h => by cases h
  | f + 1, fr, a, ws, r, a', h => by
    unfold bracesG at h
    cases hc : s[a]? with
    | none => rw [hc] at h; cases h
    | some c =>
      have hl := get_lt hc
      rw [hc] at h
      simp only at h
      split at h
      · injection h with h; injection h with h1 h2; omega
      · split at h
        · have := braces_adv s f _ _ _ _ _ h; omega
        · split at h
          · have := braces_adv s f _ _ _ _ _ h; omega
          · cases h
theorem class_adv (s : List UInt8) : ∀ (f a : Nat) (b : Bool) (g : UInt8 → Bool) (r : UInt8 → Bool) (a' : Nat), classG s f a b g = .ok (r, a') → a < a' ∧ a' ≤ s.length
  | 0, _, _, _, _, _, h => by cases h
  | f + 1, a, b, g, r, a', h => by
    unfold classG at h
    cases hc : s[a]? with
    | none => rw [hc] at h; cases h
    | some c =>
      have hl := get_lt hc
      rw [hc] at h
      simp only at h
      split at h
      · injection h with h; injection h with h1 h2; omega
      · split at h
        · cases h
        · split at h
          · cases h2 : s[a + 2]? with
            | none => rw [h2] at h; cases h
            | some p =>
              rw [h2] at h
              simp only at h
              split at h
              · have := class_adv s f _ _ _ _ _ h; omega
              · split at h
                · cases h
                · have := class_adv s f _ _ _ _ _ h; omega
          · have := class_adv s f _ _ _ _ _ h; omega
theorem piece_adv {s : List UInt8} {a : Nat} {c : UInt8} (hc : s[a]? = some c) {p : Pc} {a' : Nat} (h : pieceG s a c = .ok (p, a')) : a < a' ∧ a' ≤ s.length := by
  have hl := get_lt hc
  unfold pieceG at h
  split at h
  · injection h with h; injection h with h1 h2; omega
  · split at h
    · injection h with h; injection h with h1 h2; omega
    · split at h
      · unfold brG at h
        split at h
        · rename_i hb
          injection h with h; injection h with h1 h2
          have := braces_adv _ _ _ _ _ _ _ hb; omega
        · cases h
      · split at h
        · unfold clG at h
          split at h
          · rename_i hb
            injection h with h; injection h with h1 h2
            have := class_adv _ _ _ _ _ _ _ hb; omega
          · cases h
        · split at h
          · injection h with h; injection h with h1 h2; omega
          · cases h
def NodeRes (R : Except Nat (List Pc × Nat)) (ps : List Pc) (at' : Nat) (bad : Int) : Prop :=
  match R with
  | .ok (q, a) => ps = q ∧ at' = a ∧ bad = -1
  | .error b => bad = b
def NodePost (s : ByteArray) (rb : Nat) (w : World) (R : Except Nat (List Pc × Nat)) (e : Ending) (w' : World) : Prop :=
  ∃ (v : Value) (zs : List ZPc) (at' : Nat) (bad : Int), e = .returned v ∧ RB w' rb s at' bad ∧ at' ≤ s.size + 3 ∧ Kp (· = rb) w w' ∧ w'.ownsRow w.heap.size PcT 259 v zs.length (zs.flatMap zpc) ∧ (∀ z ∈ zs, SlA wenc (· < w.heap.size) w' z.1 z.2.words) ∧ NodeRes R (zs.map (·.2)) at' bad
/-- A piece more. -/
theorem node_app {w W w2 X w' : World} {rb N : Nat} {v v' : Value} {zs : List ZPc} {z : ZPc} (hN : w.heap.size = N) (hrb : rb < N) (hkw : Kp (· = rb) w W) (hk : Kp (· = rb) W w2) (hX : Below w2.heap.size w2 X) (ho : W.ownsRow N PcT 259 v zs.length (zs.flatMap zpc)) (hs : ∀ z ∈ zs, SlA wenc (fun b => b < N ∨ v.ownBlock = some b) W z.1 z.2.words)
    (hn : SlA wenc (· < W.heap.size) w2 z.1 z.2.words) (hg : X.grownBy w' v.ownBlock) (hat : v'.ownBlock = v.ownBlock ∨ v'.ownBlock = some X.heap.size) :
    Kp (· = rb) w w' ∧ (∀ y ∈ zs ++ [z], SlA wenc (fun b => b < N ∨ v'.ownBlock = some b) w' y.1 y.2.words) ∧ ∀ {s : ByteArray} {a : Nat} {bad : Int}, RB w2 rb s a bad → RB w' rb s a bad := by
  have hvb : ∀ b, v.ownBlock = some b → N ≤ b ∧ b < W.heap.size := fun b hb => by
    rcases ho.2 with ⟨rfl, -⟩ | ⟨g, cap, cur, rfl, hg, hh, hr⟩
    · cases hb
    · have : g = b := by simpa [Value.ownBlock] using hb
      subst this
      exact ⟨hg, heap_lt hh⟩
  have kX : Kp (fun b => v.ownBlock = some b) w2 w' := (Kp.of_below hX).trans (Kp.of_grown hg (fun b hb => hb))
  have hsz := hk.size
  have hXs := hX.size
  have hws := hkw.size
  have fin : ∀ y : ZPc, SlA wenc (fun b => b < N ∨ v.ownBlock = some b) w2 y.1 y.2.words → SlA wenc (fun b => b < N ∨ v'.ownBlock = some b) w' y.1 y.2.words := by
    intro y hy
    refine ⟨Sl.kp (hy.mono (fun b hb => .inr hb)) kX, fun hx b hb hB => ?_⟩
    have hlt := Sl.lt' wenc_pos hy.1 hx hb
    rcases hB with hB | hB
    · exact hy.2 hx b hb (.inl hB)
    · rcases hat with e | e
      · exact hy.2 hx b hb (.inr (by rw [← e]; exact hB))
      · rw [e] at hB
        injection hB with hB
        omega
  refine ⟨(hkw.trans hk).trans_new kX (fun b hb => .inr (by have := hvb b hb; omega)), ?_, fun h => h.kp kX (fun h => by have := hvb _ h; omega)⟩
  intro y hy
  rcases List.mem_append.1 hy with hy | hy
  · exact fin y ((hs y hy).mono (C := fun b => b < N ∨ v.ownBlock = some b) (fun b hb => hb) |>.kp_of hk (fun b e => .inl (by omega)))
  · rw [List.mem_singleton.1 hy]
    refine fin z (hn.mono (fun b hb => ?_))
    rcases hb with hb | hb
    · omega
    · exact (hvb b hb).2
end Go.Proofs.YtnnfhcbopchodaaDoor
namespace Go.Proofs.YtnnfhcbopchodaaDoor
open Go Go.RowKit
set_option linter.unusedVariables false
set_option linter.unusedSimpArgs false
set_option maxRecDepth 100000
theorem own_slice {w : World} {base : Nat} {e : TypeId} {sz n : Nat} {v : Value} {xs : List Value} (h : w.ownsRow base e sz v n xs) : ∃ a cap, v = .slice a n cap := by
  rcases h.2 with ⟨rfl, rfl⟩ | ⟨g, cap, cur, rfl, hg, hh, hr⟩
  · exact ⟨none, 0, rfl⟩
  · exact ⟨_, cap, rfl⟩
theorem byte0_any (rb : Nat) (s : ByteArray) (at' : Nat) (bad : Int) (w : World) (h : RB w rb s at' bad) (hs : s.size ≤ 4096) (ha : at' ≤ 5000) : Calls Tryd.prog 24 #[.pointer (some ⟨rb, 0, none⟩), .int .i64 0] w fun e w' => e = .returned (.tuple #[.int .u8 (bAt s at').toNat, .bool (decide (at' < s.size))]) ∧ ∃ n, w' = w.drewN n := by
  by_cases hk : at' < s.size
  · rw [decide_eq_true hk]; exact byte_some rb s at' 0 bad w h hk hs
  · rw [decide_eq_false hk, bAt_over s _ (by omega)]; exact byte_none rb s at' 0 bad w h (by omega) hs ha (by decide)
theorem Tryd.stepSlicePc {ops : Array Oper} {rest : List Oper} {o : Oper} {a : Act} {w : World} {Q : Exit → Act → World → Prop} {z : ZPc} (x : Operand) (hg : o.guard = none) (ho : o.op = .buildSlice 58 1 #[(0, x)]) (hx : a.eval x = .agg (zpc z).toArray)
    (h : wpList Tryd.prog ops Q rest (a.put o.dst (.slice (some ⟨w.heap.size, 0, none⟩) 1 1)) (w.alloc (.cells (zpc z).toArray PcT))) : wpList Tryd.prog ops Q (o :: rest) a w := by
  have e : ((#[(0, x)] : Array (Nat × Operand)).map fun (i, x) => (i, a.eval x)).toList = [(0, .agg (zpc z).toArray)] := by
    simp only [List.map_toArray, List.map_cons, List.map_nil, hx]
  have hb := Tryd.buildS z
  rw [← e] at hb
  exact Great.wpList_buildSliceTo hg 58 PcT 1 _ ho w.heap.size rfl o.dst rfl Tryd.underlying58 (zpc z).toArray hb h
theorem Tryd.stepAppendPc {ops : Array Oper} {rest : List Oper} {o : Oper} {a : Act} {w : World} {Q : Exit → Act → World → Prop} {v : Value} {zs : List ZPc} {z : ZPc} {N : Nat} (x y : Operand) (g : Nat) (hg : o.guard = none)
    (ho : o.op = .call { callee := .builtin .append, args := #[x, y], argTypes := #[58, 58] }) (hx : a.eval x = v) (hy : a.eval y = .slice (some ⟨g, 0, none⟩) 1 1) (hown : w.ownsRow N PcT 259 v zs.length (zs.flatMap zpc)) (hb : w.heap[g]? = some (.cells (zpc z).toArray PcT (0, 0)))
    (h1 : z.1.oneCell' = true) (hlen : zs.length ≤ 100000) (hN : N ≤ w.heap.size)
    (h : ∀ v' w', w'.ownsRow N PcT 259 v' (zs ++ [z]).length ((zs ++ [z]).flatMap zpc) → w.grownBy w' v.ownBlock → (v'.ownBlock = v.ownBlock ∨ v'.ownBlock = some w.heap.size) → wpList Tryd.prog ops Q rest (a.put o.dst v') w') : wpList Tryd.prog ops Q (o :: rest) a w := by
  obtain ⟨i0, hi, hz0, hz1, hz2⟩ := info_parts Tryd.infoPcs
  have hcs : (Value.agg (zpc (.slice none 0 0, ⟨0, 0, fun _ => false, []⟩)).toArray).cells.size = 259 := zpc_size _
  refine wpList_append_own_at _ hg x y 58 ho N PcT i0 _ 259 296 Tryd.underlying58 hi hz0 hz1 hz2 hcs (by decide) v zs.length (zs.flatMap zpc) hx hown ⟨g, 0, none⟩ 1 1 (zpc z) hy (by rw [zpc_len]) ?_ (zpc_one h1) (by unfold maxLen; omega) (by omega) hN ?_
  · intro j u hj
    rw [Addr.add_lit, Nat.zero_add, cell_of_row _ _ _ _ _ _ hb, List.getElem?_toArray]
    exact hj
  · intro v' w' ho' hgr _ hat
    refine h v' w' ?_ hgr hat
    rw [List.length_append, List.flatMap_append]
    simpa using ho'
def NJ (s : ByteArray) (rb N : Nat) (w : World) (R : Except Nat (List Pc × Nat)) (gk : Nat) (v : Value) (wr : World) : Prop :=
  ∃ (zs : List ZPc) (ai : Nat) (bad : Int), RB wr rb s ai bad ∧ ai ≤ s.size + 3 ∧ Kp (· = rb) w wr ∧ wr.ownsRow N PcT 259 v zs.length (zs.flatMap zpc) ∧ (∀ z ∈ zs, SlA wenc (fun b => b < N ∨ v.ownBlock = some b) wr z.1 z.2.words) ∧
    ((bad = -1 ∧ ai ≤ s.size ∧ zs.length ≤ ai ∧ s.size + 1 ≤ ai + gk ∧ ∃ f, s.size < ai + f ∧ nodeG s.data.toList f ai (zs.map (·.2)) = R) ∨ (∃ b : Nat, bad = b ∧ R = .error b ∧ zs ≠ []))
set_option maxHeartbeats 4000000 in
theorem node_any (rb : Nat) (s : ByteArray) (a0 : Nat) (w : World) (h : RB w rb s a0 (-1)) (ha0 : a0 ≤ s.size) (hs : s.size ≤ 4096) :
    Calls Tryd.prog 23 #[.pointer (some ⟨rb, 0, none⟩)] w fun e w' => NodePost s rb w (nodeG s.data.toList (s.size + 1) a0 []) e w' := by
  have HR := Lib.hid h
  have HL := Lib.hid (heap_lt h)
  obtain ⟨N, hn⟩ : ∃ n, w.heap.size = n := ⟨_, rfl⟩
  have hrb : rb < N := by have := HL.out; omega
  have HN := Lib.hid hn
  obtain ⟨R, hR⟩ : ∃ R, nodeG s.data.toList (s.size + 1) a0 [] = R := ⟨_, rfl⟩
  rw [hR]
  have HRR := Lib.hid hR
  clear h hn hR
  obtain ⟨i0, hi, hz0, hz1, hz2⟩ := info_parts Tryd.infoPcs
  have HI := Lib.hid hi
  have HI0 := Lib.hid hz0
  have HI1 := Lib.hid hz1
  have HI2 := Lib.hid hz2
  clear hi hz0 hz1 hz2
  go_enter Tryd.func23, Tryd.ntmps23
  go_wp2_with fail
  go_loopg [3] (s.size + 2) (fun gk v wr => NJ s rb N w R gk v wr)
  case atStart => exact ⟨[], a0, -1, HR.out, by omega, Kp.refl _ _, World.ownsRow_nil _ _ _ _, (fun z hz => (by cases hz)), .inl ⟨rfl, ha0, Nat.zero_le _, by omega, s.size + 1, by omega, HRR.out⟩⟩
  case round =>
    obtain ⟨zs, ai, bad, hr, hai, hk, ho, hsl, hcase⟩ := hrel
    have HRW := Lib.hid hr
    have HKW := Lib.hid hk
    have HO := Lib.hid ho
    have HS := Lib.hid hsl
    have HBY := Lib.hid (byte0_any rb s ai bad wr hr hs (by omega))
    clear hr hk ho hsl
    rcases hcase with ⟨rfl, hai2, hzl, hgk, f, hf, hval⟩ | ⟨b, rfl, hRb, hzne⟩
    · obtain ⟨f, rfl⟩ : ∃ k, f = k + 1 := ⟨f - 1, by omega⟩
      have hv := hval
      unfold nodeG at hv
      by_cases hlt : ai < s.size
      · obtain ⟨c, hc⟩ : ∃ c, bAt s ai = c := ⟨_, rfl⟩
        have hget := bAt_some hlt
        have HPI := Lib.hid (fun w' (h : RB w' rb s ai (-1)) => piece_any rb s ai w' h hlt hs)
        rw [decide_eq_true hlt] at HBY
        rw [hc] at HBY hget HPI
        have HGET := Lib.hid hget
        rw [hget] at hv
        simp only at hv
        have e46 : ((c.toNat : Int) == 46) = (c == 46) := gu8_eq c 46 (by decide)
        clear hget hc hval
        by_cases h46 : c = 46
        · rw [if_pos h46] at hv
          have b : (c == 46) = true := by simpa using h46
          rw [b] at e46
          have hv' : (if (zs.map (·.2)).isEmpty = true then Except.error ai else Except.ok (zs.map (·.2), ai)) = R := hv
          clear b h46 hv
          go_wp2_with fail
          refine HBY.out.mono ?_
          rintro e w1 ⟨rfl, m, rfl⟩
          have HR1 := Lib.hid (HRW.out.drewN m)
          have HK1 := Lib.hid (HKW.out.drewN m)
          have HO1 := Lib.hid (show (wr.drewN m).ownsRow N PcT 259 _ _ _ from HO.out)
          obtain ⟨av, cv, rfl⟩ := own_slice HO.out
          by_cases he : zs = []
          · subst he
            have HRE := Lib.hid (show R = .error ai by rw [← hv']; rfl)
            clear hv'
            have c1 := HR1.out.c1
            simp only [List.length_nil] at HO ⊢
            go_wp2_with fail
            refine (fail_any rb s ai ai _ HR1.out).mono ?_
            rintro e w2 ⟨rfl, hr2, hk2⟩
            have HR2 := Lib.hid hr2
            have HK2 := Lib.hid (HK1.out.trans hk2)
            have HO2 := Lib.hid (own_kp HO1.out hk2 (fun b _ hb => by have := HL.out; have := HN.out; omega))
            clear hr2 hk2
            go_wp2_with fail
            go_ret
            exact ⟨_, [], ai, ai, rfl, HR2.out, by omega, HK2.out, by rw [HN.out]; exact HO2.out, fun z hz => (by cases hz), by rw [HRE.out]; rfl⟩
          · have hlz : ((zs.length : Int) == 0) = false := by
              have : zs.length ≠ 0 := fun e => he (List.eq_nil_of_length_eq_zero e)
              rw [beq_eq_false_iff_ne]; omega
            have HRE := Lib.hid (show R = .ok (zs.map (·.2), ai) by
              rw [← hv', if_neg]
              cases zs with
              | nil => exact absurd rfl he
              | cons x r => exact fun h => by cases h)
            have hnl : ¬ zs.length = 0 := fun e => he (List.eq_nil_of_length_eq_zero e)
            clear hv' he
            go_wp2_with fail
            go_ret
            exact ⟨_, zs, ai, -1, rfl, HR1.out, by omega, HK1.out, by rw [HN.out]; exact HO1.out, fun z hz => by rw [HN.out]; exact (HS.out z hz).mono (fun b hb => .inl hb), by rw [HRE.out]; exact ⟨rfl, rfl, rfl⟩⟩
        · rw [if_neg h46] at hv
          have b : (c == 46) = false := by simpa using h46
          rw [b] at e46
          have HV := Lib.hid hv
          clear b h46 hv
          have hd1 : decide ((0 : Int) ≤ -1) = false := by decide
          go_wp2_with fail
          refine HBY.out.mono ?_
          rintro e w1 ⟨rfl, m, rfl⟩
          have HR1 := Lib.hid (HRW.out.drewN m)
          have HK1 := Lib.hid (HKW.out.drewN m)
          have HO1 := Lib.hid (show (wr.drewN m).ownsRow N PcT 259 _ _ _ from HO.out)
          have HS1 := Lib.hid (show ∀ z ∈ zs, SlA wenc (fun b => b < N ∨ _ = some b) (wr.drewN m) z.1 z.2.words from HS.out)
          have c2 := HR1.out.c2
          go_wp2_with fail
          refine (HPI.out _ HR1.out).mono ?_
          rintro e w2 ⟨z, a2, bad2, rfl, hr2, ha2, hk2, hn2, hres⟩
          have HR2 := Lib.hid hr2
          have HK2 := Lib.hid hk2
          have HN2 := Lib.hid hn2
          have HRES := Lib.hid hres
          have HO2 := Lib.hid (own_kp HO1.out hk2 (fun b _ hb => by omega))
          have hz2 : N ≤ w2.heap.size := by have := HK1.out.size; have := HK2.out.size; have := HN.out; omega
          clear hr2 hk2 hn2 hres c2
          go_wp2_with (first
            | (refine Tryd.stepSlicePc (z := z) (.tmp 27) rfl rfl rfl ?_)
            | (refine Tryd.stepAppendPc (v := u3) (zs := zs) (z := z) (.tmp 24) (.tmp 28) w2.heap.size rfl rfl rfl rfl (World.ownsRow.alloc HO2.out _) (heap_new w2 _) (sla_one HN2.out) (by omega) (by simp; omega) ?_
               intro v' w3 hown hgrow hat))
          obtain ⟨hkw3, hs3, hr3⟩ := node_app HN.out hrb HK1.out HK2.out ((Below.refl _ _).alloc (Nat.le_refl _) _) HO1.out HS1.out HN2.out hgrow hat
          go_roundg (gk - 1)
          case measure => omega
          case rel =>
            refine ⟨zs ++ [z], a2, bad2, hr3 HR2.out, ha2, hkw3, hown, hs3, ?_⟩
            have hres := HRES.out
            have hv := HV.out
            cases hp : pieceG s.data.toList ai c with
            | ok q =>
              obtain ⟨p, a⟩ := q
              rw [hp] at hres hv
              obtain ⟨h1, rfl, rfl⟩ := hres
              obtain ⟨h2, h3⟩ := piece_adv HGET.out hp
              have h3 : a2 ≤ s.size := h3
              refine .inl ⟨rfl, h3, by rw [List.length_append]; simp; omega, by omega, f, by omega, ?_⟩
              rw [List.map_append, List.map_singleton, h1]
              exact hv
            | error b =>
              rw [hp] at hres hv
              exact .inr ⟨b, hres, hv.symm, by simp⟩
      · have hv' : (if (zs.map (·.2)).isEmpty = true then Except.error ai else Except.ok (zs.map (·.2), ai)) = R := by
          rw [bAt_none (by omega)] at hv; exact hv
        rw [decide_eq_false hlt, bAt_over s _ (by omega)] at HBY
        clear hv hval
        go_wp2_with fail
        refine HBY.out.mono ?_
        rintro e w1 ⟨rfl, m, rfl⟩
        have HR1 := Lib.hid (HRW.out.drewN m)
        have HK1 := Lib.hid (HKW.out.drewN m)
        have HO1 := Lib.hid (show (wr.drewN m).ownsRow N PcT 259 _ _ _ from HO.out)
        obtain ⟨av, cv, rfl⟩ := own_slice HO.out
        by_cases he : zs = []
        · subst he
          have HRE := Lib.hid (show R = .error ai by rw [← hv']; rfl)
          clear hv'
          have c1 := HR1.out.c1
          simp only [List.length_nil] at HO ⊢
          go_wp2_with fail
          refine (fail_any rb s ai ai _ HR1.out).mono ?_
          rintro e w2 ⟨rfl, hr2, hk2⟩
          have HR2 := Lib.hid hr2
          have HK2 := Lib.hid (HK1.out.trans hk2)
          have HO2 := Lib.hid (own_kp HO1.out hk2 (fun b _ hb => by have := HL.out; have := HN.out; omega))
          clear hr2 hk2
          go_wp2_with fail
          go_ret
          exact ⟨_, [], ai, ai, rfl, HR2.out, by omega, HK2.out, by rw [HN.out]; exact HO2.out, fun z hz => (by cases hz), by rw [HRE.out]; rfl⟩
        · have hlz : ((zs.length : Int) == 0) = false := by
            have : zs.length ≠ 0 := fun e => he (List.eq_nil_of_length_eq_zero e)
            rw [beq_eq_false_iff_ne]; omega
          have HRE := Lib.hid (show R = .ok (zs.map (·.2), ai) by
            rw [← hv', if_neg]
            cases zs with
            | nil => exact absurd rfl he
            | cons x r => exact fun h => by cases h)
          have hnl : ¬ zs.length = 0 := fun e => he (List.eq_nil_of_length_eq_zero e)
          clear hv' he
          go_wp2_with fail
          go_ret
          exact ⟨_, zs, ai, -1, rfl, HR1.out, by omega, HK1.out, by rw [HN.out]; exact HO1.out, fun z hz => by rw [HN.out]; exact (HS.out z hz).mono (fun b hb => .inl hb), by rw [HRE.out]; exact ⟨rfl, rfl, rfl⟩⟩
    · obtain ⟨c, hc⟩ : ∃ c, bAt s ai = c := ⟨_, rfl⟩
      obtain ⟨ok, hok⟩ : ∃ ok, decide (ai < s.size) = ok := ⟨_, rfl⟩
      rw [hc, hok] at HBY
      have e46 : ((c.toNat : Int) == 46) = (c == 46) := gu8_eq c 46 (by decide)
      obtain ⟨q, hq⟩ : ∃ q, (c == 46) = q := ⟨_, rfl⟩
      rw [hq] at e46
      have hlz : ((zs.length : Int) == 0) = false := by
        have : zs.length ≠ 0 := fun e => hzne (List.eq_nil_of_length_eq_zero e)
        rw [beq_eq_false_iff_ne]; omega
      have hnl : ¬ zs.length = 0 := fun e => hzne (List.eq_nil_of_length_eq_zero e)
      have hd1 : decide ((0 : Int) ≤ (b : Int)) = true := by rw [decide_eq_true_iff]; omega
      have HRB := Lib.hid hRb
      obtain ⟨av, cv, rfl⟩ := own_slice HO.out
      clear hc hok hq hRb hzne
      have HFIN : Hid (∀ m e, e = Ending.returned (.slice av zs.length cv) → NodePost s rb w R e (wr.drewN m)) := Lib.hid (fun m e he => ⟨_, zs, ai, b, he, HRW.out.drewN m, hai, HKW.out.drewN m, by rw [HN.out]; exact HO.out, fun z hz => by rw [HN.out]; exact (HS.out z hz).mono (fun b hb => .inl hb), by rw [HRB.out]; rfl⟩)
      cases ok with
      | false =>
        go_wp2_with fail
        refine HBY.out.mono ?_
        rintro e w1 ⟨rfl, m, rfl⟩
        go_wp2_with fail
        go_ret
        exact HFIN.out m _ rfl
      | true =>
        cases q with
        | true =>
          go_wp2_with fail
          refine HBY.out.mono ?_
          rintro e w1 ⟨rfl, m, rfl⟩
          go_wp2_with fail
          go_ret
          exact HFIN.out m _ rfl
        | false =>
          go_wp2_with fail
          refine HBY.out.mono ?_
          rintro e w1 ⟨rfl, m, rfl⟩
          have c2 := (HRW.out.drewN m).c2
          go_wp2_with fail
          go_ret
          exact HFIN.out m _ rfl
end Go.Proofs.YtnnfhcbopchodaaDoor
namespace Go.Proofs.YtnnfhcbopchodaaDoor
open Go Go.RowKit
set_option linter.unusedVariables false
set_option linter.unusedSimpArgs false
set_option maxRecDepth 100000
theorem step_append_at {P : Program} {w : World} {ops : Array Oper} {o : Oper} {a : Act} {K : Act → World → Prop} {Q : Exit → Act → World → Prop} {E : Prop} (hgd : o.guard = none) (s x : Operand) (t : TypeId)
    (ho : o.op = .call { callee := .builtin .append, args := #[s, x], argTypes := #[t, t] })
    (base : Nat) (e : TypeId) (i : TypeInfo) (z : Value) (size bytes : Nat) (ht : P.underlying t = some (.slice e)) (hi : P.info? e = some i) (hz : i.zero = some z)
    (hsize : i.size = size) (hby : i.bytes = bytes) (hzs : z.cells.size = size) (hsz : 0 < size)
    (v : Value) (n : Nat) (xs : List Value) (hs : a.eval s = v) (hown : w.ownsRow base e size v n xs)
    (ad : Addr) (m c : Nat) (news : List Value) (hx : a.eval x = .slice (some ad) m c)
    (hl : news.length = m * size) (hnews : ∀ j u, news[j]? = some u → w.cell? (ad.add j) = some u) (h1 : ∀ u ∈ news, u.oneCell' = true)
    (h63 : n + m ≤ maxLen) (hbytes : (n + m) * bytes ≤ 140737488355328) (hbase : base ≤ w.heap.size)
    (h : ∀ v' w', w'.ownsRow base e size v' (n + m) (xs ++ news) → w.grownBy w' v.ownBlock → (v'.ownBlock = v.ownBlock ∨ v'.ownBlock = some w.heap.size) → K (a.put o.dst v') w') :
    if Region.wanted o (yielded ops a.tmps) = true then Oper.wp P o a w K Q else E := by
  have hw : Region.wanted o (yielded ops a.tmps) = true := by simp [Region.wanted, hgd]
  rw [if_pos hw]
  obtain ⟨v', w', hr, h2, h3, h4, h5⟩ := run_append_own_at (P := P) w base t o.type e i z size bytes ht hi hz hsize hby hzs hsz v n xs hown ad m c news hl hnews h1 h63 hbytes hbase
  unfold Oper.wp execOp
  simp only [ho, resolve, invoke, builtin, Sem.run_bind, Sem.run_pure, Result.andThen_ok, List.map_toArray, List.map_cons, List.map_nil, hs, hx, hr]
  exact h v' w' h2 h3 h5
def venc (v : Value) : List Value := [v]
theorem venc_len (v : Value) : (venc v).length = 1 := rfl
theorem venc_pos (v : Value) : 0 < (venc v).length := Nat.zero_lt_one
/-- A slice that reads as pieces, in no block of B's. -/
def PcsA (B : Nat → Prop) (w : World) (v : Value) (ps : List Pc) : Prop := ∃ zs : List ZPc, zs.map (·.2) = ps ∧ SlA zpc B w v zs ∧ ∀ z ∈ zs, SlA wenc B w z.1 z.2.words
theorem PcsA.kp_of {B C : Nat → Prop} {w w' : World} {v : Value} {ps : List Pc} (h : PcsA B w v ps) (hk : Kp C w w') (hc : ∀ b, C b → B b) : PcsA B w' v ps := by
  obtain ⟨zs, h1, h2, h3⟩ := h
  exact ⟨zs, h1, h2.kp_of hk hc, fun z hz => (h3 z hz).kp_of hk hc⟩
theorem PcsA.mono {B C : Nat → Prop} {w : World} {v : Value} {ps : List Pc} (h : PcsA B w v ps) (hc : ∀ b, C b → B b) : PcsA C w v ps := by
  obtain ⟨zs, h1, h2, h3⟩ := h
  exact ⟨zs, h1, h2.mono hc, fun z hz => (h3 z hz).mono hc⟩
theorem PcsA.new {B : Nat → Prop} {w : World} {v : Value} {ps : List Pc} (h : PcsA B w v ps) : PcsA (fun b => B b ∨ w.heap.size ≤ b) w v ps := by
  obtain ⟨zs, h1, h2, h3⟩ := h
  exact ⟨zs, h1, h2.new zpc_pos, fun z hz => (h3 z hz).new wenc_pos⟩
theorem PcsA.below {B : Nat → Prop} {w w' : World} {v : Value} {ps : List Pc} (h : PcsA B w v ps) (hb : Below w.heap.size w w') : PcsA B w' v ps := h.kp_of (C := fun _ => False) (Kp.of_below hb) (fun _ h => h.elim)
/-- Nodes: each of them is a slice that reads as pieces. -/
def NdsA (B : Nat → Prop) (w : World) (vs : List Value) (g : List (List Pc)) : Prop := vs.length = g.length ∧ ∀ k, k < g.length → PcsA B w (vs.getD k undef) (g.getD k [])
theorem NdsA.kp_of {B C : Nat → Prop} {w w' : World} {vs : List Value} {g : List (List Pc)} (h : NdsA B w vs g) (hk : Kp C w w') (hc : ∀ b, C b → B b) : NdsA B w' vs g := ⟨h.1, fun k hk2 => (h.2 k hk2).kp_of hk hc⟩
theorem NdsA.mono {B C : Nat → Prop} {w : World} {vs : List Value} {g : List (List Pc)} (h : NdsA B w vs g) (hc : ∀ b, C b → B b) : NdsA C w vs g := ⟨h.1, fun k hk2 => (h.2 k hk2).mono hc⟩
theorem NdsA.new {B : Nat → Prop} {w : World} {vs : List Value} {g : List (List Pc)} (h : NdsA B w vs g) : NdsA (fun b => B b ∨ w.heap.size ≤ b) w vs g := ⟨h.1, fun k hk2 => (h.2 k hk2).new⟩
theorem NdsA.snoc {B : Nat → Prop} {w : World} {vs : List Value} {g : List (List Pc)} {v : Value} {ps : List Pc} (h : NdsA B w vs g) (hp : PcsA B w v ps) : NdsA B w (vs ++ [v]) (g ++ [ps]) := by
  refine ⟨by simp [h.1], fun k hk => ?_⟩
  rw [List.length_append, List.length_singleton] at hk
  by_cases hlt : k < g.length
  · rw [List.getD_eq_getElem?_getD, List.getD_eq_getElem?_getD, List.getElem?_append_left (by rw [h.1]; exact hlt), List.getElem?_append_left hlt, ← List.getD_eq_getElem?_getD, ← List.getD_eq_getElem?_getD]
    exact h.2 k hlt
  · obtain rfl : k = g.length := by omega
    rw [List.getD_eq_getElem?_getD, List.getD_eq_getElem?_getD, List.getElem?_append_right (by rw [h.1]; exact Nat.le_refl _), List.getElem?_append_right (Nat.le_refl _), h.1, Nat.sub_self]
    exact hp
/-- A pattern in memory. -/
def GlobAt (w : World) (gb : Nat) (g : List (List Pc)) : Prop := ∃ (nv : Value) (vs : List Value), w.cell? ⟨gb, 0, none⟩ = some nv ∧ Sl venc w nv vs ∧ NdsA (fun _ => False) w vs g
theorem GlobAt.below {w w' : World} {gb : Nat} {g : List (List Pc)} (h : GlobAt w gb g) (hb : Below w.heap.size w w') : GlobAt w' gb g := by
  obtain ⟨nv, vs, h1, h2, h3⟩ := h
  exact ⟨nv, vs, cell_below hb (Nat.le_refl _) h1, h2.below hb (Nat.le_refl _), h3.kp_of (C := fun _ => False) (Kp.of_below hb) (fun _ h => h.elim)⟩
def GB (w : World) (gb : Nat) (v : Value) : Prop := w.heap[gb]? = some (.cells #[v] 57 (0, 0))
section
variable {w w' : World} {gb : Nat} {v : Value} {B : Nat → Prop}
theorem GB.c0 (h : GB w gb v) : w.cell? ⟨gb, 0, none⟩ = some v := by rw [cell_of_row w gb 0 _ _ _ h]; rfl
theorem GB.fz (h : GB w gb v) (i : Nat) : w.frozen? ⟨gb, i, none⟩ = false := frozen_row h
theorem GB.kp (h : GB w gb v) (hk : Kp B w w') (hb : ¬ B gb) : GB w' gb v := hk.heap hb h
theorem GB.put (h : GB w gb v) (u : Value) : GB (w.setCell ⟨gb, 0, none⟩ u) gb u := heap_setCell_at _ h
end
theorem nodeG_adv {s : List UInt8} : ∀ (f a : Nat) (ps : List Pc) (r : List Pc) (a' : Nat), a ≤ s.length → nodeG s f a ps = .ok (r, a') → a ≤ a' ∧ a' ≤ s.length
  | 0, a, ps, r, a', ha, h => by injection h with h; injection h with h1 h2; omega
  | f + 1, a, ps, r, a', ha, h => by
    unfold nodeG at h
    cases hc : s[a]? with
    | none =>
      rw [hc] at h
      simp only at h
      split at h
      · cases h
      · injection h with h; injection h with h1 h2; omega
    | some c =>
      rw [hc] at h
      simp only at h
      split at h
      · split at h
        · cases h
        · injection h with h; injection h with h1 h2; omega
      · cases hp : pieceG s a c with
        | ok q =>
          obtain ⟨p, a2⟩ := q
          rw [hp] at h
          simp only at h
          obtain ⟨h2, h3⟩ := piece_adv hc hp
          have := nodeG_adv f a2 _ r a' h3 h
          omega
        | error b => rw [hp] at h; cases h
theorem own_cap {w : World} {base : Nat} {e : TypeId} {sz n : Nat} {a : Option Addr} {m cap : Nat} {xs : List Value} (h : w.ownsRow base e sz (.slice a m cap) n xs) : n ≤ cap := by
  rcases h.2 with ⟨h1, h2⟩ | ⟨g, cap', cur, h1, hg, hh, hr, -⟩
  · injection h1 with _ h1 h3; omega
  · injection h1 with _ h1 h3; omega
theorem Sl.recap {α : Type} {enc : α → List Value} {w : World} {a : Addr} {n c c' : Nat} {xs : List α} (h : Sl enc w (.slice (some a) n c) xs) (h1 : n ≤ c') (h2 : c' ≤ 9223372036854775807) : Sl enc w (.slice (some a) n c') xs := by
  obtain ⟨a', cap, he, hm, hn, hc⟩ := h
  injection he with h3 h4 h5
  subst h3 h4 h5
  exact ⟨_, c', rfl, ⟨h1, h2⟩, (fun e => by cases e), hc⟩
theorem kp_drew {B : Nat → Prop} {w w' : World} (h : Kp B w.drew w') : Kp B w w' := ⟨h.os, h.tape, h.output, h.size, h.block⟩
theorem own_bd {w : World} {base : Nat} {e : TypeId} {sz n : Nat} {v : Value} {xs : List Value} (h : w.ownsRow base e sz v n xs) {b : Nat} (hb : v.ownBlock = some b) : base ≤ b ∧ b < w.heap.size := by
  rcases h.2 with ⟨rfl, -⟩ | ⟨g, cap, cur, rfl, hg, hh, hr⟩
  · cases hb
  · have : g = b := by simpa [Value.ownBlock] using hb
    subst this
    exact ⟨hg, heap_lt hh⟩
/-- A node more. -/
theorem comp_leaf {w W w2 X w3 : World} {N : Nat} {s : ByteArray} {a2 : Nat} {bad : Int} {nv v' nodev : Value} {vs : List Value} {g : List (List Pc)} {zs : List ZPc} (hN : w.heap.size = N) (hkw : Kp (fun b => b = N ∨ b = N + 1) w W) (hz : N + 2 ≤ W.heap.size) (hk : Kp (· = N) W w2)
    (hX : Below w2.heap.size w2 X) (hgb : GB W (N + 1) nv) (ho : W.ownsRow (N + 2) 58 1 nv vs.length (vs.flatMap venc)) (hnd : NdsA (fun b => b < N + 2 ∨ nv.ownBlock = some b) W vs g)
    (hr2 : RB w2 N s a2 bad) (ho2 : w2.ownsRow W.heap.size PcT 259 nodev zs.length (zs.flatMap zpc)) (hs2 : ∀ z ∈ zs, SlA wenc (· < W.heap.size) w2 z.1 z.2.words)
    (hg : X.grownBy w3 nv.ownBlock) (hat : v'.ownBlock = nv.ownBlock ∨ v'.ownBlock = some X.heap.size) (hown : w3.ownsRow (N + 2) 58 1 v' (vs.length + 1) (vs.flatMap venc ++ [nodev])) :
    RB (w3.setCell ⟨N + 1, 0, none⟩ v') N s a2 bad ∧ GB (w3.setCell ⟨N + 1, 0, none⟩ v') (N + 1) v' ∧ Kp (fun b => b = N ∨ b = N + 1) w (w3.setCell ⟨N + 1, 0, none⟩ v') ∧ N + 2 ≤ (w3.setCell ⟨N + 1, 0, none⟩ v').heap.size ∧
    (w3.setCell ⟨N + 1, 0, none⟩ v').ownsRow (N + 2) 58 1 v' (vs ++ [nodev]).length ((vs ++ [nodev]).flatMap venc) ∧ NdsA (fun b => b < N + 2 ∨ v'.ownBlock = some b) (w3.setCell ⟨N + 1, 0, none⟩ v') (vs ++ [nodev]) (g ++ [zs.map (·.2)]) := by
  have hvb := fun b hb => own_bd ho (b := b) hb
  have kX : Kp (fun b => nv.ownBlock = some b) w2 w3 := (Kp.of_below hX).trans (Kp.of_grown hg (fun b hb => hb))
  have k4 : Kp (· = N + 1) w3 (w3.setCell ⟨N + 1, 0, none⟩ v') := (Kp.refl (· = N + 1) w3).setCell (p := ⟨N + 1, 0, none⟩) (.inl rfl) _
  have hsz := hk.size
  have hXs := hX.size
  have hws := hkw.size
  have hx3 := kX.size
  have h34 := k4.size
  have hgb2 := hgb.kp hk (by omega)
  refine ⟨(hr2.kp kX (fun h => by have := hvb _ h; omega)).kp k4 (by omega), (hgb2.kp kX (fun h => by have := hvb _ h; omega)).put v', ((hkw.trans (hk.mono (fun b _ h => .inl h))).trans_new kX (fun b hb => .inr (by have := hvb b hb; omega))).trans_new k4 (fun b hb => .inl (.inr hb)), by omega, ?_, ?_⟩
  · have := own_kp hown k4 (fun b _ hb => by omega)
    rw [List.length_append, List.flatMap_append]
    exact this
  · have hold : NdsA (fun b => b < N + 2 ∨ nv.ownBlock = some b) w2 vs g := hnd.kp_of hk (fun b e => .inl (by omega))
    have hnew : PcsA (fun b => b < N + 2 ∨ nv.ownBlock = some b) w2 nodev (zs.map (·.2)) := by
      refine ⟨zs, rfl, ⟨Sl.own zpc_len (by decide) ho2, fun _ b hb hB => ?_⟩, fun z hz2 => (hs2 z hz2).mono (fun b hb => ?_)⟩
      · have h1 := own_bd ho2 hb
        rcases hB with hB | hB
        · omega
        · have := hvb b hB; omega
      · rcases hb with hB | hB
        · omega
        · have := hvb b hB; omega
    have h2 := (hold.snoc hnew).new
    have h3 : NdsA (fun b => (b < N + 2 ∨ nv.ownBlock = some b) ∨ w2.heap.size ≤ b) w3 (vs ++ [nodev]) (g ++ [zs.map (·.2)]) := h2.kp_of kX (fun b hb => .inl (.inr hb))
    have h4 := h3.kp_of k4 (fun b hb => .inl (.inl (by omega)))
    refine h4.mono (fun b hb => ?_)
    rcases hb with hb | hb
    · exact .inl (.inl hb)
    · rcases hat with e | e
      · exact .inl (.inr (by rw [← e]; exact hb))
      · rw [e] at hb
        injection hb with hb
        exact .inr (by omega)
theorem results_tmp3 {fn : Func} {t u s : Tmp} (h : fn.results = #[.tmp t, .tmp u, .tmp s]) (tmps : Array Value) (P : Program) (w : World) :
    (results fn tmps).run P w = .ok (.tuple #[tmps.getD t undef, tmps.getD u undef, tmps.getD s undef]) w := by
  simp [results, h]
theorem Tryd.infoSl : (Tryd.prog.info? 58).map (fun i => (i.zero, i.size, i.bytes)) = some (some (.slice none 0 0), 1, 24) := by kernel_rfl
def CompPost (w : World) (R : Except (Nat × Int) (List (List Pc))) (e : Ending) (w' : World) : Prop :=
  Below w.heap.size w w' ∧ match R with
  | .ok g => ∃ gb, e = .returned (.tuple #[.pointer (some ⟨gb, 0, none⟩), .int .i64 0, .int .i64 0]) ∧ GlobAt w' gb g
  | .error (a, er) => e = .returned (.tuple #[.pointer none, .int .i64 a, .int .i64 er])
/-- Where Compile stands. -/
def CJ (s : ByteArray) (N : Nat) (w : World) (R : Except (Nat × Int) (List (List Pc))) (gk : Nat) (wr : World) : Prop :=
  ∃ (ai f : Nat) (nv : Value) (vs : List Value) (g : List (List Pc)), RB wr N s ai (-1) ∧ ai ≤ s.size ∧ s.size < ai + f ∧ s.size + 1 ≤ ai + gk ∧ GB wr (N + 1) nv ∧ Kp (fun b => b = N ∨ b = N + 1) w wr ∧ N + 2 ≤ wr.heap.size ∧ wr.ownsRow (N + 2) 58 1 nv vs.length (vs.flatMap venc) ∧ NdsA (fun b => b < N + 2 ∨ nv.ownBlock = some b) wr vs g ∧
    g.length ≤ 30 ∧ (∀ v ∈ vs, v.oneCell' = true) ∧ nodesG s.data.toList f ai g = R
set_option maxHeartbeats 4000000 in
theorem compile_any (s : ByteArray) (w : World) (hs : s.size ≤ 4096) :
    Calls Tryd.prog 8 #[.string s] w fun e w' => CompPost w (nodesG s.data.toList (s.size + 2) 0 []) e w' := by
  obtain ⟨N, hn⟩ : ∃ n, w.heap.size = n := ⟨_, rfl⟩
  have HN := Lib.hid hn
  obtain ⟨R, hR⟩ : ∃ R, nodesG s.data.toList (s.size + 2) 0 [] = R := ⟨_, rfl⟩
  rw [hR]
  have HRR := Lib.hid hR
  clear hn hR
  have hs2 : decide ((4096 : Int) < (s.size : Int)) = false := by rw [decide_eq_false_iff_not]; omega
  go_enter Tryd.func8, Tryd.ntmps8
  go_wp2_with fail
  rw [HN.out]
  have HR0 := Lib.hid (show RB ((w.alloc (.cells #[.string s, .int .i64 0, .int .i64 (-1)] 54)).alloc (.cells #[.slice none 0 0] 57)) N s 0 (-1) by
    unfold RB
    rw [Below.heap_alloc _ _ _ (by rw [← HN.out]; simp), ← HN.out]
    exact heap_new _ _)
  have HG0 := Lib.hid (show GB ((w.alloc (.cells #[.string s, .int .i64 0, .int .i64 (-1)] 54)).alloc (.cells #[.slice none 0 0] 57)) (N + 1) (.slice none 0 0) by
    have := heap_new (w.alloc (.cells #[.string s, .int .i64 0, .int .i64 (-1)] 54)) (.cells #[.slice none 0 0] 57)
    rw [show (w.alloc (.cells #[.string s, .int .i64 0, .int .i64 (-1)] 54)).heap.size = N + 1 by simp [HN.out]] at this
    exact this)
  have HZ0 := Lib.hid (show N + 2 ≤ ((w.alloc (.cells #[.string s, .int .i64 0, .int .i64 (-1)] 54)).alloc (.cells #[.slice none 0 0] 57)).heap.size by simp; have := HN.out; omega)
  have HK0 := Lib.hid (show Kp (fun b => b = N ∨ b = N + 1) w ((w.alloc (.cells #[.string s, .int .i64 0, .int .i64 (-1)] 54)).alloc (.cells #[.slice none 0 0] 57)) from ((Kp.refl _ _).alloc _).alloc _)
  obtain ⟨W0, hW0⟩ : ∃ W0, W0 = (w.alloc (.cells #[.string s, .int .i64 0, .int .i64 (-1)] 54)).alloc (.cells #[.slice none 0 0] 57) := ⟨_, rfl⟩
  rw [← hW0] at HR0 HG0 HZ0 HK0 ⊢
  clear hW0
  obtain ⟨i0, hi, hz0, hz1, hz2⟩ := info_parts Tryd.infoSl
  have HI := Lib.hid hi
  have HI0 := Lib.hid hz0
  have HI1 := Lib.hid hz1
  have HI2 := Lib.hid hz2
  clear hi hz0 hz1 hz2
  go_loopg [] (s.size + 1) (fun gk wr => CJ s N w R gk wr)
  case atStart => exact ⟨0, s.size + 2, .slice none 0 0, [], [], HR0.out, Nat.zero_le _, by omega, by omega, HG0.out, HK0.out, HZ0.out, World.ownsRow_nil _ _ _ _, ⟨rfl, (fun k hk => (by cases hk))⟩, by decide, (fun v hv => (by cases hv)), HRR.out⟩
  case round =>
    obtain ⟨ai, f, nv, vs, g, hr, hai, hf, hgk, hgb, hk, hz, ho, hnd, hgl, hone, hval⟩ := hrel
    have HRW := Lib.hid hr
    have HGB := Lib.hid hgb
    have HKW := Lib.hid hk
    have HO := Lib.hid ho
    have HND := Lib.hid hnd
    have HV := Lib.hid hval
    have HON := Lib.hid hone
    have hvl : vs.length = g.length := hnd.1
    have HVL := Lib.hid hvl
    have HCALL := Lib.hid (fun w' (h : RB w' N s ai (-1)) => node_any N s ai w' h hai hs)
    have hvs : vs.length ≤ 30 := by omega
    have c0 := hgb.c0
    have hnb1 : some (N + 1) ≠ nv.ownBlock := fun e => by have := own_bd ho e.symm; omega
    clear hr hgb hk ho hnd hval hone hvl
    go_wp2_with fail
    go_region_law
      (first
        | (go_simp
           go_at_call 23
           refine (HCALL.out wr.drew (show RB wr.drew N s ai (-1) from HRW.out)).mono ?_
           rintro e w2 ⟨nodev, zs, a2, bad, rfl, hr2, ha2, hk2, ho2, hs2, hres⟩
           have hk2 := kp_drew hk2
           obtain ⟨av, cv, rfl⟩ := own_slice ho2
           have q2 : w2.cell? ⟨N + 1, 0, none⟩ = some nv := hk2.cell (p := ⟨N + 1, 0, none⟩) (by show ¬ N + 1 = N; omega) c0
           have hlt2 : N + 1 < w2.heap.size := World.block_lt_of_cell? w2 _ q2
           have hne2 : N + 1 ≠ w2.heap.size := by omega)
        | (refine step_append_at rfl (.tmp 21) (.tmp 24) _ rfl (N + 2) 58 i0 _ 1 24 Tryd.underlying55 HI.out HI0.out HI1.out HI2.out rfl (by decide) nv vs.length (vs.flatMap venc) rfl ?_ ⟨w2.heap.size, 0, none⟩ 1 1 [.slice av zs.length cv] rfl rfl ?_ ?_ ?_ ?_ ?_ ?_
           (exact World.ownsRow.alloc (own_kp HO.out hk2 (fun b _ hb => by omega)) _)
           (exact World.news_of_block (heap_new w2 _))
           (intro u hu; simp at hu; rcases hu with rfl; rfl)
           (unfold maxLen; omega)
           (omega)
           (have := hk2.size; simp <;> omega)
           intro v' w3 hown hgrow hat
           have hgb3 : GB w3 (N + 1) nv := ((HGB.out.kp hk2 (by omega)).kp (Kp.of_below (B := fun _ => False) ((Below.refl _ _).alloc (Nat.le_refl _) _)) (fun h => h)).kp (Kp.of_grown (B := fun b => nv.ownBlock = some b) hgrow (fun b hb => hb)) (fun h => hnb1 h.symm)
           have q3 := hgb3.c0
           have qf3 := hgb3.fz 0
           obtain ⟨g', cap', rfl⟩ := own_some hown (Nat.succ_pos _)))
    all_goals
      obtain ⟨hr4, hg4, hk4, hz4, ho4, hn4⟩ := comp_leaf HN.out HKW.out hz hk2 ((Below.refl _ _).alloc (Nat.le_refl _) _) HGB.out HO.out HND.out hr2 ho2 hs2 hgrow hat hown
      obtain ⟨nv4, hnv4⟩ : ∃ nv4, nv4 = Value.slice (some ⟨g', 0, none⟩) (vs.length + 1) cap' := ⟨_, rfl⟩
      have HNV := Lib.hid hnv4
      rw [← hnv4] at hr4 hg4 hk4 hz4 ho4 hn4 ⊢
      obtain ⟨W4, hW4⟩ : ∃ W4, W4 = w3.setCell ⟨N + 1, 0, none⟩ nv4 := ⟨_, rfl⟩
      rw [← hW4] at hr4 hg4 hk4 hz4 ho4 hn4 ⊢
      have c2 := hr4.c2
      have HR4 := Lib.hid hr4
      have HG4 := Lib.hid hg4
      have HK4 := Lib.hid hk4
      have HO4 := Lib.hid ho4
      have HN4 := Lib.hid hn4
      have HRES := Lib.hid hres
      have HB4 := Lib.hid (show Below w.heap.size w W4 from hk4.below (Nat.le_refl _) (fun b hb => by have := HN.out; omega))
      clear hW4 hnv4 hr4 hg4 hk4 ho4 hn4 hres q2 q3 qf3 hown hgrow hat hr2 ho2 hs2 hgb3 c0 hk2
      obtain ⟨f, rfl⟩ : ∃ k, f = k + 1 := ⟨f - 1, by omega⟩
      have hv := HV.out
      unfold nodesG at hv
      have hre := HRES.out
      rw [show s.data.toList.length + 1 = s.size + 1 from rfl] at hv
      cases hq : nodeG s.data.toList (s.size + 1) ai [] with
      | error b =>
        rw [hq] at hv hre
        obtain rfl : bad = (b : Int) := hre
        have HRE := Lib.hid (show R = .error (b, 2) from hv.symm)
        have hd : decide ((0 : Int) ≤ (b : Int)) = true := by rw [decide_eq_true_iff]; omega
        clear hq hv
        go_wp2_with fail
        go_quiet (fail)
        go_wp2_with fail
        refine bodyPost_ret (results_tmp3 rfl _ _ _) rfl ⟨below_drewN HB4.out _, ?_⟩
        rw [HRE.out]
        rfl
      | ok q =>
        obtain ⟨ps, a⟩ := q
        rw [hq] at hv hre
        obtain ⟨hps, rfl, rfl⟩ := hre
        obtain ⟨hadv, hale⟩ := nodeG_adv _ _ _ _ _ (show ai ≤ s.data.toList.length from hai) hq
        have hale : a2 ≤ s.size := hale
        have HPS := Lib.hid hps
        have HV5 := Lib.hid hv
        have hd : decide ((0 : Int) ≤ -1) = false := by decide
        have HBY := Lib.hid (byte0_any N s a2 (-1) W4 HR4.out hs (by omega))
        clear hq hv hps
        by_cases hlt : a2 < s.size
        · have hv5 := HV5.out
          simp only [bAt_some hlt] at hv5
          have HV6 := Lib.hid hv5
          rw [decide_eq_true hlt] at HBY
          clear hv5
          go_wp2_with fail
          refine HBY.out.mono ?_
          rintro e w5 ⟨rfl, m, rfl⟩
          have c1 := (HR4.out.drewN m).c1
          have f1 := (HR4.out.drewN m).fz 1
          have k5 := ((Kp.refl (· = N) W4).drewN m).setCell (p := ⟨N, 1, none⟩) (.inl rfl) (.int .i64 ((a2 : Int) + 1))
          have HK5 := Lib.hid k5
          have HR5 := Lib.hid (show RB ((W4.drewN m).setCell ⟨N, 1, none⟩ (.int .i64 ((a2 : Int) + 1))) N s (a2 + 1) (-1) from (HR4.out.drewN m).put1 (a2 + 1))
          have HG5 := Lib.hid (HG4.out.kp k5 (by omega))
          have g0 := HG5.out.c0
          have r0 := HR5.out.c1
          have hl31 : (vs.length : Int) + 1 = (g.length : Int) + 1 := by rw [HVL.out]
          rw [HNV.out] at g0
          clear k5
          have HZ5 := Lib.hid (show N + 2 ≤ ((W4.drewN m).setCell ⟨N, 1, none⟩ (.int .i64 ((a2 : Int) + 1))).heap.size by simpa using hz4)
          have HO5 := Lib.hid (own_kp HO4.out HK5.out (fun b _ hb => by omega))
          have HN5 := Lib.hid (HN4.out.kp_of HK5.out (fun b hb => .inl (by omega)))
          have hgl4 : (g ++ [ps]).length = vs.length + 1 := by rw [List.length_append, HVL.out]; rfl
          by_cases h31 : vs.length = 30
          · have b1 : ((vs.length : Int) + 1 == 31) = true := by rw [h31]; rfl
            have HRE := Lib.hid (show R = .error (a2 + 1, 6) by rw [← HV6.out, if_pos (by rw [hgl4, h31])])
            clear h31 hgl4 hl31
            go_wp2_with fail
            go_quiet (fail)
            go_wp2_with fail
            refine bodyPost_ret (results_tmp3 rfl _ _ _) rfl ⟨below_drewN (HB4.out.trans (HK5.out.below (by have := HK4.out.size; omega) (fun b hb => by have := HN.out; omega))) _, ?_⟩
            rw [HRE.out]
            rfl
          · have b1 : ((vs.length : Int) + 1 == 31) = false := by rw [beq_eq_false_iff_ne]; omega
            have HRE := Lib.hid (show nodesG s.data.toList f (a2 + 1) (g ++ [ps]) = R by rw [← HV6.out, if_neg (by rw [hgl4]; omega)])
            have HGL := Lib.hid (show (g ++ [ps]).length ≤ 30 by rw [hgl4]; omega)
            clear h31 hgl4 hl31
            go_wp2_with fail
            go_roundg (gk - 1)
            case measure => omega
            case rel =>
              refine ⟨a2 + 1, f, nv4, vs ++ [.slice av zs.length cv], g ++ [ps], HR5.out, by omega, by omega, by omega, HG5.out, HK4.out.trans (HK5.out.mono (fun b _ h => .inl h)), HZ5.out, HO5.out, by rw [← HPS.out]; exact HN5.out, HGL.out, ?_, HRE.out⟩
              intro v hv
              rcases List.mem_append.1 hv with hv | hv
              · exact HON.out v hv
              · rw [List.mem_singleton.1 hv]; rfl
        · have hv5 := HV5.out
          simp only [bAt_none (s := s) (i := a2) (by omega)] at hv5
          have HRE := Lib.hid (show R = .ok (g ++ [ps]) from hv5.symm)
          rw [decide_eq_false hlt] at HBY
          clear hv5
          go_wp2_with fail
          refine HBY.out.mono ?_
          rintro e w5 ⟨rfl, m, rfl⟩
          have g0 : (W4.drewN m).cell? ⟨N + 1, 0, none⟩ = some (.slice (some ⟨g', 0, none⟩) (vs.length + 1) cap') := by rw [← HNV.out]; exact HG4.out.c0
          have qf0 : (W4.drewN m).frozen? ⟨N + 1, 0, none⟩ = false := HG4.out.fz 0
          obtain ⟨W5, hW5⟩ : ∃ W5, W5 = W4.drewN m := ⟨_, rfl⟩
          have HG5 := Lib.hid (show GB W5 (N + 1) nv4 by rw [hW5]; exact HG4.out)
          have HK5 := Lib.hid (show Kp (fun b => b = N ∨ b = N + 1) w W5 by rw [hW5]; exact HK4.out.drewN m)
          have HO5 := Lib.hid (show W5.ownsRow (N + 2) 58 1 nv4 (vs ++ [Value.slice av zs.length cv]).length ((vs ++ [Value.slice av zs.length cv]).flatMap venc) by rw [hW5]; exact HO4.out)
          have HN5 := Lib.hid (show NdsA (fun b => b < N + 2 ∨ nv4.ownBlock = some b) W5 (vs ++ [Value.slice av zs.length cv]) (g ++ [zs.map (·.2)]) by rw [hW5]; exact HN4.out.kp_of ((Kp.refl (fun _ => False) W4).drewN m) (fun _ h => h.elim))
          rw [← hW5] at g0 qf0 ⊢
          clear hW5
          have hcap : vs.length + 1 ≤ cap' := by
            have h1 := HO5.out
            rw [HNV.out] at h1
            have := own_cap h1
            simpa using this
          have hcap1 : (0 : Int) ≤ (vs.length : Int) + 1 := by omega
          have hcap2 : (vs.length : Int) + 1 ≤ (cap' : Int) := by omega
          have HFIN : Hid (∀ wf, Kp (fun _ => False) W5 wf → CompPost w R (.returned (.tuple #[.pointer (some ⟨N + 1, 0, none⟩), .int .i64 0, .int .i64 0])) (wf.setCell ⟨N + 1, 0, none⟩ (.slice (some ⟨g', 0, none⟩) (vs.length + 1) (vs.length + 1)))) := Lib.hid (fun wf hkf => by
            have k6 : Kp (· = N + 1) W5 (wf.setCell ⟨N + 1, 0, none⟩ (.slice (some ⟨g', 0, none⟩) (vs.length + 1) (vs.length + 1))) := (hkf.mono (C := (· = N + 1)) (fun _ _ h => h.elim)).setCell (p := ⟨N + 1, 0, none⟩) (.inl rfl) _
            refine ⟨(HK5.out.trans (k6.mono (fun b _ h => .inr h))).below (Nat.le_refl _) (fun b hb => by have := HN.out; omega), ?_⟩
            rw [HRE.out]
            refine ⟨N + 1, rfl, .slice (some ⟨g', 0, none⟩) (vs.length + 1) (vs.length + 1), vs ++ [.slice av zs.length cv], ((HG5.out.kp hkf (fun h => h)).put _).c0, ?_, ?_⟩
            · have h1 := own_kp HO5.out k6 (fun b _ hb => by omega)
              rw [HNV.out] at h1
              have h2 := Sl.own venc_len (by decide) h1
              refine Sl.recap h2 ?_ ?_
              · simp
              · have := HVL.out; simp; omega
            · have h1 := HN5.out.kp_of k6 (fun b hb => .inl (by omega))
              rw [← HPS.out]
              exact h1.mono (fun _ h => h.elim))
          go_wp2_with fail
          go_region_law (fail)
          all_goals
            go_wp2_with fail
            refine bodyPost_ret (results_tmp3 rfl _ _ _) rfl ?_
            exact HFIN.out W5.drew ((Kp.refl _ W5).drewN 1)
end Go.Proofs.YtnnfhcbopchodaaDoor
