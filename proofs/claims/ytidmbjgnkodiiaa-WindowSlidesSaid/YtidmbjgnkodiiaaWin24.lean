/- A region that draws its order, whose loads hold till their own store comes up; one label, reached by a jump or by falling through. -/
import Derived.Test.YtidmbjgnkodiiaaWin23
import Derived.OrdersHeld
import Derived.ScopeJumps
import Derived.Deep.RegionHeld3
import Derived.Outline
namespace Go.Proofs.Ytidmbjgnkodiiaa
open Go Go.RowKit
set_option linter.unusedVariables false
set_option linter.unusedSimpArgs false
section
variable {P : Program} {ops : Array Oper} {Q : Exit → Act → World → Prop} {md : Region.Mode} {T : Array Bool → World → Prop}
/-- What has come up waits for nothing that has not. -/
def Closed (md : Region.Mode) (ops : Array Oper) (d : Array Bool) : Prop := ∀ j o, ops[j]? = some o → d.getD j true = true → j < d.size → ∀ e ∈ o.after, Region.binds md e = true → d.getD e.on false = true
theorem closed_set {d : Array Bool} {k : Nat} (h : Closed md ops d) (hk : k ∈ Region.ready md ops d) : Closed md ops (d.setIfInBounds k true) := by
  intro j o ho hj hlt e he hb
  rw [Array.size_setIfInBounds] at hlt
  by_cases hjk : k = j
  · subst hjk
    obtain ⟨-, o', ho', hall⟩ := mem_ready.1 hk
    rw [ho] at ho'
    injection ho' with ho'
    subst ho'
    exact getD_set_true (hall e he hb)
  · rw [getD_set_ne true hjk] at hj
    exact getD_set_true (h j o ho hj hlt e he hb)
theorem closed_none (n : Nat) : Closed md ops (Array.replicate n false) := by
  intro j o ho hj hlt
  rw [Array.size_replicate] at hlt
  simp [hlt] at hj
/-- Every order from here on, where T of what has come up and of the world holds behind each operation. -/
def anyT (P : Program) (md : Region.Mode) (ops : Array Oper) (Q : Exit → Act → World → Prop) (T : Array Bool → World → Prop) : Nat → Array Bool → Act → World → Prop
  | 0, d, a, w => Closed md ops d → Region.ready md ops d = [] ∧ Q .normal a w
  | n + 1, d, a, w => Closed md ops d → (Region.ready md ops d = [] → Q .normal a w) ∧
      ∀ k ∈ Region.ready md ops d, wpOp P ops Q k (fun b v => T (d.setIfInBounds k true) v ∧ anyT P md ops Q T n (d.setIfInBounds k true) b v) a w
theorem anyT_any (n : Nat) : ∀ (d : Array Bool) (a : Act) (w : World), Closed md ops d → anyT P md ops Q T n d a w → wpAny P md ops Q n d a w := by
  induction n with
  | zero => exact fun _ _ _ hc h => h hc
  | succ n ih => exact fun d a w hc h => ⟨(h hc).1, fun k hk => wpOp_mono (fun b v hb => ih _ b v (closed_set hc hk) hb.2) ((h hc).2 k hk)⟩
/-- What T tells of a world while operation i is still to come. -/
def Till (md : Region.Mode) (ops : Array Oper) (T : Array Bool → World → Prop) (i : Nat) (w : World) : Prop := ∃ d, Closed md ops d ∧ i ∈ Region.ready md ops d ∧ T d w
theorem anyT_step {i : Nat} {oi : Oper} {v : Value} (hi : ops[i]? = some oi) (hsel : Region.noSelect ops = true) (hQ : ∀ c b u, Q (.panic c) (b.put oi.dst v) u → Q (.panic c) b u)
    (hT : ∀ d u, T (d.setIfInBounds i true) u ↔ T d u) (n : Nat) : ∀ (d : Array Bool) (a : Act) (w : World),
      (∀ j oj, ops[j]? = some oj → j ≠ i → d.getD j true = false → (∀ e ∈ oj.after, Region.binds md e = true → e.on ≠ i) → oi.apart ops oj = true) →
      i ∈ Region.ready md ops d → YieldsIf P ops (Till md ops T i) oi v a → T d w → anyT P md ops Q T n (d.setIfInBounds i true) (a.put oi.dst v) w → anyT P md ops Q T (n + 1) d a w := by
  have hs := Region.noSelect_spec hsel
  induction n with
  | zero =>
    intro d a w _ hr hy hw hn hc
    refine ⟨fun h0 => by simp [h0] at hr, fun k hk => ?_⟩
    by_cases hki : k = i
    · rw [hki]; exact hy.wpOp hi ⟨d, hc, hr, hw⟩ ⟨(hT d w).2 hw, hn⟩
    · have := ready_mono hk hki
      rw [(hn (closed_set hc hr)).1] at this
      cases this
  | succ n ih =>
    intro d a w hap hr hy hw hn hc
    refine ⟨fun h0 => by simp [h0] at hr, fun k hk => ?_⟩
    by_cases hki : k = i
    · rw [hki]; exact hy.wpOp hi ⟨d, hc, hr, hw⟩ ⟨(hT d w).2 hw, hn⟩
    · obtain ⟨hun, ok, hok, haft⟩ := mem_ready.1 hk
      have hw1 : ∀ e ∈ ok.after, Region.binds md e = true → e.on ≠ i := by
        intro e he hb hE
        have a1 := haft e he hb
        have a2 := (mem_ready.1 hr).1
        rw [hE] at a1
        by_cases hlt : i < d.size
        · simp [hlt] at a1 a2
          rw [a1] at a2
          cases a2
        · simp [Array.getElem?_eq_none (Nat.le_of_not_lt hlt)] at a1
      have hgo := wpOp_putIf hok (hap k ok hok hki hun hw1) (fun cs b => hs i oi cs b hi) (fun cs b => hs k ok cs b hok) hQ hy ((hn (closed_set hc hr)).2 k (ready_mono hk hki))
      refine wpOp_mono (fun b u hb => ?_) hgo
      obtain ⟨hb1, hb2, hb3⟩ := hb
      rw [Array.setIfInBounds_comm _ _ (Ne.symm hki)] at hb2 hb3
      have hu := (hT _ u).1 hb2
      refine ⟨hu, ih _ b u (fun m om hm hmi hmu hmo => hap m om hm hmi ?_ hmo) (ready_mono hr (Ne.symm hki)) hb1 hu hb3⟩
      by_cases hkm : k = m
      · rw [← hkm]; exact hun
      · rwa [getD_set_ne true hkm] at hmu
theorem anyT_take {i : Nat} {oi : Oper} {v : Value} {n : Nat} {d : Array Bool} {a : Act} {w : World} (hi : ops[i]? = some oi) (hsel : Region.noSelect ops = true) (hf : Region.free md ops d i = true)
    (hr : (Region.ready md ops d).contains i = true) (hQ : ∀ c b u, Q (.panic c) (b.put oi.dst v) u → Q (.panic c) b u) (hT : ∀ d u, T (d.setIfInBounds i true) u ↔ T d u) (hy : YieldsIf P ops (Till md ops T i) oi v a) (hw : T d w)
    (h : anyT P md ops Q T n (d.setIfInBounds i true) (a.put oi.dst v) w) : anyT P md ops Q T (n + 1) d a w :=
  anyT_step hi hsel hQ hT n d a w (Region.free_spec hi hf) (by simpa using hr) hy hw h
theorem anyT_done {d : Array Bool} {a : Act} {w : World} (hr : Region.ready md ops d = []) (h : Q .normal a w) (n : Nat) : anyT P md ops Q T n d a w := by
  cases n with
  | zero => exact fun _ => ⟨hr, h⟩
  | succ n => exact fun _ => ⟨fun _ => h, fun k hk => by rw [hr] at hk; cases hk⟩
/-- One operation alone may come up. -/
theorem anyT_one {k : Nat} {o : Oper} {n : Nat} {d : Array Bool} {a : Act} {w : World} (hr : Region.ready md ops d = [k]) (ho : ops[k]? = some o)
    (h : ∀ K : Act → World → Prop, Shut (∀ b v, T (d.setIfInBounds k true) v → (T (d.setIfInBounds k true) v → anyT P md ops Q T n (d.setIfInBounds k true) b v) → K b v) → if Region.wanted o (yielded ops a.tmps) = true then Oper.wp P o a w K Q else K (a.put o.dst undef) w) :
    anyT P md ops Q T (n + 1) d a w := by
  intro _
  refine ⟨fun h0 => (by rw [hr] at h0; cases h0), fun j hj => ?_⟩
  rw [hr, List.mem_singleton] at hj
  subst hj
  exact wpOp_step ho fun K hK => h K fun b v hv hb => hK b v ⟨hv, hb hv⟩
/-- Two may come up. -/
theorem anyT_two {k l : Nat} {o p : Oper} {n : Nat} {d : Array Bool} {a : Act} {w : World} (hr : Region.ready md ops d = [k, l]) (ho : ops[k]? = some o) (hp : ops[l]? = some p)
    (h : ∀ K : Act → World → Prop, Shut (∀ b v, T (d.setIfInBounds k true) v → (T (d.setIfInBounds k true) v → anyT P md ops Q T n (d.setIfInBounds k true) b v) → K b v) → if Region.wanted o (yielded ops a.tmps) = true then Oper.wp P o a w K Q else K (a.put o.dst undef) w)
    (h' : ∀ K : Act → World → Prop, Shut (∀ b v, T (d.setIfInBounds l true) v → (T (d.setIfInBounds l true) v → anyT P md ops Q T n (d.setIfInBounds l true) b v) → K b v) → if Region.wanted p (yielded ops a.tmps) = true then Oper.wp P p a w K Q else K (a.put p.dst undef) w) :
    anyT P md ops Q T (n + 1) d a w := by
  intro _
  refine ⟨fun h0 => (by rw [hr] at h0; cases h0), fun j hj => ?_⟩
  rw [hr] at hj
  rcases List.mem_cons.1 hj with hj | hj
  · subst hj
    exact wpOp_step ho fun K hK => h K fun b v hv hb => hK b v ⟨hv, hb hv⟩
  · rw [List.mem_singleton] at hj
    subst hj
    exact wpOp_step hp fun K hK => h' K fun b v hv hb => hK b v ⟨hv, hb hv⟩
theorem wp_region_T (T : Array Bool → World → Prop) {id : Nat} {a : Act} {w : World} (hm : P.follows .mixedOrders = true)
    (h : anyT P .any ops Q T ops.size (Array.replicate ops.size false) a w.drew) : (Code.region id ops true).wp P Q a w := wp_region_any hm (anyT_any _ _ _ _ (closed_none _) h)
end
/-- A label that is reached by a jump or by falling through. -/
theorem wp_jump_fall {P : Program} {Q : Exit → Act → World → Prop} {a : Act} {w : World} {c R : Code} (l : Nat) (J : Act → World → Prop) (m : Act → World → Nat) (hf : findLabel c l = some (.seq .skip R))
    (first : (∀ a w, J a w → R.wp P (Exit.jump l J Q) a w) → c.wp P (Exit.jump l J Q) a w)
    (pass : ∀ a w, J a w → R.wp P (Exit.jump l (fun a' w' => J a' w' ∧ m a' w' < m a w) Q) a w) : (Code.scope c).wp P Q a w := by
  refine wp_scope_jumps l J m hf (first fun a w h => Code.wp_mono (fun e b v hq => ?_) (pass a w h)) (fun a w h => wp_seq (wp_skip (pass a w h)))
  cases e with
  | goto l' => exact ⟨hq.1, hq.2.1⟩
  | normal => exact hq
  | exit id => exact hq
  | ret => exact hq
  | panic ch => exact hq
  | outgrown => exact hq
end Go.Proofs.Ytidmbjgnkodiiaa
