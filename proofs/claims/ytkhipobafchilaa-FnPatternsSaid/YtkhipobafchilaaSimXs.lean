/- Drawing regions in which all that changes the heap stands in one order: they run as they are written. Lemmas only; no condition. -/
import Derived.Test.YtkhipobafchilaaSimXc
import Derived.Test.YtkhipobafchilaaSimW
set_option linter.unusedSimpArgs false
set_option linter.unusedVariables false
namespace Go.Proofs.Ytkhipobafchilaa.Sim
open Go Go.RowKit

variable {P : Program} {ro : Nat} {B : Base} {X : Ext}
/-- Operations that leave the heap alone, whatever is called. -/
def stillOp : Op → Bool
  | .call ⟨.value _, _, _⟩ => false
  | op => quietOp op
theorem still_quiet {op : Op} (hq : stillOp op = true) : quietOp op = true := by
  cases op with
  | call c =>
    obtain ⟨callee, args, ts⟩ := c
    cases callee with
    | value x => simp only [stillOp, Bool.false_eq_true] at hq
    | _ => exact hq
  | _ => exact hq
theorem still_eq {C : Fns} {op : Op} {e : Env} {h : Heap} (hq : stillOp op = true) : aop P ro C op e h = aop P ro (keeps C) op e h := by
  cases op with
  | call c =>
    obtain ⟨callee, args, ts⟩ := c
    cases callee with
    | value x => simp only [stillOp, Bool.false_eq_true] at hq
    | _ => rfl
  | _ => rfl
theorem still_heap {C : Fns} {op : Op} {e : Env} {h h' : Heap} {v : Value} (hq : stillOp op = true) (ha : aop P ro C op e h = some (v, h')) : h' = h := by
  rw [still_eq hq] at ha
  exact quiet_heap (still_quiet hq) ha
def loudAt (ops : Array Oper) (i : Nat) : Bool := match ops[i]? with | some o => !stillOp o.op | none => false
def strictG (P : Program) (ops : Array Oper) (ex : Nat → Nat → Bool) : Bool :=
  let m := befs ops.toList []
  (List.range ops.size).all fun i => match ops[i]? with
    | none => true
    | some o => ((edgesOf o).all fun e => Region.binds .any e && decide (e.on < i)) &&
      (List.range ops.size).all fun j => match ops[j]? with
        | none => true
        | some p => i == j || ordB m i j || ordB m j i || (!(clash ops o p) && (stillOp o.op || (stillOp p.op && (deafOp P p.op || ex i j))))
def strictB (P : Program) (ops : Array Oper) : Bool := strictG P ops fun _ _ => false
/-- One operation of a run. -/
def stp (P : Program) (ro : Nat) (C : Fns) (ops : Array Oper) (o : Oper) (e : Env) (h : Heap) : Value × Heap :=
  if wants ops e o then (aop P ro C o.op e h).getD (undef, h) else (undef, h)
/-- A run, so many operations of it. -/
def rn (P : Program) (ro : Nat) (C : Fns) (ops : Array Oper) (e : Env) (h : Heap) : Nat → Env × Heap
  | 0 => (e, h)
  | n + 1 => match ops[n]? with
    | some o => (updO (rn P ro C ops e h n).1 o.dst (stp P ro C ops o (rn P ro C ops e h n).1 (rn P ro C ops e h n).2).1, (stp P ro C ops o (rn P ro C ops e h n).1 (rn P ro C ops e h n).2).2)
    | none => rn P ro C ops e h n
theorem run_steps {C : Fns} {ops : Array Oper} {e : Env} {h : Heap} {q : Env × Heap} (hr : Sim.aops P ro C ops ops.toList e h = some q) :
    (∀ (i : Nat) (o : Oper), ops[i]? = some o → ((wants ops (rn P ro C ops e h i).1 o = true ∧ aop P ro C o.op (rn P ro C ops e h i).1 (rn P ro C ops e h i).2 = some ((stp P ro C ops o (rn P ro C ops e h i).1 (rn P ro C ops e h i).2).1, (rn P ro C ops e h (i + 1)).2)) ∨
      (wants ops (rn P ro C ops e h i).1 o = false ∧ (stp P ro C ops o (rn P ro C ops e h i).1 (rn P ro C ops e h i).2).1 = undef ∧ (rn P ro C ops e h (i + 1)).2 = (rn P ro C ops e h i).2))) ∧ rn P ro C ops e h ops.size = q := by
  let E := fun n => (rn P ro C ops e h n).1
  let H := fun n => (rn P ro C ops e h n).2
  let V := fun n => match ops[n]? with | some o => (stp P ro C ops o (E n) (H n)).1 | none => undef
  have succ : ∀ n o, ops[n]? = some o → E (n + 1) = updO (E n) o.dst (V n) ∧ H (n + 1) = (stp P ro C ops o (E n) (H n)).2 := by
    intro n o ho
    simp only [E, H, V, rn, ho]
    refine ⟨?_, ?_⟩ <;> first | rfl | trivial
  have key : ∀ (l : List Oper) (k : Nat), k + l.length = ops.size → (∀ i o, l[i]? = some o → ops[k + i]? = some o) → Sim.aops P ro C ops l (E k) (H k) = some q →
      (∀ i o, l[i]? = some o → ((wants ops (E (k + i)) o = true ∧ aop P ro C o.op (E (k + i)) (H (k + i)) = some (V (k + i), H (k + i + 1))) ∨ (wants ops (E (k + i)) o = false ∧ V (k + i) = undef ∧ H (k + i + 1) = H (k + i)))) ∧ (E ops.size, H ops.size) = q := by
    intro l
    induction l with
    | nil =>
      intro k hk _ hr
      simp only [Sim.aops, Option.some.injEq] at hr
      simp at hk
      exact ⟨fun i o ho => by simp at ho, by rw [← hk]; exact hr⟩
    | cons o r ih =>
      intro k hk hl hr
      have ho : ops[k]? = some o := hl 0 o rfl
      obtain ⟨s1, s2⟩ := succ k o ho
      have hV : V k = (stp P ro C ops o (E k) (H k)).1 := by simp only [V, ho]
      simp only [Sim.aops] at hr
      have step : ((wants ops (E k) o = true ∧ aop P ro C o.op (E k) (H k) = some (V k, H (k + 1))) ∨ (wants ops (E k) o = false ∧ V k = undef ∧ H (k + 1) = H k)) ∧ Sim.aops P ro C ops r (E (k + 1)) (H (k + 1)) = some q := by
        by_cases hw : wants ops (E k) o = true
        · rw [if_pos hw] at hr
          simp only [Option.bind_eq_some_iff] at hr
          obtain ⟨⟨v, h2⟩, hop, hr⟩ := hr
          have e1 : stp P ro C ops o (E k) (H k) = (v, h2) := by
            unfold stp
            rw [if_pos hw, hop]; rfl
          rw [e1] at hV s2
          rw [s1, s2, hV]
          exact ⟨.inl ⟨hw, hop⟩, hr⟩
        · rw [if_neg hw] at hr
          have e1 : stp P ro C ops o (E k) (H k) = (undef, H k) := by
            unfold stp
            rw [if_neg hw]
          rw [e1] at hV s2
          rw [s1, s2, hV]
          refine ⟨.inr ⟨by simpa using hw, ?_, ?_⟩, hr⟩ <;> first | rfl | trivial
      have hk' : k + 1 + r.length = ops.size := by simp at hk; omega
      obtain ⟨i1, i2⟩ := ih (k + 1) hk' (fun i p hp => by rw [show k + 1 + i = k + (i + 1) by omega]; exact hl (i + 1) p (by simpa using hp)) step.2
      refine ⟨fun i p hp => ?_, i2⟩
      cases i with
      | zero => simp at hp; subst hp; exact step.1
      | succ i =>
        have := i1 i p (by simpa using hp)
        rw [show k + 1 + i = k + (i + 1) by omega] at this
        exact this
  obtain ⟨k1, k2⟩ := key ops.toList 0 (by simp) (fun i o ho => by rw [Nat.zero_add]; simpa using ho) hr
  refine ⟨fun i o ho => ?_, by rw [← k2]⟩
  have := k1 i o (by simpa using ho)
  rw [Nat.zero_add] at this
  have hV : V i = (stp P ro C ops o (E i) (H i)).1 := by simp only [V, ho]
  rw [hV] at this
  exact this
theorem rn_succ {C : Fns} {ops : Array Oper} {e : Env} {h : Heap} {n : Nat} {o : Oper} (ho : ops[n]? = some o) : (rn P ro C ops e h (n + 1)).1 = updO (rn P ro C ops e h n).1 o.dst (stp P ro C ops o (rn P ro C ops e h n).1 (rn P ro C ops e h n).2).1 := by simp only [rn, ho]
theorem rn_still {C : Fns} {ops : Array Oper} {e : Env} {h : Heap} {q : Env × Heap} (hr : Sim.aops P ro C ops ops.toList e h = some q) : ∀ i, loudAt ops i = false → (rn P ro C ops e h (i + 1)).2 = (rn P ro C ops e h i).2 := by
  intro i hi
  cases ho : ops[i]? with
  | none => simp only [rn, ho]
  | some o =>
    unfold loudAt at hi
    rw [ho] at hi
    simp only [Bool.not_eq_false'] at hi
    rcases (run_steps hr).1 i o ho with ⟨_, h1⟩ | ⟨_, _, h1⟩
    · exact still_heap hi h1
    · exact h1
theorem dynRun_gen {C : Fns} {ops : Array Oper} {ex : Nat → Nat → Bool} {e : Env} {h : Heap} {q : Env × Heap} (hB : strictG P ops ex = true) (hr : Sim.aops P ro C ops ops.toList e h = some q)
    (hex : ∀ i j p, ops[j]? = some p → i < ops.size → ex i j = true → wants ops (rn P ro C ops e h j).1 p = true → aop P ro C p.op (rn P ro C ops e h j).1 (rn P ro C ops e h i).2 = some ((stp P ro C ops p (rn P ro C ops e h j).1 (rn P ro C ops e h j).2).1, (rn P ro C ops e h i).2) ∧ aop P ro C p.op (rn P ro C ops e h j).1 (rn P ro C ops e h (i + 1)).2 = some ((stp P ro C ops p (rn P ro C ops e h j).1 (rn P ro C ops e h j).2).1, (rn P ro C ops e h (i + 1)).2)) : DynRun P ro C ops e h q := by
  let E := fun n => (rn P ro C ops e h n).1
  let H := fun n => (rn P ro C ops e h n).2
  let V := fun n => match ops[n]? with | some o => (stp P ro C ops o (E n) (H n)).1 | none => undef
  have hV : ∀ n o, ops[n]? = some o → V n = (stp P ro C ops o (E n) (H n)).1 := fun n o ho => by simp only [V, ho]
  obtain ⟨k1, k2⟩ := run_steps hr
  have stills : ∀ i, loudAt ops i = false → H (i + 1) = H i := rn_still hr
  unfold strictG at hB
  simp only [List.all_eq_true, List.mem_range] at hB
  have get : ∀ (i j : Nat) (o p : Oper), ops[i]? = some o → ops[j]? = some p → i ≠ j → ordB (befs ops.toList []) i j = true ∨ ordB (befs ops.toList []) j i = true ∨ (clash ops o p = false ∧ (stillOp o.op = true ∨ (stillOp p.op = true ∧ (deafOp P p.op = true ∨ ex i j = true)))) := by
    intro i j o p hi hj hne
    have h1 := hB i (lt_of_get hi)
    rw [hi] at h1
    simp only [Bool.and_eq_true, List.all_eq_true, List.mem_range] at h1
    have h2 := h1.2 j (lt_of_get hj)
    rw [hj] at h2
    simp only [Bool.or_eq_true, Bool.and_eq_true, beq_iff_eq, Bool.not_eq_true'] at h2
    rcases h2 with ((z | z) | z) | z
    · exact absurd z hne
    · exact .inl z
    · exact .inr (.inl z)
    · exact .inr (.inr z)
  refine ⟨E, H, V, loudAt ops, ⟨fun i o ed hi he => ?_, fun i j o p hi hj hne => ?_, stills, fun i j hne hi hj a b => ?_, fun i j p hj hi a b hw => ?_⟩, rfl, rfl, by rw [← k2], by rw [← k2], fun i o ho => ⟨?_, ?_⟩⟩
  · have h1 := hB i (lt_of_get hi)
    rw [hi] at h1
    simp only [Bool.and_eq_true, List.all_eq_true, decide_eq_true_eq] at h1
    exact h1.1 ed he
  · rcases get i j o p hi hj hne with z | z | z
    · exact .inr (.inl z)
    · exact .inr (.inr z)
    · exact .inl z.1
  · have hi' : ops[i]? = some ops[i] := Array.getElem?_eq_getElem hi
    have hj' : ops[j]? = some ops[j] := Array.getElem?_eq_getElem hj
    unfold loudAt at a b
    rw [hi'] at a
    rw [hj'] at b
    simp only [Bool.not_eq_true'] at a b
    rcases get i j _ _ hi' hj' hne with z | z | z
    · exact .inl z
    · exact .inr z
    · rcases z.2 with w | w
      · rw [a] at w; cases w
      · rw [b] at w; cases w.1
  · have hne : i ≠ j := fun q => by rw [q] at a; rw [a] at b; cases b
    have hi' : ops[i]? = some ops[i] := Array.getElem?_eq_getElem hi
    unfold loudAt at a
    rw [hi'] at a
    simp only [Bool.not_eq_true'] at a
    rcases get i j _ _ hi' hj hne with z | z | z
    · exact .inl z
    · exact .inr (.inl z)
    · rcases z.2 with w | w
      · rw [a] at w; cases w
      · rcases w.2 with w | w
        · exact .inr (.inr (.inl w))
        · have := hex i j p hj hi w hw
          rw [← hV j p hj] at this
          exact .inr (.inr (.inr this))
  · have := k1 i o ho
    rw [← hV i o ho] at this
    exact this
  · rw [hV i o ho]
    exact rn_succ ho
theorem dynRun_strict {C : Fns} {ops : Array Oper} {e : Env} {h : Heap} {q : Env × Heap} (hB : strictB P ops = true) (hr : Sim.aops P ro C ops ops.toList e h = some q) : DynRun P ro C ops e h q := dynRun_gen hB hr fun i j p _ _ h => by cases h
/-! ### Rules -/
def LoopG (P : Program) (ro : Nat) (X : Ext) (c : Code) (Q : Ex → Env → Heap → Prop) (e : Env) (h : Heap) [Hid c] [Hid Q] : Prop := WG P ro X (.loop c) Q e h
variable {Q : Ex → Env → Heap → Prop} {e : Env} {h : Heap}
theorem wg_loop {c : Code} : WG P ro X (.loop c) Q e h = LoopG P ro X c Q e h := rfl
theorem loopG_rounds {c : Code} (I : Nat → Env → Heap → Prop) (n : Nat) (start : I n e h) (step : ∀ n e h, I n e h → WG P ro X c (thenQ (fun e' h' => ∃ m, m < n ∧ I m e' h') Q) e h) : LoopG P ro X c Q e h := WG_rounds I step n e h start
theorem loopG_exit {c : Code} (id : Nat) (M : Env → Heap → Prop) (hl : LoopG P ro X c (fun x e h => x = .exit id ∧ M e h) e h) (k : ∀ e h, M e h → Q (.exit id) e h) : LoopG P ro X c Q e h := WG_mono hl fun x e h ⟨hx, hm⟩ => by rw [hx]; exact k e h hm
theorem wg_skip : WG P ro X .skip Q e h = Q .normal e h := propext ⟨fun ⟨n, x, e', h', h1, h2⟩ => by simp only [evG] at h1; cases h1; exact h2, fun hq => ⟨0, _, _, _, rfl, hq⟩⟩
theorem wg_ret : WG P ro X .ret Q e h = Q .ret e h := propext WG_ret
theorem wg_exit {i : Nat} : WG P ro X (.exit i) Q e h = Q (.exit i) e h := propext ⟨fun ⟨n, x, e', h', h1, h2⟩ => by simp only [evG] at h1; cases h1; exact h2, fun hq => ⟨0, _, _, _, rfl, hq⟩⟩
theorem wg_seq {a b : Code} : WG P ro X (.seq a b) Q e h = WG P ro X a (thenQ (WG P ro X b Q) Q) e h := propext WG_seq
theorem wg_cond {c : Operand} {a b : Code} : WG P ro X (.cond c a b) Q e h = condP (ov e c) (WG P ro X a Q e h) (WG P ro X b Q e h) := propext WG_cond
theorem wg_block {id : Nat} {c : Code} : WG P ro X (.block id c) Q e h = WG P ro X c (blockQ id Q) e h := propext WG_block
theorem WG_plain {id : Nat} {ops : Array Oper} {dr : Bool} (hs : dr = false ∨ strictB P ops = true) : WG P ro X (.region id ops dr) Q e h ↔ WO P ro X false ops ops.toList (fun e h => Q .normal e h) e h := by
  constructor
  · rintro ⟨n, x, e', h', h1, h2⟩
    simp only [evG, Option.map_eq_some_iff] at h1
    obtain ⟨⟨e2, h3⟩, h4, h5⟩ := h1
    cases h5
    exact ⟨n, _, _, rgG_aops h4, h2⟩
  · rintro ⟨n, e', h', h1, h2⟩
    refine ⟨n, .normal, e', h', ?_, h2⟩
    simp only [evG, Option.map_eq_some_iff]
    refine ⟨(e', h'), ?_, rfl⟩
    cases dr with
    | false =>
      unfold rgG
      rw [if_pos (.inl rfl)]
      exact h1
    | true =>
      rcases hs with hs | hs
      · cases hs
      · exact rgG_dyn (dynRun_strict hs h1)
theorem wg_region {id : Nat} {ops : List Oper} : WG P ro X (.region id ops.toArray false) Q e h = WO P ro X false ops.toArray ops (Q .normal) e h := propext (WG_plain (.inl rfl))
theorem wg_strict {id : Nat} {ops : List Oper} (hs : strictB P ops.toArray = true) : WG P ro X (.region id ops.toArray true) Q e h = WO P ro X false ops.toArray ops (Q .normal) e h := propext (WG_plain (.inr hs))
/-! ### A call that only adds to the heap, ahead of loads that need not wait for it -/
def monoOp (P : Program) : Op → Bool
  | .load .. => true
  | op => deafOp P op
theorem ld_pre {h h' : Heap} {t : TypeId} {a v : Value} (hp : Pfx h h') (hl : ld P h t a = some v) : ld P h' t a = some v := by
  unfold ld at hl ⊢
  split at hl
  · rename_i b o
    have key : ∀ C, h[b]? = some C → h'[b]? = some C := fun C hC => by rw [hp.get (List.getElem?_eq_some_iff.1 hC).1]; exact hC
    cases hb : h[b]? with
    | none => rw [hb] at hl; simp at hl
    | some C => rw [hb] at hl; rw [key C hb]; exact hl
  · cases hl
theorem mono_op {C : Fns} {op : Op} {e : Env} {h h' : Heap} {v : Value} (hm : monoOp P op = true) (hp : Pfx h h') (ha : aop P ro C op e h = some (v, h)) : aop P ro C op e h' = some (v, h') := by
  cases op with
  | load t a =>
    simp only [aop, Option.map_eq_some_iff, Prod.mk.injEq] at ha ⊢
    obtain ⟨w, h1, rfl, _⟩ := ha
    refine ⟨w, ld_pre hp h1, ?_⟩
    simp
  | _ => exact deaf_op (by simpa only [monoOp] using hm) ha _
def growX (P : Program) (ops : Array Oper) (c i j : Nat) : Bool := i == c && decide (j < c) && (match ops[j]? with | some p => monoOp P p.op | none => false)
def growB (P : Program) (ops : Array Oper) (c : Nat) : Bool := strictG P ops (growX P ops c) && (List.range c).all fun i => !loudAt ops i
theorem dynRun_grow {C : Fns} {ops : Array Oper} {c : Nat} {e : Env} {h : Heap} {q : Env × Heap} (hB : growB P ops c = true) (hr : Sim.aops P ro C ops ops.toList e h = some q) (hp : Pfx h (rn P ro C ops e h (c + 1)).2) : DynRun P ro C ops e h q := by
  unfold growB at hB
  simp only [Bool.and_eq_true, List.all_eq_true, List.mem_range, Bool.not_eq_true'] at hB
  have hh : ∀ i, i ≤ c → (rn P ro C ops e h i).2 = h := by
    intro i
    induction i with
    | zero => intro _; rfl
    | succ i ih => intro hi; rw [rn_still hr i (hB.2 i (by omega))]; exact ih (by omega)
  refine dynRun_gen hB.1 hr fun i j p hj hi hx hw => ?_
  unfold growX at hx
  rw [hj] at hx
  simp only [Bool.and_eq_true, beq_iff_eq, decide_eq_true_eq] at hx
  obtain ⟨⟨rfl, hjc⟩, hm⟩ := hx
  rcases (run_steps hr).1 j p hj with ⟨_, h1⟩ | ⟨h1, _⟩
  · rw [hh j (by omega), hh (j + 1) (by omega)] at h1
    rw [hh i (Nat.le_refl _), hh j (by omega)]
    exact ⟨h1, mono_op hm hp h1⟩
  · rw [hw] at h1; cases h1
theorem aops_split {C : Fns} {ops : Array Oper} : ∀ (a b : List Oper) {e : Env} {h : Heap} {q : Env × Heap}, Sim.aops P ro C ops a e h = some q → Sim.aops P ro C ops (a ++ b) e h = Sim.aops P ro C ops b q.1 q.2
  | [], b, e, h, q, hr => by simp only [Sim.aops, Option.some.injEq] at hr; subst hr; rfl
  | o :: a, b, e, h, q, hr => by
    simp only [Sim.aops, List.cons_append] at hr ⊢
    split at hr
    · rename_i hw
      rw [if_pos hw]
      simp only [Option.bind_eq_some_iff] at hr
      obtain ⟨r, h1, h2⟩ := hr
      rw [h1, Option.bind_some]
      exact aops_split a b h2
    · rename_i hw
      rw [if_neg hw]
      exact aops_split a b hr
theorem rn_take {C : Fns} {ops : Array Oper} {e : Env} {h : Heap} {q : Env × Heap} (hr : Sim.aops P ro C ops ops.toList e h = some q) : ∀ k, k ≤ ops.size → Sim.aops P ro C ops (ops.toList.take k) e h = some (rn P ro C ops e h k)
  | 0, _ => rfl
  | k + 1, hk => by
    have ho : ops[k]? = some ops[k] := Array.getElem?_eq_getElem (by omega)
    have hl : k < ops.toList.length := by simp; omega
    rw [List.take_succ_eq_append_getElem hl, aops_split _ _ (rn_take hr k (by omega))]
    have e1 : ops.toList[k] = ops[k] := by simp
    rw [e1]
    generalize ops[k] = o at ho
    have s := (run_steps hr).1 k o ho
    have r1 := rn_succ (P := P) (ro := ro) (C := C) (e := e) (h := h) ho
    simp only [Sim.aops]
    rcases s with ⟨hw, hop⟩ | ⟨hw, hv, hh⟩
    · rw [if_pos hw, hop, Option.bind_some, ← r1]
    · rw [if_neg (by rw [hw]; simp), ← hh]
      rw [hv] at r1
      rw [← r1]
theorem WG_grow {id c : Nat} {ops : List Oper} {o : Oper} (hB : growB P ops.toArray c = true) (ho : ops[c]? = some o) (hg : o.guard = none)
    (hw : WO P ro X false ops.toArray (ops.take c) (fun e1 h1 => OP P ro X false o.op e1 h1 fun v h2 => Pfx h1 h2 ∧ WO P ro X false ops.toArray (ops.drop (c + 1)) (Q .normal) (updO e1 o.dst v) h2) e h) : WG P ro X (.region id ops.toArray true) Q e h := by
  obtain ⟨n1, e1, h1, r1, n2, v, h2, r2, hpx, n3, e3, h3, r3, hq⟩ := hw
  let N := max n1 (max n2 n3)
  have q1 := aops_mono (P := P) (ro := ro) (callN_le (X := X) (show n1 ≤ N by omega)) r1
  have q2 := aop_mono (P := P) (ro := ro) (callN_le (X := X) (show n2 ≤ N by omega)) r2
  have q3 := aops_mono (P := P) (ro := ro) (callN_le (X := X) (show n3 ≤ N by omega)) r3
  have hc : c < ops.length := (List.getElem?_eq_some_iff.1 ho).1
  have hoc : ops[c] = o := (List.getElem?_eq_some_iff.1 ho).2
  have hwant : wants ops.toArray e1 o = true := by unfold wants; rw [hg]
  have hone : Sim.aops P ro (callN P ro X N) ops.toArray (ops.take (c + 1)) e h = some (updO e1 o.dst v, h2) := by
    rw [List.take_succ_eq_append_getElem hc, aops_split _ _ q1, hoc]
    simp only [Sim.aops]
    rw [if_pos hwant, q2]; rfl
  have hall : Sim.aops P ro (callN P ro X N) ops.toArray ops.toArray.toList e h = some (e3, h3) := by
    show Sim.aops P ro (callN P ro X N) ops.toArray ops e h = _
    rw [← List.take_append_drop (c + 1) ops, List.take_append_drop (c + 1) ops]
    conv => lhs; rw [← List.take_append_drop (c + 1) ops]
    rw [List.take_append_drop]
    have := aops_split (P := P) (ro := ro) (C := callN P ro X N) (ops := ops.toArray) (ops.take (c + 1)) (ops.drop (c + 1)) hone
    rw [List.take_append_drop] at this
    rw [this]; exact q3
  have t0 := rn_take hall c (by simp; omega)
  have t1 := rn_take hall (c + 1) (by simp; omega)
  have u0 : rn P ro (callN P ro X N) ops.toArray e h c = (e1, h1) := Option.some.inj (t0.symm.trans q1)
  have u1 : rn P ro (callN P ro X N) ops.toArray e h (c + 1) = (updO e1 o.dst v, h2) := Option.some.inj (t1.symm.trans hone)
  have h1e : h1 = h := by
    have hB' := hB
    unfold growB at hB'
    simp only [Bool.and_eq_true, List.all_eq_true, List.mem_range, Bool.not_eq_true'] at hB'
    have : ∀ i, i ≤ c → (rn P ro (callN P ro X N) ops.toArray e h i).2 = h := by
      intro i
      induction i with
      | zero => intro _; rfl
      | succ i ih => intro hi; rw [rn_still hall i (hB'.2 i (by omega))]; exact ih (by omega)
    have := this c (Nat.le_refl _)
    rw [u0] at this
    exact this
  have d := dynRun_grow hB hall (by rw [u1]; rw [← h1e]; exact hpx)
  exact ⟨N, .normal, e3, h3, by simp only [evG]; rw [rgG_dyn d]; rfl, hq⟩
theorem gpre0 : type_of% (And.intro @wg_region (And.intro @wg_strict (And.intro @wg_seq (And.intro @wg_cond (And.intro @wg_block (And.intro @wg_skip (And.intro @wg_ret (And.intro @wg_exit (And.intro @wg_loop (And.intro @thenQ_normal (And.intro @thenQ_exit (And.intro @thenQ_ret (And.intro @blockQ_normal (And.intro @blockQ_exit (And.intro @blockQ_ret (And.intro @o_plain (And.intro @o_nil (And.intro @o_guard (And.intro @gvl_zero (And.intro @gvl_succ (And.intro @p_move (And.intro @p_assign (And.intro @p_pick (And.intro @p_binOp (@p_unOp))))))))))))))))))))))))) := And.intro @wg_region (And.intro @wg_strict (And.intro @wg_seq (And.intro @wg_cond (And.intro @wg_block (And.intro @wg_skip (And.intro @wg_ret (And.intro @wg_exit (And.intro @wg_loop (And.intro @thenQ_normal (And.intro @thenQ_exit (And.intro @thenQ_ret (And.intro @blockQ_normal (And.intro @blockQ_exit (And.intro @blockQ_ret (And.intro @o_plain (And.intro @o_nil (And.intro @o_guard (And.intro @gvl_zero (And.intro @gvl_succ (And.intro @p_move (And.intro @p_assign (And.intro @p_pick (And.intro @p_binOp (@p_unOp))))))))))))))))))))))))
/-- A contract of a function whose text is run by evG. -/
theorem fG_call {f : FuncId} {fn : Func} {c : Code} {X' : Ext} {R : List Value → Heap → Value × Heap → Prop} {args : List Value} {h : Heap} (hx : X' f = some (fG P ro X fn c R)) (hl : args.length ≤ fn.ntmps) (hw : WG P ro X c (EndP P fn h fun r h' => R args h (r, h')) (entry args) h) : CallR P ro X' f args h fun r h' => R args h (r, h') := by
  obtain ⟨n, r, h', h1, h2⟩ := runG_of hw
  obtain ⟨⟨r2, h2'⟩, g1, g2⟩ := fG_of (P := P) (ro := ro) (X := X) (fn := fn) (c := c) (R := R) (args := args) (h := h) ⟨(r, h'), ⟨n, h1⟩, h2, hl⟩
  exact ⟨r2, h2', call_ext hx g1, g2⟩
theorem runG_mono {fn : Func} {c : Code} {n m : Nat} (hn : n ≤ m) {args : List Value} {h : Heap} {q : Value × Heap} (hr : runG P ro X fn c n args h = some q) : runG P ro X fn c m args h = some q := by
  unfold runG at hr ⊢
  simp only [Option.bind_eq_some_iff] at hr ⊢
  obtain ⟨r, h1, h2⟩ := hr
  exact ⟨r, evG_mono (callN_le hn) hn h1, h2⟩
theorem runG_det {fn : Func} {c : Code} {n m : Nat} {args : List Value} {h : Heap} {q q' : Value × Heap} (hr : runG P ro X fn c n args h = some q) (hr' : runG P ro X fn c m args h = some q') : q' = q := by
  have a := runG_mono (Nat.le_max_left n m) hr
  have b := runG_mono (Nat.le_max_right n m) hr'
  rw [a] at b
  exact (Option.some.inj b).symm
/-- What holds of a result for all that its arguments may stand for. -/
def RA {ι : Type} (pre : ι → List Value → Heap → Prop) (R : ι → List Value → Heap → Value × Heap → Prop) (args : List Value) (h : Heap) (q : Value × Heap) : Prop := ∀ i, pre i args h → R i args h q
theorem fG_callA {ι : Type} {f : FuncId} {fn : Func} {c : Code} {X' : Ext} {pre : ι → List Value → Heap → Prop} {R : ι → List Value → Heap → Value × Heap → Prop} {args : List Value} {h : Heap} (hx : X' f = some (fG P ro X fn c (RA pre R))) (hl : args.length ≤ fn.ntmps)
    (hw : ∀ i, pre i args h → WG P ro X c (EndP P fn h fun r h' => R i args h (r, h')) (entry args) h) (i : ι) (hi : pre i args h) : CallR P ro X' f args h fun r h' => R i args h (r, h') := by
  obtain ⟨n, r, h', h1, h2⟩ := runG_of (hw i hi)
  have hall : RA pre R args h (r, h') := by
    intro j hj
    obtain ⟨m, r2, h2', g1, g2⟩ := runG_of (hw j hj)
    have := runG_det h1 g1
    cases this
    exact g2
  obtain ⟨⟨r2, h2'⟩, g1, g2⟩ := fG_of (P := P) (ro := ro) (X := X) (fn := fn) (c := c) (R := RA pre R) (args := args) (h := h) ⟨(r, h'), ⟨n, h1⟩, hall, hl⟩
  exact ⟨r2, h2', call_ext hx g1, g2 i hi⟩
/-- .. told apart as an extension. -/
theorem fGX_ok (hm : P.follows .mixedOrders = true) (hX : XOk P ro B X) {f : FuncId} {fn : Func} {c : Code} {R : List Value → Heap → Value × Heap → Prop} (hfn : P.funcs[f]? = some fn) (hbody : fn.body = some c) (hname : fn.name ≠ "runtime.NumGoroutine") (hok : codeOkG fn.ntmps c = true) : XOk P ro B (fun g => if g = f then some (fG P ro X fn c R) else none) := by
  intro g F hF args h r h' hr ρ w args' hs hB hargs
  simp only at hF
  split at hF
  · rename_i e
    subst e
    cases hF
    exact fG_ok hm hX hfn hbody hname hok hr hs hB hargs
  · cases hF
end Go.Proofs.Ytkhipobafchilaa.Sim
