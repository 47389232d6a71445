/- That a list of operations of the abstract machine stands for that of the model, in the order of the text and in whatever order a region draws. Lemmas only; no condition. -/
import Derived.Test.YteignhphimfmkaaSimI
set_option linter.unusedSimpArgs false
namespace Go.Proofs.Yteignhphimfmkaa.Sim
open Go Go.RowKit

variable {P : Program} {ro : Nat} {B : Base}

/-- The frame, its size, and that nothing is deferred. -/
structure AR (P : Program) (ro : Nat) (ρ : List Loc) (N : Nat) (e : Env) (a : Act) : Prop where
  er : ER P ro ρ e a
  size : a.tmps.size = N
  defers : a.defers = []
theorem AR.mono {ρ ρ' : List Loc} {N : Nat} {e : Env} {a : Act} (h : AR P ro ρ N e a) (hp : Pre ρ ρ') : AR P ro ρ' N e a := ⟨h.er.mono hp, h.size, h.defers⟩
theorem AR.put {ρ : List Loc} {N : Nat} {e : Env} {a : Act} (h : AR P ro ρ N e a) {d : Option Nat} {v v' : Value} (hd : ∀ t, d = some t → t < N) (hv : VR P ro ρ v v') : AR P ro ρ N (updO e d v) (a.put d v') := by
  cases d with
  | none => exact h
  | some t =>
    refine ⟨fun i => ?_, by simpa [Act.put] using h.size, by simpa [Act.put] using h.defers⟩
    have ht := hd t rfl
    simp only [updO, upd, Act.put]
    by_cases hi : i = t
    · subst hi
      rw [if_pos rfl]
      have : (a.tmps.setIfInBounds i v').getD i undef = v' := by
        rw [Array.getD_eq_getD_getElem?, Array.getElem?_setIfInBounds_self_of_lt (by rw [h.size]; exact ht)]; rfl
      rw [this]; exact hv
    · rw [if_neg hi]
      have : (a.tmps.setIfInBounds t v').getD i undef = a.tmps.getD i undef := by
        rw [Array.getD_eq_getD_getElem?, Array.getElem?_setIfInBounds_ne (Ne.symm hi), ← Array.getD_eq_getD_getElem?]
      rw [this]; exact h.er i
theorem AR.wants {ρ : List Loc} {N : Nat} {e : Env} {a : Act} (h : AR P ro ρ N e a) (ops : Array Oper) (o : Oper) : Region.wanted o (yielded ops a.tmps) = Sim.wants ops e o := by
  unfold Region.wanted Sim.wants
  cases o.guard with
  | none => rfl
  | some g =>
    obtain ⟨j, want⟩ := g
    simp only [yielded]
    cases hd : (ops[j]?).bind (·.dst) with
    | none => simp
    | some d =>
      have he := h.er d
      simp only [Option.bind_some]
      rw [Array.getD_eq_getD_getElem?] at he
      cases ht : a.tmps[d]? with
      | none =>
        rw [ht] at he
        simp only [Option.getD_none, undef] at he
        generalize e d = v at he
        cases he
        rfl
      | some u =>
        rw [ht] at he
        simp only [Option.getD_some] at he
        generalize e d = v at he
        cases he <;> first | rfl | (rename_i b; cases b <;> cases want <;> rfl)

def dstOk (N : Nat) (o : Oper) : Bool := match o.dst with | some t => decide (t < N) | none => true
theorem dstOk_lt {N : Nat} {o : Oper} (h : dstOk N o = true) (t : Nat) (ht : o.dst = some t) : t < N := by unfold dstOk at h; rw [ht] at h; simpa using h

theorem aops_snd {C : Fns} (hC : Snd P ro B C) {N : Nat} (ops : Array Oper) : ∀ (l : List Oper), (∀ o ∈ l, opOk o.op = true ∧ dstOk N o = true) → ∀ {ρ : List Loc} {h h' : Heap} {w : World} {e e' : Env} {a : Act}, SR P ro B ρ h w → B.n ≤ w.heap.size → AR P ro ρ N e a →
    aops P ro C ops l e h = some (e', h') → ∀ {Q : Exit → Act → World → Prop}, (∀ a' w' ρ', Pre ρ ρ' → SR P ro B ρ' h' w' → AR P ro ρ' N e' a' → Below B.n w w' → Q .normal a' w') → wpList P ops Q l a w
  | [], _, ρ, h, h', w, e, e', a, hs, hB, hA, hr, Q, hq => by
    simp only [aops] at hr
    cases hr
    exact hq a w ρ (Pre.refl _) hs hA (Below.refl _ _)
  | o :: l, hok, ρ, h, h', w, e, e', a, hs, hB, hA, hr, Q, hq => by
    have h1 := hok o (by simp)
    unfold wpList
    rw [hA.wants]
    simp only [aops] at hr
    split at hr
    · rename_i hw
      rw [if_pos hw]
      simp only [Option.bind_eq_some_iff] at hr
      obtain ⟨⟨v, h2⟩, hop, hr⟩ := hr
      refine .inl (aop_snd hC hs hB hA.er h1.1 hop fun v' w' ρ' q1 q2 q3 q4 => ?_)
      exact aops_snd hC ops l (fun o ho => hok o (by simp [ho])) q2 (Nat.le_trans hB q4.size) ((hA.mono q1).put (dstOk_lt h1.2) q3) hr fun a2 w2 ρ2 r1 r2 r3 r4 => hq a2 w2 ρ2 (q1.trans r1) r2 r3 (q4.trans r4)
    · rename_i hw
      rw [if_neg hw]
      exact aops_snd hC ops l (fun o ho => hok o (by simp [ho])) hs hB (hA.put (dstOk_lt h1.2) VR_undef) hr hq

/-! ### A region that draws its order -/
/-- Operations that leave the heap alone (calls: those that do are asked for by 'keeps'). -/
def quietOp : Op → Bool
  | .move _ | .assign _ | .pick .. | .build .. | .load .. | .nilCheck _ | .binOp .. | .unOp .. | .convert .. | .makeFunc .. | .slice .. | .fieldAddr .. | .field .. | .indexAddr .. | .index .. | .extract .. => true
  | .call ⟨.builtin b, _, _⟩ => match b with | .append => false | _ => true
  | .call ⟨.value _, _, _⟩ => true
  | _ => false
theorem quiet_heap {C : Fns} {op : Op} {e : Env} {h h' : Heap} {v : Value} (hq : quietOp op = true) (ha : aop P ro (keeps C) op e h = some (v, h')) : h' = h := by
  unfold aop at ha
  split at ha
  all_goals (try simp only [quietOp, Bool.false_eq_true] at hq)
  all_goals (try (simp only [Option.map_eq_some_iff, Prod.mk.injEq] at ha; obtain ⟨_, _, _, rfl⟩ := ha; rfl))
  all_goals (try (cases ha; rfl))
  · split at ha
    · cases ha; rfl
    · cases ha
  · split at ha
    · cases ha; rfl
    · cases ha; rfl
    · cases ha
  · split at ha
    · simp only [Option.map_eq_some_iff, Prod.mk.injEq] at ha; obtain ⟨_, _, _, rfl⟩ := ha; rfl
    · cases ha
  · rename_i b args ts
    unfold ablt at ha
    split at ha
    all_goals (try simp only [Bool.false_eq_true] at hq)
    all_goals (try (simp only [Option.map_eq_some_iff, Prod.mk.injEq] at ha; obtain ⟨_, _, _, rfl⟩ := ha; rfl))
    all_goals (try (cases ha <;> rfl))
    · split at ha <;> cases ha <;> rfl
    · split at ha
      · cases ha; rfl
      · cases ha
  · rename_i f args ts
    unfold callV at ha
    split at ha
    · unfold keeps at ha
      simp only [Option.bind_eq_some_iff] at ha
      obtain ⟨q, _, hq2⟩ := ha
      split at hq2
      · rename_i he; cases hq2; exact he
      · cases hq2
    · cases ha
theorem keeps_snd {C : Fns} (h : Snd P ro B C) : Snd P ro B (keeps C) := by
  intro f args hp r hp' hc
  unfold keeps at hc
  simp only [Option.bind_eq_some_iff] at hc
  obtain ⟨q, hq, hq2⟩ := hc
  split at hq2
  · cases hq2; exact h f args hp r hp' hq
  · cases hq2

/-- Operations that answer alike at every heap. -/
def deafOp (P : Program) : Op → Bool
  | .move _ | .assign _ | .pick .. | .build .. | .nilCheck _ | .binOp .. | .unOp .. | .makeFunc .. | .fieldAddr .. | .field .. | .indexAddr .. | .index .. | .extract .. => true
  | .convert _ d _ => match P.underlying d with | some .string => false | _ => true
  | .slice t .. => match P.underlying t with | some .string => true | _ => false
  | .call ⟨.builtin b, _, _⟩ => match b with | .len | .real | .imag | .complex | .max | .min => true | _ => false
  | _ => false
theorem deaf_quiet {op : Op} (h : deafOp P op = true) : quietOp op = true := by
  cases op with
  | call c =>
    obtain ⟨callee, args, ts⟩ := c
    cases callee with
    | builtin b => cases b <;> first | rfl | (simp only [deafOp, Bool.false_eq_true] at h)
    | _ => first | rfl | (simp only [deafOp, Bool.false_eq_true] at h)
  | _ => first | rfl | (simp only [deafOp, Bool.false_eq_true] at h)
theorem deaf_op {C : Fns} {op : Op} {e : Env} {h h' : Heap} {v : Value} (hd : deafOp P op = true) (ha : aop P ro C op e h = some (v, h')) (h2 : Heap) : aop P ro C op e h2 = some (v, h2) := by
  cases op with
  | move x => simp only [aop] at ha ⊢; cases ha; rfl
  | assign x => simp only [aop] at ha ⊢; cases ha; rfl
  | pick c x y => simp only [aop] at ha ⊢; split at ha <;> cases ha; rfl
  | build t parts => simp only [aop, Option.map_eq_some_iff, Prod.mk.injEq] at ha; obtain ⟨u, q, rfl, _⟩ := ha; simp only [aop, q, Option.map_some]
  | nilCheck x => simp only [aop] at ha ⊢; split at ha <;> cases ha <;> rfl
  | binOp o t x y t2 => simp only [aop, Option.map_eq_some_iff, Prod.mk.injEq] at ha; obtain ⟨u, q, rfl, _⟩ := ha; simp only [aop, q, Option.map_some]
  | unOp o t x => simp only [aop, Option.map_eq_some_iff, Prod.mk.injEq] at ha; obtain ⟨u, q, rfl, _⟩ := ha; simp only [aop, q, Option.map_some]
  | makeFunc fn first cap => simp only [aop] at ha ⊢; cases ha; rfl
  | fieldAddr s x f => simp only [aop, Option.map_eq_some_iff, Prod.mk.injEq] at ha; obtain ⟨u, q, rfl, _⟩ := ha; simp only [aop, q, Option.map_some]
  | field s x f => simp only [aop, Option.map_eq_some_iff, Prod.mk.injEq] at ha; obtain ⟨u, q, rfl, _⟩ := ha; simp only [aop, q, Option.map_some]
  | indexAddr t x i => simp only [aop, Option.map_eq_some_iff, Prod.mk.injEq] at ha; obtain ⟨u, q, rfl, _⟩ := ha; simp only [aop, q, Option.map_some]
  | index t x i => simp only [aop, Option.map_eq_some_iff, Prod.mk.injEq] at ha; obtain ⟨u, q, rfl, _⟩ := ha; simp only [aop, q, Option.map_some]
  | extract x i =>
    simp only [aop] at ha ⊢
    split at ha
    · simp only [Option.map_eq_some_iff, Prod.mk.injEq] at ha; obtain ⟨u, q, rfl, _⟩ := ha; simp only [q, Option.map_some]
    · cases ha
  | convert s d x =>
    simp only [aop, Option.map_eq_some_iff, Prod.mk.injEq] at ha
    obtain ⟨u, q, rfl, _⟩ := ha
    suffices hh : aconv P h2 s d (ov e x) = some u by simp only [aop, hh, Option.map_some]
    have hs : P.underlying d ≠ some .string := fun k => by simp only [deafOp, k, Bool.false_eq_true] at hd
    rw [← q]
    unfold aconv
    split
    all_goals (first | rfl | (rename_i k; exact absurd k hs) | (rename_i k _; exact absurd k hs) | (rename_i k _ _; exact absurd k hs) | skip)
  | slice t x lo hi mx =>
    simp only [aop, Option.map_eq_some_iff, Prod.mk.injEq] at ha
    obtain ⟨u, q, rfl, _⟩ := ha
    suffices hh : slc P ro h2 t (ov e x) (lo.map (ov e)) (hi.map (ov e)) (mx.map (ov e)) = some u by simp only [aop, hh, Option.map_some]
    have hs : P.underlying t = some .string := by
      unfold deafOp at hd
      simp only at hd
      split at hd
      · assumption
      · cases hd
    rw [← q]
    unfold slc
    rw [hs]
    generalize ov e x = z
    cases z <;> rfl
  | call c =>
    obtain ⟨callee, args, ts⟩ := c
    cases callee with
    | builtin b =>
      simp only [aop] at ha ⊢
      cases b
      all_goals (try (simp only [deafOp, Bool.false_eq_true] at hd; done))
      all_goals
        unfold ablt at ha ⊢
        split at ha
        all_goals (try contradiction)
        all_goals (try (cases ha; done))
        all_goals (try (simp only [Option.map_eq_some_iff, Prod.mk.injEq] at ha; obtain ⟨u, q, rfl, _⟩ := ha; simp only [q, Option.map_some]; done))
        all_goals (try (cases ha; rfl; done))
        all_goals (try (split at ha <;> first | (cases ha; done) | (rename_i k; subst k; cases ha; rw [if_pos rfl]; done) | (cases ha; rfl; done)))
    | value f => simp only [deafOp, Bool.false_eq_true] at hd
    | invoke r m => simp only [deafOp, Bool.false_eq_true] at hd
  | _ => simp only [deafOp, Bool.false_eq_true] at hd

/-- An operation looks at its operands alone. -/
def tmpsOf (o : Op) : List Nat := o.operands.toList.filterMap fun | .tmp t => some t | _ => none
theorem ov_congr {e e' : Env} {x : Operand} (h : ∀ t, x = .tmp t → e t = e' t) : ov e x = ov e' x := by
  cases x <;> first | rfl | exact h _ rfl
theorem mem_tmps {o : Op} {t : Nat} (h : Operand.tmp t ∈ o.operands.toList) : t ∈ tmpsOf o := List.mem_filterMap.2 ⟨_, h, rfl⟩
theorem aop_congr {C : Fns} {op : Op} {e e' : Env} {h : Heap} (hc : ∀ t ∈ tmpsOf op, e t = e' t) : aop P ro C op e h = aop P ro C op e' h := by
  have key : ∀ x ∈ op.operands.toList, ov e x = ov e' x := fun x hx => ov_congr fun t ht => hc t (mem_tmps (ht ▸ hx))
  have keyl : ∀ l : List Operand, (∀ x ∈ l, x ∈ op.operands.toList) → l.map (ov e) = l.map (ov e') := fun l hl => List.map_congr_left fun x hx => key x (hl x hx)
  have keyp : ∀ ps : List (Nat × Operand), (∀ q ∈ ps, q.2 ∈ op.operands.toList) → (ps.map fun q => (q.1, ov e q.2)) = (ps.map fun q => (q.1, ov e' q.2)) := fun ps hp => List.map_congr_left fun q hq => by rw [key q.2 (hp q hq)]
  have keyo : ∀ x : Option Operand, (∀ y, x = some y → y ∈ op.operands.toList) → x.map (ov e) = x.map (ov e') := fun x hx => by
    cases x with
    | none => rfl
    | some y => simp [key y (hx y rfl)]
  cases op with
  | move x => simp only [aop, key x (by simp [Op.operands])]
  | assign x => simp only [aop, key x (by simp [Op.operands])]
  | pick c x y => simp only [aop, key c (by simp [Op.operands]), key x (by simp [Op.operands]), key y (by simp [Op.operands])]
  | alloc t => rfl
  | box t x => simp only [aop, key x (by simp [Op.operands])]
  | build t parts => simp only [aop, keyp parts.toList (fun q hq => by simp only [Op.operands]; simp; exact ⟨q.1, by simpa using hq⟩)]
  | buildSlice t n parts => simp only [aop, keyp parts.toList (fun q hq => by simp only [Op.operands]; simp; exact ⟨q.1, by simpa using hq⟩)]
  | load t x => simp only [aop, key x (by simp [Op.operands])]
  | store t x y => simp only [aop, key x (by simp [Op.operands]), key y (by simp [Op.operands])]
  | nilCheck x => simp only [aop, key x (by simp [Op.operands])]
  | binOp o t x y t2 => simp only [aop, key x (by simp [Op.operands]), key y (by simp [Op.operands])]
  | unOp o t x => simp only [aop, key x (by simp [Op.operands])]
  | convert s d x => simp only [aop, key x (by simp [Op.operands])]
  | makeFunc fn first cap =>
    have h1 : first.map (ov e) = first.map (ov e') := by
      rw [← Array.toList_inj, Array.toList_map, Array.toList_map]
      exact keyl _ fun x hx => by simp only [Op.operands]; simp; exact .inl (by simpa using hx)
    have h2 : cap.map (ov e) = cap.map (ov e') := by
      rw [← Array.toList_inj, Array.toList_map, Array.toList_map]
      exact keyl _ fun x hx => by simp only [Op.operands]; simp; exact .inr (by simpa using hx)
    simp only [aop, h1, h2]
  | makeSlice t l c => simp only [aop, key l (by simp [Op.operands]), key c (by simp [Op.operands])]
  | slice t x lo hi mx => simp only [aop, key x (by simp [Op.operands]), keyo lo (fun y hy => by subst hy; simp [Op.operands]), keyo hi (fun y hy => by subst hy; simp [Op.operands]), keyo mx (fun y hy => by subst hy; simp [Op.operands])]
  | fieldAddr s x f => simp only [aop, key x (by simp [Op.operands])]
  | field s x f => simp only [aop, key x (by simp [Op.operands])]
  | indexAddr t x i => simp only [aop, key x (by simp [Op.operands]), key i (by simp [Op.operands])]
  | index t x i => simp only [aop, key x (by simp [Op.operands]), key i (by simp [Op.operands])]
  | extract x i => simp only [aop, key x (by simp [Op.operands])]
  | call c =>
    obtain ⟨callee, args, ts⟩ := c
    have hargs : args.toList.map (ov e) = args.toList.map (ov e') := keyl _ fun x hx => by
      cases callee <;> simp only [Op.operands, Call.operands] <;> simp <;> first | exact .inr (by simpa using hx) | simpa using hx
    cases callee with
    | value f => simp only [aop, hargs, key f (by simp only [Op.operands, Call.operands]; simp)]
    | builtin b => simp only [aop, hargs]
    | invoke r m => rfl
  | _ => rfl
end Go.Proofs.Yteignhphimfmkaa.Sim
