/- The calculus of the abstract machine: more rounds tell the same, and what code comes to, construct by construct. Lemmas only; no condition. -/
import Derived.Test.YteignhphimfmkaaSimL
set_option linter.unusedSimpArgs false
namespace Go.Proofs.Yteignhphimfmkaa.Sim
open Go Go.RowKit

variable {P : Program} {ro : Nat} {B : Base} {X : Ext}

def LeF (C C' : Fns) : Prop := ∀ f args h r, C f args h = some r → C' f args h = some r
theorem LeF.refl (C : Fns) : LeF C C := fun _ _ _ _ h => h
theorem keeps_mono {C C' : Fns} (hc : LeF C C') : LeF (keeps C) (keeps C') := by
  intro f args h r hr
  unfold keeps at hr ⊢
  simp only [Option.bind_eq_some_iff] at hr ⊢
  obtain ⟨q, h1, h2⟩ := hr
  exact ⟨q, hc _ _ _ _ h1, h2⟩
theorem aop_mono {C C' : Fns} (hc : LeF C C') {op : Op} {e : Env} {h : Heap} {r : Value × Heap} (hr : aop P ro C op e h = some r) : aop P ro C' op e h = some r := by
  unfold aop at hr ⊢
  split at hr <;> first | exact hr | skip
  unfold callV at hr ⊢
  split at hr
  · exact hc _ _ _ _ hr
  · cases hr
theorem aops_mono {C C' : Fns} (hc : LeF C C') {ops : Array Oper} : ∀ {l : List Oper} {e : Env} {h : Heap} {r : Env × Heap}, aops P ro C ops l e h = some r → aops P ro C' ops l e h = some r
  | [], _, _, _, hr => hr
  | o :: l, e, h, r, hr => by
    simp only [aops] at hr ⊢
    split
    · rename_i hw
      rw [if_pos hw] at hr
      simp only [Option.bind_eq_some_iff] at hr ⊢
      obtain ⟨q, h1, h2⟩ := hr
      exact ⟨q, aop_mono hc h1, aops_mono hc h2⟩
    · rename_i hw
      rw [if_neg hw] at hr
      exact aops_mono hc hr
theorem loopF_mono {b b' : Env → Heap → Option (Ex × Env × Heap)} (hb : ∀ e h r, b e h = some r → b' e h = some r) : ∀ {n n' : Nat}, n ≤ n' → ∀ {e : Env} {h : Heap} {r : Ex × Env × Heap}, loopF b n e h = some r → loopF b' n' e h = some r
  | 0, _, _, _, _, _, hr => by simp only [loopF] at hr; cases hr
  | n + 1, 0, hn, _, _, _, _ => by omega
  | n + 1, n' + 1, hn, e, h, r, hr => by
    simp only [loopF, Option.bind_eq_some_iff] at hr ⊢
    obtain ⟨q, h1, h2⟩ := hr
    refine ⟨q, hb _ _ _ h1, ?_⟩
    obtain ⟨x, e2, h3⟩ := q
    cases x with
    | normal => exact loopF_mono hb (Nat.le_of_succ_le_succ hn) h2
    | exit id => exact h2
    | ret => exact h2
theorem ev_mono {C C' : Fns} (hc : LeF C C') {n n' : Nat} (hn : n ≤ n') : ∀ {c : Code} {e : Env} {h : Heap} {r : Ex × Env × Heap}, ev P ro C n c e h = some r → ev P ro C' n' c e h = some r := by
  intro c
  induction c with
  | region id ops draw =>
    intro e h r hr
    simp only [ev, Option.map_eq_some_iff] at hr ⊢
    obtain ⟨q, h1, h2⟩ := hr
    refine ⟨q, ?_, h2⟩
    cases draw with
    | false => exact aops_mono hc h1
    | true => exact aops_mono (keeps_mono hc) h1
  | seq a b iha ihb =>
    intro e h r hr
    simp only [ev, Option.bind_eq_some_iff] at hr ⊢
    obtain ⟨⟨x, e2, h2⟩, h1, h3⟩ := hr
    refine ⟨_, iha h1, ?_⟩
    cases x with
    | normal => exact ihb h3
    | exit id => exact h3
    | ret => exact h3
  | cond c a b iha ihb =>
    intro e h r hr
    simp only [ev] at hr ⊢
    split at hr
    · exact iha hr
    · exact ihb hr
    · cases hr
  | block id c ih =>
    intro e h r hr
    simp only [ev, Option.map_eq_some_iff] at hr ⊢
    obtain ⟨q, h1, h2⟩ := hr
    exact ⟨q, ih h1, h2⟩
  | loop c ih =>
    intro e h r hr
    simp only [ev] at hr ⊢
    exact loopF_mono (fun e h r hb => ih hb) hn hr
  | _ => intro e h r hr; first | exact hr | (simp only [ev] at hr; cases hr)
theorem callN_succ (n : Nat) (f : FuncId) (args : List Value) (h : Heap) : callN P ro X (n + 1) f args h = (match X f with
    | some F => F args h
    | none => (P.funcs[f]?).bind fun fn => (fn.body).bind fun c =>
      if fnOk P fn = true ∧ args.length ≤ fn.ntmps then
        (ev P ro (callN P ro X n) n c (entry args) h).bind fun q => match q.1 with | .exit _ => none | _ => fin P fn h q.2.1 q.2.2
      else none) := rfl
theorem callN_step : ∀ n, LeF (callN P ro X n) (callN P ro X (n + 1))
  | 0 => by intro f args h r hr; simp only [callN] at hr; cases hr
  | n + 1 => by
    intro f args h r hr
    have ih := callN_step n
    rw [callN_succ] at hr ⊢
    cases hXf : X f with
    | some F => rw [hXf] at hr; exact hr
    | none =>
      rw [hXf] at hr
      simp only [Option.bind_eq_some_iff] at hr ⊢
      obtain ⟨fn, h1, c, h2, h3⟩ := hr
      refine ⟨fn, h1, c, h2, ?_⟩
      split at h3
      · rename_i hcond
        rw [if_pos hcond]
        simp only [Option.bind_eq_some_iff] at h3 ⊢
        obtain ⟨q, h4, h5⟩ := h3
        exact ⟨q, ev_mono ih (Nat.le_succ n) h4, h5⟩
      · cases h3
theorem callN_le {n m : Nat} (h : n ≤ m) : LeF (callN P ro X n) (callN P ro X m) := by
  induction m with
  | zero => rw [Nat.le_zero.1 h]; exact LeF.refl _
  | succ m ih =>
    by_cases hm : n = m + 1
    · subst hm; exact LeF.refl _
    · intro f args hp r hr
      exact callN_step m f args hp r (ih (by omega) f args hp r hr)
noncomputable def CN (P : Program) (ro : Nat) (X : Ext) (dr : Bool) (n : Nat) : Fns := if dr then keeps (callN P ro X n) else callN P ro X n
theorem CN_le {n m : Nat} (h : n ≤ m) (dr : Bool) : LeF (CN P ro X dr n) (CN P ro X dr m) := by
  cases dr
  · exact callN_le h
  · exact keeps_mono (callN_le h)

/-- A call comes to a result and a heap. -/
def Call (P : Program) (ro : Nat) (X : Ext) (f : FuncId) (args : List Value) (h : Heap) (r : Value) (h' : Heap) : Prop := ∃ n, callN P ro X n f args h = some (r, h')
/-- Code comes to an end of which 'Q' holds. -/
def W (P : Program) (ro : Nat) (X : Ext) (c : Code) (Q : Ex → Env → Heap → Prop) (e : Env) (h : Heap) : Prop := ∃ n x e' h', ev P ro (callN P ro X n) n c e h = some (x, e', h') ∧ Q x e' h'
/-- Operations come to a frame and a heap of which 'K' holds. -/
def WO (P : Program) (ro : Nat) (X : Ext) (dr : Bool) (ops : Array Oper) (l : List Oper) (K : Env → Heap → Prop) (e : Env) (h : Heap) : Prop := ∃ n e' h', aops P ro (CN P ro X dr n) ops l e h = some (e', h') ∧ K e' h'
/-- One operation. -/
def OP (P : Program) (ro : Nat) (X : Ext) (dr : Bool) (op : Op) (e : Env) (h : Heap) (K : Value → Heap → Prop) : Prop := ∃ n v h', aop P ro (CN P ro X dr n) op e h = some (v, h') ∧ K v h'

theorem Call.det {f : FuncId} {args : List Value} {h h1 h2 : Heap} {r1 r2 : Value} (a : Call P ro X f args h r1 h1) (b : Call P ro X f args h r2 h2) : r2 = r1 ∧ h2 = h1 := by
  obtain ⟨n, hn⟩ := a
  obtain ⟨m, hm⟩ := b
  have h1' := callN_le (Nat.le_max_left n m) _ _ _ _ hn
  have h2' := callN_le (Nat.le_max_right n m) _ _ _ _ hm
  rw [h1'] at h2'
  cases h2'
  exact ⟨rfl, rfl⟩
theorem Call.iff {f : FuncId} {args : List Value} {h h1 : Heap} {r1 : Value} (a : Call P ro X f args h r1 h1) (r : Value) (h' : Heap) : Call P ro X f args h r h' ↔ r = r1 ∧ h' = h1 :=
  ⟨fun b => a.det b, fun ⟨e1, e2⟩ => by rw [e1, e2]; exact a⟩

def thenQ (next : Env → Heap → Prop) (Q : Ex → Env → Heap → Prop) : Ex → Env → Heap → Prop
  | .normal, e, h => next e h
  | x, e, h => Q x e h
theorem thenQ_normal (next : Env → Heap → Prop) (Q : Ex → Env → Heap → Prop) (e : Env) (h : Heap) : thenQ next Q .normal e h = next e h := rfl
theorem thenQ_exit (next : Env → Heap → Prop) (Q : Ex → Env → Heap → Prop) (i : Nat) (e : Env) (h : Heap) : thenQ next Q (.exit i) e h = Q (.exit i) e h := rfl
theorem thenQ_ret (next : Env → Heap → Prop) (Q : Ex → Env → Heap → Prop) (e : Env) (h : Heap) : thenQ next Q .ret e h = Q .ret e h := rfl
def blockQ (id : Nat) (Q : Ex → Env → Heap → Prop) : Ex → Env → Heap → Prop
  | .exit i, e, h => if i = id then Q .normal e h else Q (.exit i) e h
  | x, e, h => Q x e h
theorem blockQ_normal (id : Nat) (Q : Ex → Env → Heap → Prop) (e : Env) (h : Heap) : blockQ id Q .normal e h = Q .normal e h := rfl
theorem blockQ_exit (id : Nat) (Q : Ex → Env → Heap → Prop) (i : Nat) (e : Env) (h : Heap) : blockQ id Q (.exit i) e h = if i = id then Q .normal e h else Q (.exit i) e h := rfl
theorem blockQ_ret (id : Nat) (Q : Ex → Env → Heap → Prop) (e : Env) (h : Heap) : blockQ id Q .ret e h = Q .ret e h := rfl
def condV (v : Value) (A B : Prop) : Prop := match v with | .bool t => if t = true then A else B | _ => False
theorem condV_bool (t : Bool) (A B : Prop) : condV (.bool t) A B = if t = true then A else B := rfl

theorem W_mono {c : Code} {Q Q' : Ex → Env → Heap → Prop} {e : Env} {h : Heap} (hw : W P ro X c Q e h) (hq : ∀ x e h, Q x e h → Q' x e h) : W P ro X c Q' e h := by
  obtain ⟨n, x, e', h', h1, h2⟩ := hw
  exact ⟨n, x, e', h', h1, hq _ _ _ h2⟩
theorem W_skip {Q : Ex → Env → Heap → Prop} {e : Env} {h : Heap} : W P ro X .skip Q e h ↔ Q .normal e h :=
  ⟨fun ⟨n, x, e', h', h1, h2⟩ => by simp only [ev] at h1; cases h1; exact h2, fun hq => ⟨0, _, _, _, rfl, hq⟩⟩
theorem W_ret {Q : Ex → Env → Heap → Prop} {e : Env} {h : Heap} : W P ro X .ret Q e h ↔ Q .ret e h :=
  ⟨fun ⟨n, x, e', h', h1, h2⟩ => by simp only [ev] at h1; cases h1; exact h2, fun hq => ⟨0, _, _, _, rfl, hq⟩⟩
theorem W_exit {i : Nat} {Q : Ex → Env → Heap → Prop} {e : Env} {h : Heap} : W P ro X (.exit i) Q e h ↔ Q (.exit i) e h :=
  ⟨fun ⟨n, x, e', h', h1, h2⟩ => by simp only [ev] at h1; cases h1; exact h2, fun hq => ⟨0, _, _, _, rfl, hq⟩⟩
theorem W_region {id : Nat} {ops : Array Oper} {dr : Bool} {Q : Ex → Env → Heap → Prop} {e : Env} {h : Heap} : W P ro X (.region id ops dr) Q e h ↔ WO P ro X dr ops ops.toList (fun e h => Q .normal e h) e h := by
  constructor
  · rintro ⟨n, x, e', h', h1, h2⟩
    simp only [ev, Option.map_eq_some_iff] at h1
    obtain ⟨⟨e2, h3⟩, h4, h5⟩ := h1
    cases h5
    exact ⟨n, _, _, h4, h2⟩
  · rintro ⟨n, e', h', h1, h2⟩
    refine ⟨n, .normal, e', h', ?_, h2⟩
    simp only [ev, Option.map_eq_some_iff]
    exact ⟨(e', h'), h1, rfl⟩
theorem W_seq {a b : Code} {Q : Ex → Env → Heap → Prop} {e : Env} {h : Heap} : W P ro X (.seq a b) Q e h ↔ W P ro X a (thenQ (W P ro X b Q) Q) e h := by
  constructor
  · rintro ⟨n, x, e', h', h1, h2⟩
    simp only [ev, Option.bind_eq_some_iff] at h1
    obtain ⟨⟨x1, e1, h3⟩, h4, h5⟩ := h1
    refine ⟨n, x1, e1, h3, h4, ?_⟩
    cases x1 with
    | normal => exact ⟨n, x, e', h', h5, h2⟩
    | exit i => cases h5; exact h2
    | ret => cases h5; exact h2
  · rintro ⟨n, x1, e1, h3, h4, h5⟩
    cases x1 with
    | normal =>
      obtain ⟨m, x, e', h', h6, h7⟩ := h5
      refine ⟨max n m, x, e', h', ?_, h7⟩
      simp only [ev, Option.bind_eq_some_iff]
      exact ⟨_, ev_mono (callN_le (Nat.le_max_left n m)) (Nat.le_max_left n m) h4, ev_mono (callN_le (Nat.le_max_right n m)) (Nat.le_max_right n m) h6⟩
    | exit i => exact ⟨n, .exit i, e1, h3, by simp only [ev, Option.bind_eq_some_iff]; exact ⟨_, h4, rfl⟩, h5⟩
    | ret => exact ⟨n, .ret, e1, h3, by simp only [ev, Option.bind_eq_some_iff]; exact ⟨_, h4, rfl⟩, h5⟩
theorem W_cond {c : Operand} {a b : Code} {Q : Ex → Env → Heap → Prop} {e : Env} {h : Heap} : W P ro X (.cond c a b) Q e h ↔ condV (ov e c) (W P ro X a Q e h) (W P ro X b Q e h) := by
  unfold condV
  constructor
  · rintro ⟨n, x, e', h', h1, h2⟩
    simp only [ev] at h1
    split at h1
    · rename_i hb; simp only [hb, if_true]; exact ⟨n, x, e', h', h1, h2⟩
    · rename_i hb; simp only [hb, Bool.false_eq_true, if_false]; exact ⟨n, x, e', h', h1, h2⟩
    · cases h1
  · intro hh
    split at hh
    · rename_i t hb
      cases t with
      | true => simp only [if_true] at hh; obtain ⟨n, x, e', h', h1, h2⟩ := hh; exact ⟨n, x, e', h', by simp only [ev, hb]; exact h1, h2⟩
      | false => simp only [Bool.false_eq_true, if_false] at hh; obtain ⟨n, x, e', h', h1, h2⟩ := hh; exact ⟨n, x, e', h', by simp only [ev, hb]; exact h1, h2⟩
    · exact hh.elim
theorem W_block {id : Nat} {c : Code} {Q : Ex → Env → Heap → Prop} {e : Env} {h : Heap} : W P ro X (.block id c) Q e h ↔ W P ro X c (blockQ id Q) e h := by
  constructor
  · rintro ⟨n, x, e', h', h1, h2⟩
    simp only [ev, Option.map_eq_some_iff] at h1
    obtain ⟨⟨x1, e1, h3⟩, h4, h5⟩ := h1
    cases h5
    refine ⟨n, x1, _, _, h4, ?_⟩
    cases x1 with
    | normal => exact h2
    | exit i =>
      simp only [blockQ]
      by_cases hi : i = id
      · subst hi; simpa using h2
      · rw [if_neg hi]; simpa [hi] using h2
    | ret => exact h2
  · rintro ⟨n, x1, e1, h3, h4, h5⟩
    refine ⟨n, if x1 = .exit id then .normal else x1, e1, h3, by simp only [ev, Option.map_eq_some_iff]; exact ⟨_, h4, rfl⟩, ?_⟩
    cases x1 with
    | normal => exact h5
    | exit i =>
      simp only [blockQ] at h5
      by_cases hi : i = id
      · subst hi; simpa using h5
      · simpa [hi] using h5
    | ret => exact h5
/-- One round of a loop. -/
theorem W_loop {c : Code} {Q : Ex → Env → Heap → Prop} {e : Env} {h : Heap} : W P ro X (.loop c) Q e h ↔ W P ro X c (thenQ (W P ro X (.loop c) Q) Q) e h := by
  constructor
  · rintro ⟨n, x, e', h', h1, h2⟩
    cases n with
    | zero => simp only [ev, loopF] at h1; cases h1
    | succ n =>
      have h1' := h1
      simp only [ev, loopF, Option.bind_eq_some_iff] at h1
      obtain ⟨⟨x1, e1, h3⟩, h4, h5⟩ := h1
      refine ⟨n + 1, x1, e1, h3, h4, ?_⟩
      cases x1 with
      | normal =>
        refine ⟨n + 1, x, e', h', ?_, h2⟩
        simp only [ev]
        exact loopF_mono (fun _ _ _ h => h) (Nat.le_succ n) h5
      | exit i => cases h5; exact h2
      | ret => cases h5; exact h2
  · rintro ⟨n, x1, e1, h3, h4, h5⟩
    cases x1 with
    | normal =>
      obtain ⟨m, x, e', h', h6, h7⟩ := h5
      have hn : n ≤ max n m + 1 := by omega
      have hm : m ≤ max n m + 1 := by omega
      refine ⟨max n m + 1, x, e', h', ?_, h7⟩
      simp only [ev, loopF, Option.bind_eq_some_iff]
      refine ⟨_, ev_mono (callN_le hn) hn h4, ?_⟩
      simp only [ev] at h6
      exact loopF_mono (fun e h r hb => ev_mono (callN_le hm) hm hb) (Nat.le_max_right n m) h6
    | exit i => exact ⟨n + 1, .exit i, e1, h3, by simp only [ev, loopF, Option.bind_eq_some_iff]; exact ⟨_, ev_mono (callN_le (Nat.le_succ n)) (Nat.le_succ n) h4, rfl⟩, h5⟩
    | ret => exact ⟨n + 1, .ret, e1, h3, by simp only [ev, loopF, Option.bind_eq_some_iff]; exact ⟨_, ev_mono (callN_le (Nat.le_succ n)) (Nat.le_succ n) h4, rfl⟩, h5⟩
/-- A loop by what holds at its head with so many rounds to come. -/
theorem W_rounds {c : Code} {Q : Ex → Env → Heap → Prop} (I : Nat → Env → Heap → Prop) (step : ∀ n e h, I n e h → W P ro X c (thenQ (fun e' h' => ∃ m, m < n ∧ I m e' h') Q) e h) : ∀ (n : Nat) (e : Env) (h : Heap), I n e h → W P ro X (.loop c) Q e h := by
  intro n
  induction n using Nat.strongRecOn with
  | _ n ih =>
    intro e h hI
    rw [W_loop]
    refine W_mono (step n e h hI) fun x e' h' hx => ?_
    cases x with
    | normal => obtain ⟨m, hm, hI'⟩ := hx; exact ih m hm e' h' hI'
    | exit i => exact hx
    | ret => exact hx

theorem WO_nil {dr : Bool} {ops : Array Oper} {K : Env → Heap → Prop} {e : Env} {h : Heap} : WO P ro X dr ops [] K e h ↔ K e h :=
  ⟨fun ⟨n, e', h', h1, h2⟩ => by simp only [aops] at h1; cases h1; exact h2, fun hq => ⟨0, _, _, rfl, hq⟩⟩
theorem WO_cons {dr : Bool} {ops : Array Oper} {o : Oper} {l : List Oper} {K : Env → Heap → Prop} {e : Env} {h : Heap} : WO P ro X dr ops (o :: l) K e h ↔
    if wants ops e o = true then OP P ro X dr o.op e h (fun v h' => WO P ro X dr ops l K (updO e o.dst v) h') else WO P ro X dr ops l K (updO e o.dst undef) h := by
  constructor
  · rintro ⟨n, e', h', h1, h2⟩
    simp only [aops] at h1
    split
    · rename_i hw
      rw [if_pos hw] at h1
      simp only [Option.bind_eq_some_iff] at h1
      obtain ⟨⟨v, h3⟩, h4, h5⟩ := h1
      exact ⟨n, v, h3, h4, n, e', h', h5, h2⟩
    · rename_i hw
      rw [if_neg hw] at h1
      exact ⟨n, e', h', h1, h2⟩
  · intro hh
    split at hh
    · rename_i hw
      obtain ⟨n, v, h3, h4, m, e', h', h5, h2⟩ := hh
      refine ⟨max n m, e', h', ?_, h2⟩
      simp only [aops]
      rw [if_pos hw]
      simp only [Option.bind_eq_some_iff]
      exact ⟨_, aop_mono (CN_le (Nat.le_max_left n m) dr) h4, aops_mono (CN_le (Nat.le_max_right n m) dr) h5⟩
    · rename_i hw
      obtain ⟨n, e', h', h5, h2⟩ := hh
      refine ⟨n, e', h', ?_, h2⟩
      simp only [aops]
      rw [if_neg hw]
      exact h5
theorem WO_plain {dr : Bool} {ops : Array Oper} {d : Option Nat} {op : Op} {t : TypeId} {p : String} {a : Array Edge} {l : List Oper} {K : Env → Heap → Prop} {e : Env} {h : Heap} : WO P ro X dr ops (⟨d, op, t, p, a, none⟩ :: l) K e h ↔
    OP P ro X dr op e h (fun v h' => WO P ro X dr ops l K (updO e d v) h') := by
  rw [WO_cons]
  have : wants ops e ⟨d, op, t, p, a, none⟩ = true := rfl
  rw [if_pos this]

/-- An operation that calls nothing. -/
theorem OP_pure {dr : Bool} {op : Op} {e : Env} {h : Heap} {K : Value → Heap → Prop} (F : Option (Value × Heap)) (hF : ∀ C, aop P ro C op e h = F) : OP P ro X dr op e h K ↔ ∃ v h', F = some (v, h') ∧ K v h' :=
  ⟨fun ⟨n, v, h', h1, h2⟩ => ⟨v, h', by rw [hF] at h1; exact h1, h2⟩, fun ⟨v, h', h1, h2⟩ => ⟨0, v, h', by rw [hF]; exact h1, h2⟩⟩
section ops
variable {dr : Bool} {e : Env} {h : Heap} {K : Value → Heap → Prop}
theorem map_iff {α : Type} {o : Option Value} {g : Value → α} {F : α → Prop} : (∃ r, o.map g = some r ∧ F r) ↔ ∃ v, o = some v ∧ F (g v) := by
  cases o <;> simp
theorem pure_iff {o : Option Value} : (∃ v h', o.map (fun v => (v, h)) = some (v, h') ∧ K v h') ↔ ∃ v, o = some v ∧ K v h := by
  cases o with
  | none => simp
  | some v => exact ⟨fun ⟨_, _, h1, k⟩ => by cases h1; exact ⟨_, rfl, k⟩, fun ⟨_, h1, k⟩ => by cases h1; exact ⟨_, _, rfl, k⟩⟩
theorem some_iff {v : Value} {h : Heap} {K : Value → Heap → Prop} : (∃ v' h', some (v, h) = some (v', h') ∧ K v' h') ↔ K v h :=
  ⟨fun ⟨_, _, h1, k⟩ => by cases h1; exact k, fun k => ⟨_, _, rfl, k⟩⟩
theorem OP_move {x : Operand} : OP P ro X dr (.move x) e h K ↔ K (ov e x) h := by rw [OP_pure _ (fun _ => rfl)]; exact some_iff
theorem OP_assign {x : Operand} : OP P ro X dr (.assign x) e h K ↔ K (ov e x) h := by rw [OP_pure _ (fun _ => rfl)]; exact some_iff
def pickV (c a b : Value) : Option Value := match c with | .bool t => some (if t then a else b) | _ => none
theorem pickV_bool (t : Bool) (a b : Value) : pickV (.bool t) a b = some (if t then a else b) := rfl
theorem OP_pick {c a b : Operand} : OP P ro X dr (.pick c a b) e h K ↔ ∃ v, pickV (ov e c) (ov e a) (ov e b) = some v ∧ K v h := by
  rw [OP_pure ((pickV (ov e c) (ov e a) (ov e b)).map fun v => (v, h)) (fun _ => by simp only [aop, pickV]; cases ov e c <;> rfl)]; exact pure_iff
theorem OP_alloc {t : TypeId} : OP P ro X dr (.alloc t) e h K ↔ ∃ v h', (zeroT P t).bind (fun z => boxV h t z) = some (v, h') ∧ K v h' := OP_pure _ (fun _ => rfl)
theorem OP_box {t : TypeId} {x : Operand} : OP P ro X dr (.box t x) e h K ↔ ∃ v h', boxV h t (ov e x) = some (v, h') ∧ K v h' := OP_pure _ (fun _ => rfl)
theorem OP_build {t : TypeId} {ps : Array (Nat × Operand)} : OP P ro X dr (.build t ps) e h K ↔ ∃ v, bld P t (ps.toList.map fun q => (q.1, ov e q.2)) = some v ∧ K v h := by rw [OP_pure _ (fun _ => rfl)]; exact pure_iff
theorem OP_buildSlice {t : TypeId} {n : Nat} {ps : Array (Nat × Operand)} : OP P ro X dr (.buildSlice t n ps) e h K ↔ ∃ v h', bldS P h t n (ps.toList.map fun q => (q.1, ov e q.2)) = some (v, h') ∧ K v h' := OP_pure _ (fun _ => rfl)
theorem OP_load {t : TypeId} {x : Operand} : OP P ro X dr (.load t x) e h K ↔ ∃ v, ld P h t (ov e x) = some v ∧ K v h := by rw [OP_pure _ (fun _ => rfl)]; exact pure_iff
theorem OP_store {t : TypeId} {x y : Operand} : OP P ro X dr (.store t x y) e h K ↔ ∃ h', stv P ro h t (ov e x) (ov e y) = some h' ∧ K undef h' := by
  rw [OP_pure _ (fun _ => rfl)]
  cases stv P ro h t (ov e x) (ov e y) with
  | none => simp
  | some v => exact ⟨fun ⟨_, _, h1, k⟩ => by cases h1; exact ⟨_, rfl, k⟩, fun ⟨_, h1, k⟩ => by cases h1; exact ⟨_, _, rfl, k⟩⟩
def nilV (x : Value) : Option Value := match x with | .pointer (some a) => some (.pointer (some a)) | .func (.func f) a b => some (.func (.func f) a b) | _ => none
theorem nilV_ptr (a : Addr) : nilV (.pointer (some a)) = some (.pointer (some a)) := rfl
theorem nilV_func (f : FuncId) (a b : Array Value) : nilV (.func (.func f) a b) = some (.func (.func f) a b) := rfl
theorem nilV_map (x : Value) : (match x with | .pointer (some a) => some (.pointer (some a), h) | .func (.func f) a b => some (.func (.func f) a b, h) | _ => none) = (nilV x).map fun v => (v, h) := by
  unfold nilV
  split <;> rfl
theorem OP_nilCheck {x : Operand} : OP P ro X dr (.nilCheck x) e h K ↔ ∃ v, nilV (ov e x) = some v ∧ K v h := by
  rw [OP_pure ((nilV (ov e x)).map fun v => (v, h)) (fun _ => by simp only [aop]; exact nilV_map _)]; exact pure_iff
theorem OP_binOp {o : BinOp} {t t2 : TypeId} {x y : Operand} : OP P ro X dr (.binOp o t x y t2) e h K ↔ ∃ v, abin P o t (ov e x) (ov e y) = some v ∧ K v h := by rw [OP_pure _ (fun _ => rfl)]; exact pure_iff
theorem OP_unOp {o : UnOp} {t : TypeId} {x : Operand} : OP P ro X dr (.unOp o t x) e h K ↔ ∃ v, aun P o (ov e x) = some v ∧ K v h := by rw [OP_pure _ (fun _ => rfl)]; exact pure_iff
theorem OP_convert {s d : TypeId} {x : Operand} : OP P ro X dr (.convert s d x) e h K ↔ ∃ v, aconv P h s d (ov e x) = some v ∧ K v h := by rw [OP_pure _ (fun _ => rfl)]; exact pure_iff
theorem OP_makeFunc {f : Fn} {a b : Array Operand} : OP P ro X dr (.makeFunc f a b) e h K ↔ K (.func f (a.map (ov e)) (b.map (ov e))) h := by rw [OP_pure _ (fun _ => rfl)]; exact some_iff
theorem OP_makeSlice {t : TypeId} {l c : Operand} : OP P ro X dr (.makeSlice t l c) e h K ↔ ∃ v h', mk P h t (ov e l) (ov e c) = some (v, h') ∧ K v h' := OP_pure _ (fun _ => rfl)
theorem OP_slice {t : TypeId} {x : Operand} {lo hi mx : Option Operand} : OP P ro X dr (.slice t x lo hi mx) e h K ↔ ∃ v, slc P ro h t (ov e x) (lo.map (ov e)) (hi.map (ov e)) (mx.map (ov e)) = some v ∧ K v h := by rw [OP_pure _ (fun _ => rfl)]; exact pure_iff
theorem OP_fieldAddr {s : TypeId} {x : Operand} {f : Nat} : OP P ro X dr (.fieldAddr s x f) e h K ↔ ∃ v, fadr P s (ov e x) f = some v ∧ K v h := by rw [OP_pure _ (fun _ => rfl)]; exact pure_iff
theorem OP_field {s : TypeId} {x : Operand} {f : Nat} : OP P ro X dr (.field s x f) e h K ↔ ∃ v, fld P s (ov e x) f = some v ∧ K v h := by rw [OP_pure _ (fun _ => rfl)]; exact pure_iff
theorem OP_indexAddr {t : TypeId} {x i : Operand} : OP P ro X dr (.indexAddr t x i) e h K ↔ ∃ v, iadr P t (ov e x) (ov e i) = some v ∧ K v h := by rw [OP_pure _ (fun _ => rfl)]; exact pure_iff
theorem OP_index {t : TypeId} {x i : Operand} : OP P ro X dr (.index t x i) e h K ↔ ∃ v, idx P t (ov e x) (ov e i) = some v ∧ K v h := by rw [OP_pure _ (fun _ => rfl)]; exact pure_iff
def extV (x : Value) (i : Nat) : Option Value := match x with | .tuple ⟨vs⟩ => vs[i]? | _ => none
theorem extV_tuple (vs : List Value) (i : Nat) : extV (.tuple ⟨vs⟩) i = vs[i]? := rfl
theorem OP_extract {x : Operand} {i : Nat} : OP P ro X dr (.extract x i) e h K ↔ ∃ v, extV (ov e x) i = some v ∧ K v h := by
  rw [OP_pure ((extV (ov e x) i).map fun v => (v, h)) (fun _ => by simp only [aop, extV]; generalize ov e x = y; cases y <;> rfl)]; exact pure_iff
theorem OP_builtin {b : Builtin} {args : Array Operand} {ts : Array TypeId} : OP P ro X dr (.call ⟨.builtin b, args, ts⟩) e h K ↔ ∃ v h', ablt P ro b ts.toList (args.toList.map (ov e)) h = some (v, h') ∧ K v h' := OP_pure _ (fun _ => rfl)
def CallV (P : Program) (ro : Nat) (X : Ext) (v : Value) (args : List Value) (h : Heap) (r : Value) (h' : Heap) : Prop :=
  match v with
  | .func (.func f) ⟨first⟩ ⟨cap⟩ => Call P ro X f (first ++ args ++ cap) h r h'
  | _ => False
theorem CallV_func (f : FuncId) (first cap args : List Value) (h : Heap) (r : Value) (h' : Heap) : CallV P ro X (.func (.func f) ⟨first⟩ ⟨cap⟩) args h r h' = Call P ro X f (first ++ args ++ cap) h r h' := rfl
theorem OP_call {f : Operand} {args : Array Operand} {ts : Array TypeId} : OP P ro X dr (.call ⟨.value f, args, ts⟩) e h K ↔ ∃ r h', CallV P ro X (ov e f) (args.toList.map (ov e)) h r h' ∧ (dr = true → h' = h) ∧ K r h' := by
  constructor
  · rintro ⟨n, v, h', h1, h2⟩
    simp only [aop, callV] at h1
    split at h1
    · rename_i g first cap hg
      refine ⟨v, h', ?_, ?_, h2⟩
      · rw [hg, CallV_func]
        unfold CN at h1
        cases dr
        · exact ⟨n, h1⟩
        · simp only [if_true, keeps, Option.bind_eq_some_iff] at h1
          obtain ⟨q, h3, h4⟩ := h1
          split at h4
          · cases h4; exact ⟨n, h3⟩
          · cases h4
      · intro hd
        subst hd
        simp only [CN, if_true, keeps, Option.bind_eq_some_iff] at h1
        obtain ⟨q, h3, h4⟩ := h1
        split at h4
        · rename_i he; cases h4; exact he
        · cases h4
    · cases h1
  · rintro ⟨r, h', h1, h2, h3⟩
    unfold CallV at h1
    split at h1
    · rename_i g first cap hg
      obtain ⟨n, hn⟩ := h1
      refine ⟨n, r, h', ?_, h3⟩
      simp only [aop, callV, hg]
      unfold CN
      cases dr
      · exact hn
      · simp only [if_true, keeps, Option.bind_eq_some_iff]
        exact ⟨(r, h'), hn, by rw [if_pos (h2 rfl)]⟩
    · exact h1.elim
end ops

/-- A function by its body. -/
theorem call_of_W {f : FuncId} {fn : Func} {c : Code} {args : List Value} {h h' : Heap} {r : Value} (hX : X f = none) (hf : P.funcs[f]? = some fn) (hb : fn.body = some c) (hok : fnOk P fn = true) (hl : args.length ≤ fn.ntmps)
    (hw : W P ro X c (fun x e2 h2 => (x = .ret ∨ x = .normal) ∧ fin P fn h e2 h2 = some (r, h')) (entry args) h) : Call P ro X f args h r h' := by
  obtain ⟨n, x, e2, h2, h1, hx, hfin⟩ := hw
  refine ⟨n + 1, ?_⟩
  rw [callN_succ]
  simp only [hX, hf, hb, Option.bind_some]
  rw [if_pos ⟨hok, hl⟩]
  simp only [Option.bind_eq_some_iff]
  refine ⟨_, h1, ?_⟩
  rcases hx with rfl | rfl <;> exact hfin
theorem call_of_W' {f : FuncId} {fn : Func} {c : Code} {args : List Value} {h : Heap} {R : Value → Heap → Prop} (hX : X f = none) (hf : P.funcs[f]? = some fn) (hb : fn.body = some c) (hok : fnOk P fn = true) (hl : args.length ≤ fn.ntmps)
    (hw : W P ro X c (fun x e2 h2 => (x = .ret ∨ x = .normal) ∧ ∃ r h', fin P fn h e2 h2 = some (r, h') ∧ R r h') (entry args) h) : ∃ r h', Call P ro X f args h r h' ∧ R r h' := by
  obtain ⟨n, x, e2, h2, h1, hx, r, h', hfin, hR⟩ := hw
  exact ⟨r, h', call_of_W hX hf hb hok hl ⟨n, x, e2, h2, h1, hx, hfin⟩, hR⟩
theorem call_ext {f : FuncId} {F : List Value → Heap → Option (Value × Heap)} {args : List Value} {h h' : Heap} {r : Value} (hX : X f = some F) (hF : F args h = some (r, h')) : Call P ro X f args h r h' := ⟨1, by rw [callN_succ]; simp only [hX, hF]⟩

/-- What the abstract machine says of a call holds in the model. -/
theorem calls_of_Call (hm : P.follows .mixedOrders = true) {f : FuncId} {fn : Func} {args : List Value} {h h' : Heap} {r : Value} (hX : XOk P ro B X) (hf : P.funcs[f]? = some fn) (hb : fn.body.isSome = true) (hn : fn.name ≠ "runtime.NumGoroutine") (hc : Call P ro X f args h r h') {ρ : List Loc} {w : World} {args' : List Value} (hs : SR P ro B ρ h w)
    (hB : B.n ≤ w.heap.size) (hargs : VRs P ro ρ args args') : Calls P f ⟨args'⟩ w fun e w' => ∃ v, e = .returned v ∧ ∃ ρ', Pre ρ ρ' ∧ SR P ro B ρ' h' w' ∧ VR P ro ρ' r v ∧ Below B.n w w' := by
  obtain ⟨n, hn'⟩ := hc
  rcases call_snd hm hX n f args h r h' hn' ρ w args' hs hB hargs with ⟨v, w', h1, _⟩ | ⟨_, h2⟩
  · exfalso
    obtain ⟨c, hc⟩ := Option.isSome_iff_exists.1 hb
    simp [callFunc, hf, hn, hc] at h1
  · exact h2
end Go.Proofs.Yteignhphimfmkaa.Sim
