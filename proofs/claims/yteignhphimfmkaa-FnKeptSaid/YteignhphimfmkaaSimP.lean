/- The calculus once more, in the form in which simp runs it: what comes next is not looked at before its time. Lemmas only; no condition. -/
import Derived.Test.YteignhphimfmkaaSimN
set_option linter.unusedSimpArgs false
namespace Go.Proofs.Yteignhphimfmkaa.Sim
open Go Go.RowKit

variable {P : Program} {ro : Nat} {B : Base} {X : Ext}

/-- A mark: what bears it, simp doesn't enter. -/
class Hid {α : Sort _} (a : α) : Type where
instance {α : Sort _} (a : α) : Hid a := ⟨⟩
/-- A value, if there is one, handed on. -/
def bindO {α : Type} (F : Option α) (K : α → Prop) [Hid K] : Prop := ∃ v, F = some v ∧ K v
theorem bindO_some {α : Type} (v : α) (K : α → Prop) : bindO (some v) K = K v := propext ⟨fun ⟨_, h, k⟩ => by cases h; exact k, fun k => ⟨v, rfl, k⟩⟩
/-- A value and a heap, if there are, handed on. -/
def bindO2 (F : Option (Value × Heap)) (K : Value → Heap → Prop) [Hid K] : Prop := ∃ v h', F = some (v, h') ∧ K v h'
theorem bindO2_some (v : Value) (h : Heap) (K : Value → Heap → Prop) : bindO2 (some (v, h)) K = K v h := propext ⟨fun ⟨_, _, h, k⟩ => by cases h; exact k, fun k => ⟨v, h, rfl, k⟩⟩
/-- A value handed on, once it is worked out. -/
def bindV {α : Type} (v : α) (K : α → Prop) [Hid K] : Prop := K v
theorem bindV_go {α : Type} (v : α) (K : α → Prop) : bindV v K = K v := rfl
theorem bindO_of {α : Type} {F : Option α} {K : α → Prop} {v : α} (h : F = some v) (k : K v) : bindO F K := ⟨v, h, k⟩
/-- A choice; neither way is looked at before it is made. -/
def iteP (b : Bool) (A B : Prop) [Hid A] [Hid B] : Prop := if b = true then A else B
theorem iteP_true (A B : Prop) : iteP true A B = A := by simp [iteP]
theorem iteP_false (A B : Prop) : iteP false A B = B := by simp [iteP]
theorem iteP_yes {p : Prop} [Decidable p] (h : p) (A B : Prop) : iteP (decide p) A B = A := by simp [iteP, h]
theorem iteP_no {p : Prop} [Decidable p] (h : ¬ p) (A B : Prop) : iteP (decide p) A B = B := by simp [iteP, h]
theorem iteP_not (b : Bool) (A B : Prop) : iteP (!b) A B = iteP b B A := by cases b <;> simp [iteP]
theorem iteP_intro {b : Bool} {A B : Prop} (h1 : b = true → A) (h2 : b = false → B) : iteP b A B := by cases b <;> simp_all [iteP]
theorem iteP_dec {p : Prop} [Decidable p] {A B : Prop} (h1 : p → A) (h2 : ¬ p → B) : iteP (decide p) A B := by
  unfold iteP
  split
  · rename_i h; exact h1 (by simpa using h)
  · rename_i h; exact h2 (by simpa using h)
def condP (v : Value) (A B : Prop) [Hid A] [Hid B] : Prop := condV v A B
theorem condP_bool (t : Bool) (A B : Prop) : condP (.bool t) A B = iteP t A B := rfl
/-- A loop, before its rule is named. -/
def LoopP (P : Program) (ro : Nat) (X : Ext) (c : Code) (Q : Ex → Env → Heap → Prop) (e : Env) (h : Heap) [Hid c] [Hid Q] : Prop := W P ro X (.loop c) Q e h
theorem w_loop {c : Code} {Q : Ex → Env → Heap → Prop} {e : Env} {h : Heap} : W P ro X (.loop c) Q e h = LoopP P ro X c Q e h := rfl
theorem loop_rounds {c : Code} {Q : Ex → Env → Heap → Prop} (I : Nat → Env → Heap → Prop) (n : Nat) {e : Env} {h : Heap} (start : I n e h) (step : ∀ n e h, I n e h → W P ro X c (thenQ (fun e' h' => ∃ m, m < n ∧ I m e' h') Q) e h) : LoopP P ro X c Q e h := W_rounds I step n e h start
theorem updO_at (e : Env) (d : Nat) (v : Value) (i : Nat) : updO e (some d) v i = if i = d then v else e i := rfl
/-- The end of a call, before its rule is named. -/
def EndP (P : Program) (fn : Func) (h0 : Heap) (R : Value → Heap → Prop) (x : Ex) (e : Env) (h : Heap) : Prop := (x = .ret ∨ x = .normal) ∧ ∃ r h', fin P fn h0 e h = some (r, h') ∧ R r h'
/-- That a heap goes on from another one. -/
def Pfx (h0 h : Heap) : Prop := h.take h0.length = h0
theorem Pfx.refl (h : Heap) : Pfx h h := List.take_length
theorem Pfx.snoc {h0 h : Heap} {C : Blk} (p : Pfx h0 h) : Pfx h0 (h ++ [C]) := by
  unfold Pfx at p ⊢
  have hl : h0.length ≤ h.length := by
    have := congrArg List.length p
    rw [List.length_take] at this
    omega
  rw [List.take_append_of_le_length hl]; exact p
theorem Pfx.len {h0 h : Heap} (p : Pfx h0 h) : h0.length ≤ h.length := by
  have := congrArg List.length p
  rw [List.length_take] at this
  omega
theorem Pfx.get {h0 h : Heap} (p : Pfx h0 h) {b : Nat} (hb : b < h0.length) : h[b]? = h0[b]? := by
  have := congrArg (fun l => l[b]?) p
  simp only [List.getElem?_take_of_lt hb] at this
  exact this
theorem Pfx.trans {a b c : Heap} (p : Pfx a b) (q : Pfx b c) : Pfx a c := by
  have h1 := p.len
  have h2 : (c.take b.length).take a.length = c.take a.length := by rw [List.take_take, Nat.min_eq_left h1]
  show c.take a.length = a
  rw [← h2, show c.take b.length = b from q]
  exact p
open Classical in
/-- The heap behind a call. -/
noncomputable def endH (v : Value) (h0 h : Heap) : Heap := if flat v = true ∧ h.take h0.length = h0 then h0 else h
theorem endH_flat {v : Value} {h0 h : Heap} (hf : flat v = true) (hp : Pfx h0 h) : endH v h0 h = h0 := if_pos ⟨hf, hp⟩
theorem endH_not {v : Value} {h0 h : Heap} (hf : flat v = false) : endH v h0 h = h := if_neg (by rw [hf]; simp)
theorem endH_same {v : Value} {h : Heap} : endH v h h = h := by unfold endH; split <;> rfl
theorem end_ret {fn : Func} {h0 : Heap} {R : Value → Heap → Prop} {e : Env} {h : Heap} : EndP P fn h0 R .ret e h = bindO (allSome (fn.results.toList.map (resV P e h))) (fun vs => bindV (resT vs) (fun r => bindV (endH r h0 h) (R r))) := by
  refine propext ⟨?_, ?_⟩
  · rintro ⟨_, r, h', hf, hR⟩
    simp only [fin, Option.map_eq_some_iff] at hf
    obtain ⟨vs, h1, h2⟩ := hf
    cases h2
    exact ⟨vs, h1, hR⟩
  · rintro ⟨vs, h1, h2⟩
    exact ⟨Or.inl rfl, _, _, by simp only [fin, h1, Option.map_some]; rfl, h2⟩
theorem end_normal {fn : Func} {h0 : Heap} {R : Value → Heap → Prop} {e : Env} {h : Heap} : EndP P fn h0 R .normal e h = EndP P fn h0 R .ret e h := propext ⟨fun ⟨_, k⟩ => ⟨Or.inl rfl, k⟩, fun ⟨_, k⟩ => ⟨Or.inr rfl, k⟩⟩
/-- What a call leaves. -/
def CallR (P : Program) (ro : Nat) (X : Ext) (f : FuncId) (args : List Value) (h : Heap) (R : Value → Heap → Prop) : Prop := ∃ r h', Call P ro X f args h r h' ∧ R r h'
theorem callR_of {f : FuncId} {fn : Func} {c : Code} {args : List Value} {h : Heap} {R : Value → Heap → Prop} (hX : X f = none) (hf : P.funcs[f]? = some fn) (hb : fn.body = some c) (hok : fnOk P fn = true) (hl : args.length ≤ fn.ntmps)
    (hw : W P ro X c (EndP P fn h R) (entry args) h) : CallR P ro X f args h R := call_of_W' hX hf hb hok hl hw
theorem call_of_R {f : FuncId} {args : List Value} {h h' : Heap} {r : Value} (hc : CallR P ro X f args h (fun r' h'' => r' = r ∧ h'' = h')) : Call P ro X f args h r h' := by
  obtain ⟨_, _, hc, rfl, rfl⟩ := hc
  exact hc
theorem resV_tmp {e : Env} {h : Heap} {t : Nat} : resV P e h (.tmp t) = some (e t) := rfl
theorem resV_cell {e : Env} {h : Heap} {t : Nat} {ty : TypeId} : resV P e h (.cell t ty) = ld P h ty (e t) := rfl
theorem allSome_nil : allSome [] = some [] := rfl
theorem allSome_cons (v : Value) (l : List (Option Value)) : allSome (some v :: l) = (allSome l).map (v :: ·) := rfl
theorem resT_one (v : Value) : resT [v] = v := rfl
theorem resT_two (v w : Value) (l : List Value) : resT (v :: w :: l) = .tuple ⟨v :: w :: l⟩ := rfl
theorem updO_not (e : Env) (v : Value) (i : Nat) : updO e none v i = e i := rfl

section w
variable {Q : Ex → Env → Heap → Prop} {e : Env} {h : Heap}
theorem w_skip : W P ro X .skip Q e h = Q .normal e h := propext W_skip
theorem w_ret : W P ro X .ret Q e h = Q .ret e h := propext W_ret
theorem w_exit {i : Nat} : W P ro X (.exit i) Q e h = Q (.exit i) e h := propext W_exit
theorem w_region {id : Nat} {ops : List Oper} {dr : Bool} : W P ro X (.region id ops.toArray dr) Q e h = WO P ro X dr ops.toArray ops (Q .normal) e h := propext W_region
theorem w_seq {a b : Code} : W P ro X (.seq a b) Q e h = W P ro X a (thenQ (W P ro X b Q) Q) e h := propext W_seq
theorem w_cond {c : Operand} {a b : Code} : W P ro X (.cond c a b) Q e h = condP (ov e c) (W P ro X a Q e h) (W P ro X b Q e h) := propext W_cond
theorem w_block {id : Nat} {c : Code} : W P ro X (.block id c) Q e h = W P ro X c (blockQ id Q) e h := propext W_block
end w
section o
variable {dr : Bool} {ops : Array Oper} {l : List Oper} {KE : Env → Heap → Prop} {e : Env} {h : Heap} {d : Option Nat} {op : Op} {t : TypeId} {p : String} {a : Array Edge}
theorem o_nil : WO P ro X dr ops [] KE e h = KE e h := propext WO_nil
theorem o_plain : WO P ro X dr ops (⟨d, op, t, p, a, none⟩ :: l) KE e h = OP P ro X dr op e h (fun v h' => WO P ro X dr ops l KE (updO e d v) h') := propext WO_plain
def gvl : List Oper → Nat → Env → Value
  | [], _, _ => undef
  | o :: _, 0, e => match o.dst with | some g => e g | none => undef
  | _ :: r, n + 1, e => gvl r n e
theorem gvl_zero (g : Nat) (op : Op) (t : TypeId) (p : String) (a : Array Edge) (gg : Option (Nat × Bool)) (r : List Oper) (e : Env) : gvl (⟨some g, op, t, p, a, gg⟩ :: r) 0 e = e g := rfl
theorem gvl_succ (o : Oper) (r : List Oper) (n : Nat) (e : Env) : gvl (o :: r) (n + 1) e = gvl r n e := rfl
theorem gvl_eq : ∀ (l : List Oper) (j : Nat) (e : Env) (want : Bool), (match (l[j]?).bind (·.dst) with | some d => (match e d with | .bool b => b == want | _ => false) | none => false) = gd (gvl l j e) want
  | [], j, e, want => by simp [gvl, gd, undef]
  | o :: r, 0, e, want => by
    simp only [List.getElem?_cons_zero, Option.bind_some, gvl]
    cases o.dst with
    | none => rfl
    | some d => cases e d <;> rfl
  | o :: r, n + 1, e, want => by
    simp only [List.getElem?_cons_succ, gvl]
    exact gvl_eq r n e want
theorem o_guard {ops : List Oper} {j : Nat} {want : Bool} : WO P ro X dr ops.toArray (⟨d, op, t, p, a, some (j, want)⟩ :: l) KE e h =
    iteP (gd (gvl ops j e) want) (OP P ro X dr op e h (fun v h' => WO P ro X dr ops.toArray l KE (updO e d v) h')) (WO P ro X dr ops.toArray l KE (updO e d undef) h) := by
  refine propext ?_
  rw [WO_cons]
  have : wants ops.toArray e ⟨d, op, t, p, a, some (j, want)⟩ = gd (gvl ops j e) want := by
    rw [← gvl_eq]
    unfold wants
    simp only [List.getElem?_toArray]
    cases (ops[j]?).bind (·.dst) with
    | none => rfl
    | some d => cases e d <;> rfl
  rw [this]
  exact Iff.rfl
end o
section p
variable {dr : Bool} {e : Env} {h : Heap} {K : Value → Heap → Prop}
theorem p_move {x : Operand} : OP P ro X dr (.move x) e h K = bindV (ov e x) (fun v => K v h) := propext OP_move
theorem p_assign {x : Operand} : OP P ro X dr (.assign x) e h K = bindV (ov e x) (fun v => K v h) := propext OP_assign
theorem p_pick {c a b : Operand} : OP P ro X dr (.pick c a b) e h K = bindO (pickV (ov e c) (ov e a) (ov e b)) (fun v => K v h) := propext OP_pick
theorem p_alloc {t : TypeId} : OP P ro X dr (.alloc t) e h K = bindO2 ((zeroT P t).bind (fun z => boxV h t z)) K := propext OP_alloc
theorem p_box {t : TypeId} {x : Operand} : OP P ro X dr (.box t x) e h K = bindO2 (boxV h t (ov e x)) K := propext OP_box
theorem p_build {t : TypeId} {ps : List (Nat × Operand)} : OP P ro X dr (.build t ps.toArray) e h K = bindO (bld P t (ps.map fun q => (q.1, ov e q.2))) (fun v => K v h) := propext OP_build
theorem p_buildSlice {t : TypeId} {n : Nat} {ps : List (Nat × Operand)} : OP P ro X dr (.buildSlice t n ps.toArray) e h K = bindO2 (bldS P h t n (ps.map fun q => (q.1, ov e q.2))) K := propext OP_buildSlice
theorem p_load {t : TypeId} {x : Operand} : OP P ro X dr (.load t x) e h K = bindO (ld P h t (ov e x)) (fun v => K v h) := propext OP_load
theorem p_store {t : TypeId} {x y : Operand} : OP P ro X dr (.store t x y) e h K = bindO (stv P ro h t (ov e x) (ov e y)) (fun h' => K undef h') := propext OP_store
theorem p_nilCheck {x : Operand} : OP P ro X dr (.nilCheck x) e h K = bindO (nilV (ov e x)) (fun v => K v h) := propext OP_nilCheck
theorem p_binOp {o : BinOp} {t t2 : TypeId} {x y : Operand} : OP P ro X dr (.binOp o t x y t2) e h K = bindO (abin P o t (ov e x) (ov e y)) (fun v => K v h) := propext OP_binOp
theorem p_unOp {o : UnOp} {t : TypeId} {x : Operand} : OP P ro X dr (.unOp o t x) e h K = bindO (aun P o (ov e x)) (fun v => K v h) := propext OP_unOp
theorem p_convert {s d : TypeId} {x : Operand} : OP P ro X dr (.convert s d x) e h K = bindO (aconv P h s d (ov e x)) (fun v => K v h) := propext OP_convert
theorem p_makeFunc {f : Fn} {a b : List Operand} : OP P ro X dr (.makeFunc f a.toArray b.toArray) e h K = bindV (.func f ⟨a.map (ov e)⟩ ⟨b.map (ov e)⟩) (fun v => K v h) := by
  refine propext (OP_makeFunc.trans ?_)
  rw [List.map_toArray, List.map_toArray]
  exact Iff.rfl
theorem p_makeSlice {t : TypeId} {l c : Operand} : OP P ro X dr (.makeSlice t l c) e h K = bindO2 (mk P h t (ov e l) (ov e c)) K := propext OP_makeSlice
theorem p_slice {t : TypeId} {x : Operand} {lo hi mx : Option Operand} : OP P ro X dr (.slice t x lo hi mx) e h K = bindO (slc P ro h t (ov e x) (lo.map (ov e)) (hi.map (ov e)) (mx.map (ov e))) (fun v => K v h) := propext OP_slice
theorem p_fieldAddr {s : TypeId} {x : Operand} {f : Nat} : OP P ro X dr (.fieldAddr s x f) e h K = bindO (fadr P s (ov e x) f) (fun v => K v h) := propext OP_fieldAddr
theorem p_field {s : TypeId} {x : Operand} {f : Nat} : OP P ro X dr (.field s x f) e h K = bindO (fld P s (ov e x) f) (fun v => K v h) := propext OP_field
theorem p_indexAddr {t : TypeId} {x i : Operand} : OP P ro X dr (.indexAddr t x i) e h K = bindO (iadr P t (ov e x) (ov e i)) (fun v => K v h) := propext OP_indexAddr
theorem p_index {t : TypeId} {x i : Operand} : OP P ro X dr (.index t x i) e h K = bindO (idx P t (ov e x) (ov e i)) (fun v => K v h) := propext OP_index
theorem p_extract {x : Operand} {i : Nat} : OP P ro X dr (.extract x i) e h K = bindO (extV (ov e x) i) (fun v => K v h) := propext OP_extract
theorem p_builtin {b : Builtin} {args : List Operand} {ts : List TypeId} : OP P ro X dr (.call ⟨.builtin b, args.toArray, ts.toArray⟩) e h K = bindO2 (ablt P ro b ts (args.map (ov e)) h) K := propext OP_builtin
/-- A call, what comes next behind it. -/
def CK (P : Program) (ro : Nat) (X : Ext) (dr : Bool) (v : Value) (args : List Value) (h : Heap) (K : Value → Heap → Prop) [Hid K] : Prop := ∃ r h', CallV P ro X v args h r h' ∧ (dr = true → h' = h) ∧ K r h'
theorem p_call {f : Operand} {args : List Operand} {ts : Array TypeId} : OP P ro X dr (.call ⟨.value f, args.toArray, ts⟩) e h K = CK P ro X dr (ov e f) (args.map (ov e)) h K := propext OP_call
/-- A call of a known function. -/
def CF (P : Program) (ro : Nat) (X : Ext) (dr : Bool) (f : FuncId) (args : List Value) (h : Heap) (K : Value → Heap → Prop) [Hid K] : Prop := ∃ r h', Call P ro X f args h r h' ∧ (dr = true → h' = h) ∧ K r h'
theorem ck_func {f : FuncId} {first cap args : List Value} : CK P ro X dr (.func (.func f) ⟨first⟩ ⟨cap⟩) args h K = CF P ro X dr f (first ++ args ++ cap) h K := rfl
theorem cf_eq {f : FuncId} {args : List Value} {r : Value} (hc : Call P ro X f args h r h) : CF P ro X dr f args h K = K r h :=
  propext ⟨fun ⟨r', h', h1, _, k⟩ => by obtain ⟨rfl, rfl⟩ := hc.det h1; exact k, fun k => ⟨r, h, hc, fun _ => rfl, k⟩⟩
theorem cf_new {f : FuncId} {args : List Value} {r : Value} {h' : Heap} (hc : Call P ro X f args h r h') (k : K r h') : CF P ro X false f args h K := ⟨r, h', hc, (fun hh => by cases hh), k⟩
theorem ck_none {args : List Value} : CK P ro X dr undef args h K = False := propext ⟨fun ⟨_, _, h, _⟩ => h, fun h => h.elim⟩
end p
end Go.Proofs.Yteignhphimfmkaa.Sim
