/- The abstract machine once more, in a form that the kernel can run, for calls without arguments. What it comes to, the abstract machine comes to. No condition. -/
import Derived.Test.YtbakaopgdcojfaaSimM
set_option linter.unusedSimpArgs false
set_option linter.unusedVariables false
namespace Go.Proofs.Ytbakaopgdcojfaa.Sim
open Go Go.RowKit

variable {P : Program} {ro B : Nat} {X : Ext}
def eqA : Addr → Addr → Bool | ⟨a, b, none⟩, ⟨c, d, none⟩ => a == c && b == d | _, _ => false
theorem eqA_sound {a b : Addr} (h : eqA a b = true) : a = b := by
  obtain ⟨a1, a2, a3⟩ := a; obtain ⟨b1, b2, b3⟩ := b
  cases a3 <;> cases b3 <;> simp_all [eqA]
/-- Values that are surely the same. -/
def eqV : Value → Value → Bool
  | .bool a, .bool b => a == b
  | .int k a, .int k' b => decide (k = k') && a == b
  | .float k a, .float k' b => decide (k = k') && a == b
  | .complex k a b, .complex k' c d => decide (k = k') && a == c && b == d
  | .string ⟨⟨a⟩⟩, .string ⟨⟨b⟩⟩ => a == b
  | .pointer none, .pointer none => true
  | .pointer (some a), .pointer (some b) => eqA a b
  | .slice none n c, .slice none m d => n == m && c == d
  | .slice (some a) n c, .slice (some b) m d => eqA a b && n == m && c == d
  | .nilFunc, .nilFunc => true
  | .nilIface, .nilIface => true
  | _, _ => false
theorem eqV_sound {a b : Value} (h : eqV a b = true) : a = b := by
  unfold eqV at h
  split at h <;> simp_all
  · exact eqA_sound h
  · exact eqA_sound h.1.1
def eqL : List Value → List Value → Bool
  | [], [] => true
  | a :: r, b :: s => eqV a b && eqL r s
  | _, _ => false
theorem eqL_sound : ∀ {a b : List Value}, eqL a b = true → a = b
  | [], [], _ => rfl
  | a :: r, b :: s, h => by
    simp only [eqL, Bool.and_eq_true] at h
    rw [eqV_sound h.1, eqL_sound h.2]
  | [], _ :: _, h => by simp [eqL] at h
  | _ :: _, [], h => by simp [eqL] at h
def eqH : Heap → Heap → Bool
  | [], [] => true
  | a :: r, b :: s => a.ty == b.ty && eqL a.cells b.cells && eqH r s
  | _, _ => false
theorem eqH_sound : ∀ {a b : Heap}, eqH a b = true → a = b
  | [], [], _ => rfl
  | ⟨t, c⟩ :: r, ⟨u, d⟩ :: s, h => by
    simp only [eqH, Bool.and_eq_true, beq_iff_eq] at h
    rw [h.1.1, eqL_sound h.1.2, eqH_sound h.2]
  | [], _ :: _, h => by simp [eqH] at h
  | _ :: _, [], h => by simp [eqH] at h

/-- Values that are surely not the same. -/
def neV : Value → Value → Bool
  | .bool a, .bool b => a != b
  | .int _ a, .int _ b => a != b
  | .float _ a, .float _ b => a != b
  | .complex _ a b, .complex _ c d => a != c || b != d
  | .slice _ n _, .slice _ m _ => n != m
  | _, _ => false
theorem neV_sound {a b : Value} (h : neV a b = true) : a ≠ b := by
  rintro rfl
  unfold neV at h
  split at h <;> simp_all
def neL : List Value → List Value → Bool
  | a :: r, b :: s => neV a b || neL r s
  | _, _ => false
theorem neL_sound : ∀ {a b : List Value}, neL a b = true → a ≠ b
  | a :: r, b :: s, h => by
    simp only [neL, Bool.or_eq_true] at h
    rintro e
    cases e
    rcases h with h | h
    · exact neV_sound h rfl
    · exact neL_sound h rfl
  | [], _, h => by simp [neL] at h
  | _ :: _, [], h => by simp [neL] at h
def neH : Heap → Heap → Bool
  | a :: r, b :: s => neL a.cells b.cells || neH r s
  | _, _ => false
theorem neH_sound : ∀ {a b : Heap}, neH a b = true → a ≠ b
  | a :: r, b :: s, h => by
    simp only [neH, Bool.or_eq_true] at h
    rintro e
    cases e
    rcases h with h | h
    · exact neL_sound h rfl
    · exact neH_sound h rfl
  | [], _, h => by simp [neH] at h
  | _ :: _, [], h => by simp [neH] at h
def keepsK (C : Fns) : Fns := fun f args h => (C f args h).bind fun q => if eqH q.2 h then some q else none
theorem keepsK_le {C C' : Fns} (hc : LeF C C') : LeF (keepsK C) (keeps C') := by
  intro f args h r hr
  unfold keepsK at hr
  unfold keeps
  simp only [Option.bind_eq_some_iff] at hr ⊢
  obtain ⟨q, h1, h2⟩ := hr
  split at h2
  · rename_i he
    cases h2
    exact ⟨_, hc _ _ _ _ h1, if_pos (eqH_sound he)⟩
  · cases h2
def finK (P : Program) (fn : Func) (h0 : Heap) (e : Env) (h : Heap) : Option (Value × Heap) :=
  (allSome (fn.results.toList.map (resV P e h))).bind fun vs => if flat (resT vs) then (if eqH (h.take h0.length) h0 then some (resT vs, h0) else if h.length = h0.length ∨ neH (h.take h0.length) h0 = true then some (resT vs, h) else none) else some (resT vs, h)
theorem finK_sound {fn : Func} {h0 h : Heap} {e : Env} {r : Value × Heap} (hr : finK P fn h0 e h = some r) : fin P fn h0 e h = some r := by
  unfold finK at hr
  unfold fin
  simp only [Option.bind_eq_some_iff] at hr
  obtain ⟨vs, h1, h2⟩ := hr
  rw [h1]
  simp only [Option.map_some]
  split at h2
  · rename_i hf
    split at h2
    · rename_i he
      cases h2
      rw [if_pos ⟨hf, eqH_sound he⟩]
    · split at h2
      · rename_i hl
        cases h2
        congr 2
        split
        · rename_i q
          have := q.2
          rcases hl with hl | hl
          · rw [← hl, List.take_length] at this
            exact this.symm
          · exact absurd this (neH_sound hl)
        · rfl
      · cases h2
  · rename_i hf
    cases h2
    rw [if_neg (fun q => hf q.1)]
def loopK (body : Env → Heap → Option (Ex × Env × Heap)) : Nat → Env → Heap → Option (Ex × Env × Heap) := loopF body
def evK (P : Program) (ro : Nat) (C : Fns) (n : Nat) : Code → Env → Heap → Option (Ex × Env × Heap)
  | .skip, e, h => some (.normal, e, h)
  | .region _ ops draw, e, h => (aops P ro (if draw then keepsK C else C) ops ops.toList e h).map fun q => (.normal, q)
  | .seq a b, e, h => (evK P ro C n a e h).bind fun q => match q.1 with | .normal => evK P ro C n b q.2.1 q.2.2 | x => some (x, q.2)
  | .cond c a b, e, h => match ov e c with | .bool true => evK P ro C n a e h | .bool false => evK P ro C n b e h | _ => none
  | .block id c, e, h => (evK P ro C n c e h).map fun q => (if q.1 = .exit id then .normal else q.1, q.2)
  | .loop c, e, h => loopF (evK P ro C n c) n e h
  | .exit id, e, h => some (.exit id, e, h)
  | .ret, e, h => some (.ret, e, h)
  | _, _, _ => none
theorem evK_le {C C' : Fns} (hc : LeF C C') {n : Nat} : ∀ {c : Code} {e : Env} {h : Heap} {r : Ex × Env × Heap}, evK P ro C n c e h = some r → ev P ro C' n c e h = some r := by
  intro c
  induction c with
  | region id ops draw =>
    intro e h r hr
    simp only [ev, evK, Option.map_eq_some_iff] at hr ⊢
    obtain ⟨q, h1, h2⟩ := hr
    refine ⟨q, ?_, h2⟩
    cases draw with
    | false => exact aops_mono hc h1
    | true => exact aops_mono (keepsK_le hc) h1
  | seq a b iha ihb =>
    intro e h r hr
    simp only [ev, evK, Option.bind_eq_some_iff] at hr ⊢
    obtain ⟨⟨x, e2, h2⟩, h1, h3⟩ := hr
    refine ⟨_, iha h1, ?_⟩
    cases x with
    | normal => exact ihb h3
    | exit id => exact h3
    | ret => exact h3
  | cond c a b iha ihb =>
    intro e h r hr
    simp only [ev, evK] at hr ⊢
    split at hr
    · rename_i q; rw [q]; exact iha hr
    · rename_i q; rw [q]; exact ihb hr
    · cases hr
  | block id c ih =>
    intro e h r hr
    simp only [ev, evK, Option.map_eq_some_iff] at hr ⊢
    obtain ⟨q, h1, h2⟩ := hr
    exact ⟨q, ih h1, h2⟩
  | loop c ih =>
    intro e h r hr
    simp only [ev, evK] at hr ⊢
    exact loopF_mono (fun e h r hb => ih hb) (Nat.le_refl n) hr
  | _ => intro e h r hr; first | exact hr | (simp only [evK] at hr; cases hr)
/-- Calls; 'T' tells the functions by their numbers. -/
def callK (P : Program) (ro : Nat) (T : FuncId → Option Func) : Nat → Fns
  | 0 => fun _ _ _ => none
  | n + 1 => fun f args h =>
    (T f).bind fun fn => (fn.body).bind fun c => if args.length ≤ fn.ntmps then
      (evK P ro (callK P ro T n) n c (entry args) h).bind fun q => match q.1 with | .exit _ => none | _ => finK P fn h q.2.1 q.2.2
    else none
theorem callK_le {T : FuncId → Option Func} (hT : ∀ f fn, T f = some fn → X f = none ∧ P.funcs[f]? = some fn ∧ fnOk fn = true) : ∀ n, LeF (callK P ro T n) (callN P ro X n)
  | 0 => fun f args h r hr => by simp only [callK] at hr; cases hr
  | n + 1 => fun f args h r hr => by
    simp only [callK, Option.bind_eq_some_iff] at hr
    obtain ⟨fn, h1, c, h2, h3⟩ := hr
    obtain ⟨a1, a2, a3⟩ := hT f fn h1
    split at h3
    · rename_i hl
      simp only [Option.bind_eq_some_iff] at h3
      obtain ⟨q, h4, h5⟩ := h3
      rw [callN_succ]
      simp only [a1, a2, h2, Option.bind_some]
      rw [if_pos ⟨a3, hl⟩]
      simp only [Option.bind_eq_some_iff]
      refine ⟨q, evK_le (callK_le hT n) h4, ?_⟩
      split at h5
      · cases h5
      · rename_i hx
        split
        · rename_i hx'
          exact absurd hx' (hx _)
        · exact finK_sound h5
    · cases h3
/-- A table of functions. -/
def lookT : List (FuncId × Func) → FuncId → Option Func
  | [], _ => none
  | (g, fn) :: r, f => if f = g then some fn else lookT r f
def AllOk (P : Program) (X : Ext) : List (FuncId × Func) → Prop
  | [] => True
  | q :: r => (X q.1 = none ∧ P.funcs[q.1]? = some q.2 ∧ fnOk q.2 = true) ∧ AllOk P X r
theorem lookT_ok : ∀ {l : List (FuncId × Func)}, AllOk P X l → ∀ f fn, lookT l f = some fn → X f = none ∧ P.funcs[f]? = some fn ∧ fnOk fn = true
  | [], _, f, fn, h => by cases h
  | (g, gn) :: r, ⟨h1, h2⟩, f, fn, h => by
    simp only [lookT] at h
    split at h
    · rename_i e; cases h; rw [e]; exact h1
    · exact lookT_ok h2 f fn h
def okT (r : Option (Value × Heap)) : Bool := match r with | some (.bool true, _) => true | _ => false
theorem okT_iff {r : Option (Value × Heap)} (h : okT r = true) : ∃ h', r = some (.bool true, h') := by
  unfold okT at h
  split at h
  · exact ⟨_, rfl⟩
  · cases h
end Go.Proofs.Ytbakaopgdcojfaa.Sim
