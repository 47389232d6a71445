/- Cells of the abstract heap: loads, stores and boxes in the form in which simp runs them. Lemmas only; no condition. -/
import Derived.Test.YteignhphimfmkaaSimP
set_option linter.unusedSimpArgs false
set_option linter.unusedVariables false
namespace Go.Proofs.Yteignhphimfmkaa.Sim
open Go Go.RowKit

variable {P : Program} {ro : Nat} {B : Base} {X : Ext}
theorem gd_true (b : Bool) : gd (.bool b) true = b := by cases b <;> rfl
theorem gd_false (b : Bool) : gd (.bool b) false = !b := by cases b <;> rfl
/-- The cell at an address. -/
def cell (h : Heap) (b o : Nat) : Option Value := (h[b]?).bind fun B => B.cells[o]?
/-- So many cells at an address. -/
def cells (h : Heap) (b o n : Nat) : Option Value := (h[b]?).bind fun B => if o + n ≤ B.cells.length then some (.agg ⟨(B.cells.drop o).take n⟩) else none
/-- A store of so many cells. -/
def put (ro : Nat) (h : Heap) (b o n : Nat) (v : Value) : Option Heap :=
  if ro ≤ b then (h[b]?).bind fun B => if n = (cellsOf v).length ∧ o + (cellsOf v).length ≤ B.cells.length ∧ (cellsOf v).all one = true then some (h.set b ⟨B.ty, splice B.cells o (cellsOf v)⟩) else none else none
theorem ld_sc {h : Heap} {t : TypeId} {b o n : Nat} (hs : szT P t = some n) (ha : aggT P t = false) : ld P h t (.pointer (some ⟨b, o, none⟩)) = cell h b o := by
  simp only [ld, hs, ha, Option.bind_some, Bool.false_eq_true, if_false, cell]
theorem ld_agg {h : Heap} {t : TypeId} {b o n : Nat} (hs : szT P t = some n) (ha : aggT P t = true) : ld P h t (.pointer (some ⟨b, o, none⟩)) = cells h b o n := by
  simp only [ld, hs, ha, Option.bind_some, if_true, cells]
theorem stv_put {h : Heap} {t : TypeId} {b o n : Nat} {v : Value} (hs : szT P t = some n) : stv P ro h t (.pointer (some ⟨b, o, none⟩)) v = put ro h b o n v := by
  simp only [stv, hs, put, Option.some.injEq]
theorem fadr_of {s : TypeId} {f b o q ty n : Nat} (hf : fieldOf P s f = some (q, ty, n)) (hn : n ≠ 0) : fadr P s (.pointer (some ⟨b, o, none⟩)) f = some (.pointer (some ⟨b, o + q, none⟩)) := by
  simp only [fadr, hf, Option.bind_some, hn, if_false]
theorem fld_agg {s : TypeId} {f q ty n : Nat} {cs : List Value} (hf : fieldOf P s f = some (q, ty, n)) (ha : aggT P ty = true) : fld P s (.agg ⟨cs⟩) f = some (.agg ⟨(cs.drop q).take n⟩) := by
  simp only [fld, hf, Option.bind_some, part', ha, if_true]
theorem fld_sc {s : TypeId} {f q ty n : Nat} {cs : List Value} (hf : fieldOf P s f = some (q, ty, n)) (ha : aggT P ty = false) : fld P s (.agg ⟨cs⟩) f = cs[q]? := by
  simp only [fld, hf, Option.bind_some, part', ha, Bool.false_eq_true, if_false]
theorem iteP_and (a b : Bool) (A C : Prop) : iteP (a && b) A C = iteP a (iteP b A C) C := by cases a <;> cases b <;> simp [iteP]
theorem iteP_or (a b : Bool) (A C : Prop) : iteP (a || b) A C = iteP a A (iteP b A C) := by cases a <;> cases b <;> simp [iteP]
theorem pick_true (a b : Value) : pickV (.bool true) a b = some a := rfl
theorem pick_false (a b : Value) : pickV (.bool false) a b = some b := rfl
theorem pick_yes {p : Prop} [Decidable p] (h : p) (a b : Value) : pickV (.bool (decide p)) a b = some a := by simp [pickV, h]
theorem pick_no {p : Prop} [Decidable p] (h : ¬ p) (a b : Value) : pickV (.bool (decide p)) a b = some b := by simp [pickV, h]
theorem pick_tt {t : Bool} (h : t = true) (a b : Value) : pickV (.bool t) a b = some a := by rw [h]; rfl
theorem pick_ff {t : Bool} (h : t = false) (a b : Value) : pickV (.bool t) a b = some b := by rw [h]; rfl
theorem iteP_tt {t : Bool} (h : t = true) (A B : Prop) : iteP t A B = A := by rw [h]; exact iteP_true A B
theorem iteP_ff {t : Bool} (h : t = false) (A B : Prop) : iteP t A B = B := by rw [h]; exact iteP_false A B
theorem pick_aT {t u : Bool} (h : t = true) (a b : Value) : pickV (.bool (t && u)) a b = pickV (.bool u) a b := by rw [h]; rfl
theorem pick_aF {t u : Bool} (h : t = false) (a b : Value) : pickV (.bool (t && u)) a b = some b := by rw [h]; rfl
theorem pick_oT {t u : Bool} (h : t = true) (a b : Value) : pickV (.bool (t || u)) a b = some a := by rw [h]; rfl
theorem pick_oF {t u : Bool} (h : t = false) (a b : Value) : pickV (.bool (t || u)) a b = pickV (.bool u) a b := by rw [h]; rfl
theorem iteP_two {p : Prop} [Decidable p] {A B : Prop} (h1 : p → decide p = true → A) (h2 : ¬ p → decide p = false → B) : iteP (decide p) A B := iteP_dec (fun h => h1 h (decide_eq_true h)) (fun h => h2 h (decide_eq_false h))
theorem pick_not (t : Bool) (a b : Value) : pickV (.bool (!t)) a b = pickV (.bool t) b a := by cases t <;> rfl
theorem pick_and (t x : Bool) : pickV (.bool t) (.bool x) (.bool false) = some (.bool (t && x)) := by cases t <;> rfl
theorem pick_or (t x : Bool) : pickV (.bool t) (.bool true) (.bool x) = some (.bool (t || x)) := by cases t <;> rfl
theorem bt_wrap (s : ByteArray) (i : Int) : IntKind.i64.wrap (bt s i) = bt s i := by
  have := bt_range s i
  exact wrap_int (by omega) (by omega)
/-- What a function returns, the heap as it was: as a rule. -/
@[reducible] def Ret (P : Program) (ro : Nat) (X : Ext) (f : FuncId) (args : List Value) (h : Heap) (r : Value) : Prop := ∀ (dr : Bool) (K : Value → Heap → Prop), CF P ro X dr f args h K = K r h
theorem ret_of {f : FuncId} {args : List Value} {h : Heap} {r : Value} (hc : CallR P ro X f args h (fun r' h'' => r' = r ∧ h'' = h)) : Ret P ro X f args h r := fun dr K => cf_eq (call_of_R hc)
theorem ret_call {f : FuncId} {args : List Value} {h : Heap} {r : Value} (hr : Ret P ro X f args h r) : Call P ro X f args h r h := by
  have := (hr true (fun r' h' => r' = r ∧ h' = h)).symm ▸ (⟨rfl, rfl⟩ : r = r ∧ h = h)
  obtain ⟨_, _, hc, _, rfl, rfl⟩ := this
  exact hc
/-- A call, by what it leaves. -/
theorem cf_rel {dr : Bool} {f : FuncId} {args : List Value} {h : Heap} {R K : Value → Heap → Prop} (hc : CallR P ro X f args h R) (hd : dr = true → ∀ r h', R r h' → h' = h) (k : ∀ r h', R r h' → K r h') : CF P ro X dr f args h K := by
  obtain ⟨r, h', h1, h2⟩ := hc
  exact ⟨r, h', h1, fun d => hd d _ _ h2, k _ _ h2⟩
end Go.Proofs.Yteignhphimfmkaa.Sim
