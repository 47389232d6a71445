/- Drawing regions of unordered allocations, walked order by order. Lemmas only; no condition. -/
import Derived.Test.YtkhipobafchilaaSimXs
set_option linter.unusedSimpArgs false
set_option linter.unusedVariables false
namespace Go.Proofs.Ytkhipobafchilaa.Sim
open Go Go.RowKit

variable {P : Program} {ro : Nat} {B : Base} {X : Ext} {Q : Ex → Env → Heap → Prop} {e : Env} {h : Heap}
def callFree : Op → Bool
  | .call ⟨.value _, _, _⟩ => false
  | _ => true
theorem aop_free {C C' : Fns} {op : Op} (hf : callFree op = true) : aop P ro C op e h = aop P ro C' op e h := by
  cases op with
  | call c =>
    obtain ⟨callee, args, ts⟩ := c
    cases callee with
    | value x => simp only [callFree, Bool.false_eq_true] at hf
    | _ => rfl
  | _ => rfl
theorem aops_free {C C' : Fns} {ops : Array Oper} : ∀ {l : List Oper} {e : Env} {h : Heap}, (∀ o ∈ l, callFree o.op = true) → Sim.aops P ro C ops l e h = Sim.aops P ro C' ops l e h
  | [], _, _, _ => rfl
  | o :: l, e, h, hl => by
    simp only [Sim.aops]
    rw [aop_free (C' := C') (hl o (List.mem_cons_self ..))]
    split
    · cases aop P ro C' o.op e h with
      | none => rfl
      | some q =>
        simp only [Option.bind_some]
        exact aops_free fun p hp => hl p (List.mem_cons_of_mem _ hp)
    · exact aops_free fun p hp => hl p (List.mem_cons_of_mem _ hp)
theorem WG_permW {id : Nat} {ops : List Oper} (L : List (List Nat)) (hL : (exts ops.toArray ops.length (Array.replicate ops.length false)).all (fun σ => L.contains σ) = true) (hend : extsEnd ops.toArray ops.length (Array.replicate ops.length false) = true) (hnc : ops.all (fun o => callFree o.op) = true) {e2 : Env} {h2 : Heap}
    (htext : WO P ro X false ops.toArray ops (fun e' h' => e' = e2 ∧ h' = h2) e h) (hall : ∀ σ ∈ L, WO P ro X false ops.toArray (opsAt ops.toArray σ) (fun e' h' => Equ P ro e h (e', h') (e2, h2)) e h) (hq : Q .normal e2 h2) : WG P ro X (.region id ops.toArray true) Q e h := by
  have hfree : ∀ o ∈ ops, callFree o.op = true := by simpa [List.all_eq_true] using hnc
  refine WG_perm (e' := e2) (h' := h2) ⟨0, ?_, ?_, fun σ hσ => ?_⟩ hq
  · simpa using hend
  · obtain ⟨n, e', h', h1, rfl, rfl⟩ := htext
    show Sim.aops P ro _ _ ops e h = _
    rw [aops_free (C' := CN P ro X false n) hfree]
    exact h1
  · have hσ' : σ ∈ L := by
      have := List.all_eq_true.1 hL σ (by simpa using hσ)
      simpa using this
    obtain ⟨n, e', h', h1, h2'⟩ := hall σ hσ'
    refine ⟨(e', h'), ?_, h2'⟩
    rw [aops_free (C' := CN P ro X false n) ?_]
    · exact h1
    · intro o ho
      unfold opsAt at ho
      obtain ⟨i, _, hi⟩ := List.mem_filterMap.1 ho
      have : ops[i]? = some o := by simpa using hi
      exact hfree o (List.mem_of_getElem? this)
end Go.Proofs.Ytkhipobafchilaa.Sim
