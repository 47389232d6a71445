/- Arguments that are slices of whole numbers, with the numbers' range. Lemmas only; no condition. -/
import Derived.Test.YtbakaopgdcojfaaArg
set_option linter.unusedSimpArgs false
set_option linter.unusedVariables false
namespace Go.Proofs.Ytbakaopgdcojfaa.Sim
open Go Go.RowKit Go.ChangeShapes Go.WideShapes Go.Deep
/-- A number of 64 bits. -/
def r64 (n : Int) : Prop := -9223372036854775808 ≤ n ∧ n ≤ 9223372036854775807
theorem r64_nth {l : List Int} (h : ∀ n ∈ l, r64 n) {j : Nat} (hj : j < l.length) : r64 (nth l j) := by
  refine h _ ?_
  simp [nth, hj]
theorem r64_wf {n : Int} (h : (Lit.int .i64 n).wf = true) : r64 n := by
  simp [Lit.wf, IntKind.min, IntKind.max, IntKind.signed, IntKind.bits] at h
  unfold r64
  omega
theorem wf_r64 {n : Int} (h : r64 n) : (Lit.int .i64 n).wf = true := by
  unfold r64 at h
  simp [Lit.wf, IntKind.min, IntKind.max, IntKind.signed, IntKind.bits]
  omega
section
variable {H : Type} {enc : TypeId × Value → H} {P : Program} {w : World} {base : Nat} {spare : Nat → Bool} {held : Bool}
theorem allI_wf : ∀ {m : Nat} {t : TypeId}, allI P .i64 m t = true → ∀ {fuel : Nat} {cs : List Value} {x : DataW H × List MemPlace}, DataW.trod enc P w base spare held fuel t cs = some x → ∀ (j : Nat) (v : Value), cs[j]? = some v → ∃ n, v = .int .i64 n ∧ r64 n
  | 0, _, a, _, _, _, _ => by simp only [allI] at a; cases a
  | m + 1, t, a, fuel, cs, x, h => by
    intro j v hv
    unfold allI at a
    split at a
    · rename_i k' hu
      have hk : k' = .i64 := by simpa using a
      subst hk
      obtain ⟨n, rfl, _, hw⟩ := DataW.trod_int hu h
      match j, hv with
      | 0, hv => simp only [List.getElem?_cons_zero, Option.some.injEq] at hv; exact ⟨n, hv.symm, r64_wf hw⟩
      | j + 1, hv => simp at hv
    · rename_i fs hu
      simp only [Bool.and_eq_true, List.all_eq_true, List.any_eq_true, List.mem_range, decide_eq_true_eq] at a
      obtain ⟨xs, n, _, _, hl, hxl, hg⟩ := DataW.trod_struct hu h
      have hj : j < cs.length := by
        rcases Nat.lt_or_ge j cs.length with q | q
        · exact q
        · rw [List.getElem?_eq_none q] at hv; cases hv
      obtain ⟨f, hf, h2, h3⟩ := a.2 j (by omega)
      obtain ⟨i, hi0, hi1⟩ := List.mem_iff_getElem.1 hf
      have h1 : fs[i]? = some f := by
        rw [← Array.getElem?_toList, List.getElem?_eq_getElem hi0, hi1]
      have hi : i < xs.length := by rw [hxl, ← Array.length_toList]; exact hi0
      have h4 := hg i f h1
      rw [List.getElem?_eq_getElem hi] at h4
      refine allI_wf (a.1 f hf) h4 (j - f.offset) v ?_
      rw [List.getElem?_take, if_pos (by omega), List.getElem?_drop, show f.offset + (j - f.offset) = j by omega]
      exact hv
    · cases a
theorem intsW_of {L : List Value} (h : ∀ v ∈ L, ∃ n, v = .int .i64 n ∧ r64 n) : ∃ l, L = vints l ∧ ∀ n ∈ l, r64 n := by
  induction L with
  | nil => exact ⟨[], rfl, by simp⟩
  | cons v r ih =>
    obtain ⟨n, rfl, hn⟩ := h _ (List.mem_cons_self ..)
    obtain ⟨l, rfl, hl⟩ := ih fun v hv => h v (List.mem_cons_of_mem _ hv)
    exact ⟨n :: l, rfl, fun m hm => by
      rcases List.mem_cons.1 hm with q | q
      · rw [q]; exact hn
      · exact hl m q⟩
theorem arg_intsW {t e : TypeId} {r : Reach} {b0 k : Nat} {v : Value} {d : DataW H} {ps : List MemPlace} (hu : P.underlying t = some (.slice e)) (hk : P.cellsOf e = k) (hk0 : 0 < k) (ha : allI P .i64 5 e = true)
    (hval : Value.okWide P w r b0 t v) (h : DataW.Trod enc P w 0 (fun _ => true) held t v d ps) :
    ∃ (n : Nat) (l : List Int) (as : AS) (x : Nat → Value), ArgS P w v n (vints l) as x ∧ l.length = n * k ∧ (n = 0 ∨ ∃ elems sp, d = .slice elems sp ∧ elems.length = n) ∧ ∀ n ∈ l, r64 n := by
  obtain ⟨n, L, as, x, h1, h2, h3, h4⟩ := arg_slice hu hk hk0 (fun v => ∃ n, v = .int .i64 n ∧ r64 n) (fun v ⟨n, h, _⟩ => by rw [h]; rfl) (fun fuel cs x h => allI_wf ha h) hval h
  obtain ⟨l, rfl, hl⟩ := intsW_of h3
  exact ⟨n, l, as, x, h1, by rw [← h2, vints_len], h4, hl⟩
end
end Go.Proofs.Ytbakaopgdcojfaa.Sim
