/- The functions that cut texts, and the reference's and the program's journals. Lemmas only; no condition. -/
import Derived.Test.YtikanmboimjhgaaDoorDrc
set_option linter.unusedSimpArgs false
set_option linter.unusedVariables false
set_option maxRecDepth 8000
namespace Go.Proofs.YtikanmboimjhgaaDoor.Sim
open Go Go.RowKit
variable {ro : Nat} {X : Ext}
theorem sIndex_r (hx : XD X) (l : List UInt8) (c : UInt8) (h : Heap) : Ret Tryd.prog ro X 28 [.string ⟨⟨l⟩⟩, .string ⟨⟨[c]⟩⟩] h (.int .i64 (Lib.indexByte l c)) := by
  have hX := hx.n
  refine ret_of (callR_of (hX _ rfl) Tryd.func28 rfl (by kernel_rfl) (Nat.le_of_ble_eq_true rfl) ?_)
  (repeat' first | simp -dsimp (disch := first | omega | assumption | (refine OkS.sto ?_ (by omega); first | assumption | (refine OkS.sto ?_ (by omega); first | assumption | (refine OkS.sto ?_ (by omega); first | assumption | (refine OkS.sto ?_ (by omega); first | assumption | (refine OkS.sto ?_ (by omega); first | assumption | (refine OkS.sto ?_ (by omega); first | assumption)))))) | exact Pfx.refl _ | (apply Pfx.snoc; repeat (first | exact Pfx.refl _ | assumption | apply Pfx.snoc)) | with_unfolding_all exact of_eq_true (eq_true rfl) | (simp only [List.length_append, List.length_cons, List.length_nil]; omega)) only [↓wpre0, ↓wpre1, ↓reduceIte, Int.reduceToNat, Nat.reduceAdd, Nat.reduceMul, Nat.reduceEqDiff, wpost0, wpost1, wpost2, wpost3, wpost4, ite_self, ite_true, ite_false, if_true, if_false, fr28, wrap_int, wrap_u8, iteP_yes, iteP_no, sub_r hx] | refine iteP_two (fun hc hd => ?_) (fun hc hd => ?_) | refine iteP_intro (fun hc => ?_) (fun hc => ?_))
theorem Contains_r (hx : XD X) (l : List UInt8) (c : UInt8) (h : Heap) : Ret Tryd.prog ro X 14 [.string ⟨⟨l⟩⟩, .string ⟨⟨[c]⟩⟩] h (.bool (fnd l c)) := by
  have hX := hx.n
  refine ret_of (callR_of (hX _ rfl) Tryd.func14 rfl (by kernel_rfl) (Nat.le_of_ble_eq_true rfl) ?_)
  (repeat' first | simp -dsimp (disch := first | omega | assumption | (refine OkS.sto ?_ (by omega); first | assumption | (refine OkS.sto ?_ (by omega); first | assumption | (refine OkS.sto ?_ (by omega); first | assumption | (refine OkS.sto ?_ (by omega); first | assumption | (refine OkS.sto ?_ (by omega); first | assumption | (refine OkS.sto ?_ (by omega); first | assumption)))))) | exact Pfx.refl _ | (apply Pfx.snoc; repeat (first | exact Pfx.refl _ | assumption | apply Pfx.snoc)) | with_unfolding_all exact of_eq_true (eq_true rfl) | (simp only [List.length_append, List.length_cons, List.length_nil]; omega)) only [↓wpre0, ↓wpre1, ↓reduceIte, Int.reduceToNat, Nat.reduceAdd, Nat.reduceMul, Nat.reduceEqDiff, wpost0, wpost1, wpost2, wpost3, wpost4, ite_self, ite_true, ite_false, if_true, if_false, bin_geq, fr14, wrap_int, wrap_u8, iteP_yes, iteP_no, sIndex_r hx] | refine iteP_two (fun hc hd => ?_) (fun hc hd => ?_) | refine iteP_intro (fun hc => ?_) (fun hc => ?_))
  all_goals first | rfl | skip
theorem lCut_r (hx : XD X) {l : List UInt8} (c : UInt8) {h : Heap} (hl : l.length ≤ 1099511627776) : Ret Tryd.prog ro X 41 [.string ⟨⟨l⟩⟩, .string ⟨⟨[c]⟩⟩] h (.tuple ⟨[.string ⟨⟨wrd l c⟩⟩, .string ⟨⟨rst l c⟩⟩, .bool (fnd l c)]⟩) := by
  have hX := hx.n
  have i0 := Lib.indexByte_ge l c
  have i1 := idx_lt l c
  refine ret_of (callR_of (hX _ rfl) Tryd.func41 rfl (by kernel_rfl) (Nat.le_of_ble_eq_true rfl) ?_)
  by_cases hf : 0 ≤ Lib.indexByte l c
  · have e1 : fnd l c = true := decide_eq_true hf
    have e2 : wrd l c = l.take (Lib.indexByte l c).toNat := by rw [wrd, if_pos e1]
    have e3 : rst l c = l.drop ((Lib.indexByte l c).toNat + 1) := by rw [rst, if_pos e1]
    have e4 : (Lib.indexByte l c + ((1 : Nat) : Int)).toNat = (Lib.indexByte l c).toNat + 1 := by omega
    have e5 : ([c] : List UInt8).length = 1 := rfl
    rw [e1, e2, e3]
    (repeat' first | simp -dsimp (disch := first | omega | assumption | (refine OkS.sto ?_ (by omega); first | assumption | (refine OkS.sto ?_ (by omega); first | assumption | (refine OkS.sto ?_ (by omega); first | assumption | (refine OkS.sto ?_ (by omega); first | assumption | (refine OkS.sto ?_ (by omega); first | assumption | (refine OkS.sto ?_ (by omega); first | assumption)))))) | exact Pfx.refl _ | (apply Pfx.snoc; repeat (first | exact Pfx.refl _ | assumption | apply Pfx.snoc)) | with_unfolding_all exact of_eq_true (eq_true rfl) | (simp only [List.length_append, List.length_cons, List.length_nil]; omega)) only [↓wpre0, ↓wpre1, ↓reduceIte, Int.reduceToNat, Nat.reduceAdd, Nat.reduceMul, Nat.reduceEqDiff, wpost0, wpost1, wpost2, wpost3, wpost4, ite_self, ite_true, ite_false, if_true, if_false, bin_geq, sl_bl Tryd.underlying9, slo_bl Tryd.underlying9, shi_bl Tryd.underlying9, len_bl Tryd.underlying9, bin_add, fr41, wrap_int, wrap_u8, iteP_yes, iteP_no, sub_r hx, e5, e4] | refine iteP_two (fun hc hd => ?_) (fun hc hd => ?_) | refine iteP_intro (fun hc => ?_) (fun hc => ?_))
  · have e1 : fnd l c = false := decide_eq_false hf
    have e2 : wrd l c = l := by rw [wrd, e1]; rfl
    have e3 : rst l c = [] := by rw [rst, e1]; rfl
    rw [e1, e2, e3]
    (repeat' first | simp -dsimp (disch := first | omega | assumption | (refine OkS.sto ?_ (by omega); first | assumption | (refine OkS.sto ?_ (by omega); first | assumption | (refine OkS.sto ?_ (by omega); first | assumption | (refine OkS.sto ?_ (by omega); first | assumption | (refine OkS.sto ?_ (by omega); first | assumption | (refine OkS.sto ?_ (by omega); first | assumption)))))) | exact Pfx.refl _ | (apply Pfx.snoc; repeat (first | exact Pfx.refl _ | assumption | apply Pfx.snoc)) | with_unfolding_all exact of_eq_true (eq_true rfl) | (simp only [List.length_append, List.length_cons, List.length_nil]; omega)) only [↓wpre0, ↓wpre1, ↓reduceIte, Int.reduceToNat, Nat.reduceAdd, Nat.reduceMul, Nat.reduceEqDiff, wpost0, wpost1, wpost2, wpost3, wpost4, ite_self, ite_true, ite_false, if_true, if_false, bin_geq, sl_bl Tryd.underlying9, slo_bl Tryd.underlying9, shi_bl Tryd.underlying9, len_bl Tryd.underlying9, bin_add, fr41, wrap_int, wrap_u8, iteP_yes, iteP_no, sub_r hx] | refine iteP_two (fun hc hd => ?_) (fun hc hd => ?_) | refine iteP_intro (fun hc => ?_) (fun hc => ?_))
theorem Cut_r (hx : XD X) {l : List UInt8} (c : UInt8) {h : Heap} (hl : l.length ≤ 1099511627776) : Ret Tryd.prog ro X 33 [.string ⟨⟨l⟩⟩, .string ⟨⟨[c]⟩⟩] h (.tuple ⟨[.string ⟨⟨wrd l c⟩⟩, .string ⟨⟨rst l c⟩⟩, .bool (fnd l c)]⟩) := by
  have hX := hx.n
  refine ret_of (callR_of (hX _ rfl) Tryd.func33 rfl (by kernel_rfl) (Nat.le_of_ble_eq_true rfl) ?_)
  (repeat' first | simp -dsimp (disch := first | omega | assumption | (refine OkS.sto ?_ (by omega); first | assumption | (refine OkS.sto ?_ (by omega); first | assumption | (refine OkS.sto ?_ (by omega); first | assumption | (refine OkS.sto ?_ (by omega); first | assumption | (refine OkS.sto ?_ (by omega); first | assumption | (refine OkS.sto ?_ (by omega); first | assumption)))))) | exact Pfx.refl _ | (apply Pfx.snoc; repeat (first | exact Pfx.refl _ | assumption | apply Pfx.snoc)) | with_unfolding_all exact of_eq_true (eq_true rfl) | (simp only [List.length_append, List.length_cons, List.length_nil]; omega)) only [↓wpre0, ↓wpre1, ↓reduceIte, Int.reduceToNat, Nat.reduceAdd, Nat.reduceMul, Nat.reduceEqDiff, wpost0, wpost1, wpost2, wpost3, wpost4, ite_self, ite_true, ite_false, if_true, if_false, fr33, wrap_int, wrap_u8, iteP_yes, iteP_no, lCut_r hx] | refine iteP_two (fun hc hd => ?_) (fun hc hd => ?_) | refine iteP_intro (fun hc => ?_) (fun hc => ?_))
/-- What l01Cut has found so far. -/
def CutI (t : List UInt8) (i from_ : Nat) (A : List (List UInt8)) : Prop :=
  from_ ≤ i ∧ A.length ≤ i ∧ (∀ j : Nat, from_ ≤ j → j < i → t[j]? ≠ some 10) ∧ ∃ F, t.length + 1 ≤ F + from_ ∧ lns (t.length + 1) t = A ++ lns F (t.drop from_)
theorem CutI.start (t : List UInt8) : CutI t 0 0 [] := ⟨Nat.le_refl _, Nat.le_refl _, fun j _ h => by omega, t.length + 1, by omega, by simp⟩
theorem CutI.mark {t : List UInt8} {i f : Nat} {A : List (List UInt8)} (c : CutI t i f A) (hi : i < t.length) (h : bth t i = 10) : CutI t (i + 1) (i + 1) (A ++ [(t.drop f).take (i - f)]) := by
  obtain ⟨h1, h2, h3, F, h4, h5⟩ := c
  refine ⟨Nat.le_refl _, by simp; omega, fun j _ _ => by omega, ?_⟩
  have hti : t[i]? = some 10 := by
    rw [List.getElem?_eq_getElem hi]
    simp only [bth, List.getD_eq_getElem?_getD, List.getElem?_eq_getElem hi, Option.getD_some] at h
    congr 1
    exact UInt8.toNat_inj.1 (by have e : (10 : UInt8).toNat = 10 := rfl; omega)
  have hx : Lib.indexByte (t.drop f) 10 = ((i - f : Nat) : Int) := idx_eq (by rw [List.getElem?_drop, show f + (i - f) = i by omega]; exact hti) (fun k hk => by rw [List.getElem?_drop]; exact h3 _ (by omega) (by omega))
  obtain ⟨G, rfl⟩ : ∃ G, F = G + 1 := ⟨F - 1, by omega⟩
  refine ⟨G, by omega, ?_⟩
  rw [h5, lns_some hx, List.drop_drop, List.append_assoc, List.singleton_append, show f + (i - f + 1) = i + 1 by omega]
theorem CutI.skip {t : List UInt8} {i f : Nat} {A : List (List UInt8)} (c : CutI t i f A) (hi : i < t.length) (h : bth t i ≠ 10) : CutI t (i + 1) f A := by
  obtain ⟨h1, h2, h3, h4⟩ := c
  refine ⟨by omega, by omega, fun j a b q => ?_, h4⟩
  by_cases e : j = i
  · subst e
    apply h
    simp [bth, List.getD_eq_getElem?_getD, q]
  · exact h3 j a (by omega) q
theorem CutI.last {t : List UInt8} {f : Nat} {A : List (List UInt8)} (c : CutI t t.length f A) : lns (t.length + 1) t = A := by
  obtain ⟨h1, h2, h3, F, h4, h5⟩ := c
  rw [h5, lns_none, List.append_nil]
  rw [idx_neg fun k q => ?_]
  · decide
  · rw [List.getElem?_drop] at q
    have := (List.getElem?_eq_some_iff.1 q).1
    exact h3 (f + k) (by omega) this q
end Go.Proofs.YtikanmboimjhgaaDoor.Sim
