/- Whether numbers and complex numbers are the same. Lemmas only; no condition. -/
import Derived.Test.YtelogajobjflfaaMth
import Derived.Test.YtelogajobjflfaaCpx
import Derived.Test.YtelogajobjflfaaDrr
set_option linter.unusedSimpArgs false
set_option linter.unusedVariables false
set_option maxRecDepth 8000
namespace Go.Proofs.Ytelogajobjflfaa.Sim
open Go Go.RowKit Fl
variable {ro : Nat} {X : Ext}
/-- A number that is one. -/
def okF (b : Nat) : Prop := (FloatKind.f32.decode b).isNaN = false ∧ okW b ∧ (FloatKind.f64.decode (wd b)).isNaN = false
theorem okF_of {b : Nat} {v : Int} (h : Fl.fin .f32 b v) : okF b := by
  obtain ⟨r, h1, h2⟩ := widen_fin h
  have := okW_of h1
  exact ⟨h.notNaN, this.1, by rw [this.2]; exact h2.notNaN⟩
theorem sign_r (hX : XN X) (hB : X 239 = some (ext1 gBits)) {b : Nat} (hn : (FloatKind.f64.decode b).isNaN = false) (h : Heap) : ∃ t, Ret Try.prog ro X 216 [.float .f64 b] h (.bool t) := by
  have hc : Ret Try.prog ro X 239 [.float .f64 b] h (.int .u64 b) := fun _ _ => cf_eq (call_ext hB (by simp only [ext1, gBits, hn, Bool.false_eq_true, if_false, Option.map_some]))
  have : CallR Try.prog ro X 216 [.float .f64 b] h (fun r h' => (∃ t, r = .bool t) ∧ h' = h) := by
    refine callR_of (hX _ rfl) Try.func216 rfl (by kernel_rfl) (Nat.le_of_ble_eq_true rfl) ?_
    (repeat' first | simp -dsimp (disch := first | omega | assumption | (refine OkS.sto ?_ (by omega); first | assumption | (refine OkS.sto ?_ (by omega); first | assumption | (refine OkS.sto ?_ (by omega); first | assumption | (refine OkS.sto ?_ (by omega); first | assumption | (refine OkS.sto ?_ (by omega); first | assumption | (refine OkS.sto ?_ (by omega); first | assumption)))))) | exact Pfx.refl _ | (apply Pfx.snoc; repeat (first | exact Pfx.refl _ | assumption | apply Pfx.snoc)) | with_unfolding_all exact of_eq_true (eq_true rfl) | (simp only [List.length_append, List.length_cons, List.length_nil]; omega)) only [↓wpre0, ↓wpre1, ↓reduceIte, Int.reduceToNat, Nat.reduceAdd, Nat.reduceMul, Nat.reduceEqDiff, wpost0, wpost1, wpost2, wpost3, wpost4, ite_self, ite_true, ite_false, if_true, if_false, xcv205_2, bin_lss, fr216, wrap_int, wrap_u8, iteP_yes, iteP_no, hc] | refine iteP_two (fun hc hd => ?_) (fun hc hd => ?_) | refine iteP_intro (fun hc => ?_) (fun hc => ?_))
    all_goals exact ⟨_, rfl⟩
  obtain ⟨r, h', h1, ⟨t, rfl⟩, rfl⟩ := this
  exact ⟨t, fun _ _ => cf_eq h1⟩
theorem SameN_r (hX : XN X) (hB : X 239 = some (ext1 gBits)) {b : Nat} (k : okF b) (h : Heap) : Ret Try.prog ro X 157 [.float .f32 b, .float .f32 b] h (.bool true) := by
  obtain ⟨t, ht⟩ := sign_r (ro := ro) hX hB k.2.2 h
  have e1 : fcmp .eql .f32 b b = true := by rw [order_self, k.1]; rfl
  refine ret_of (callR_of (hX _ rfl) Try.func157 rfl (by kernel_rfl) (Nat.le_of_ble_eq_true rfl) ?_)
  (repeat' first | simp -dsimp (disch := first | omega | assumption | (refine OkS.sto ?_ (by omega); first | assumption | (refine OkS.sto ?_ (by omega); first | assumption | (refine OkS.sto ?_ (by omega); first | assumption | (refine OkS.sto ?_ (by omega); first | assumption | (refine OkS.sto ?_ (by omega); first | assumption | (refine OkS.sto ?_ (by omega); first | assumption)))))) | exact Pfx.refl _ | (apply Pfx.snoc; repeat (first | exact Pfx.refl _ | assumption | apply Pfx.snoc)) | with_unfolding_all exact of_eq_true (eq_true rfl) | (simp only [List.length_append, List.length_cons, List.length_nil]; omega)) only [↓wpre0, ↓wpre1, ↓reduceIte, Int.reduceToNat, Nat.reduceAdd, Nat.reduceMul, Nat.reduceEqDiff, wpost0, wpost1, wpost2, wpost3, wpost4, ite_self, ite_true, ite_false, if_true, if_false, bin_fneq, bin_feql, xcv29_59, xbeql4, fr157, wrap_int, wrap_u8, iteP_yes, iteP_no, e1, cv_w k.2.1, ht] | refine iteP_two (fun hc hd => ?_) (fun hc hd => ?_) | refine iteP_intro (fun hc => ?_) (fun hc => ?_))
  all_goals (cases t <;> rfl)
theorem SameC_r (hX : XN X) (hB : X 239 = some (ext1 gBits)) {u : CB} (ka : okF u.a) (kb : okF u.b) (h : Heap) : Ret Try.prog ro X 65 [toV u, toV u] h (.bool true) := by
  refine ret_of (callR_of (hX _ rfl) Try.func65 rfl (by kernel_rfl) (Nat.le_of_ble_eq_true rfl) ?_)
  (repeat' first | simp -dsimp (disch := first | omega | assumption | (refine OkS.sto ?_ (by omega); first | assumption | (refine OkS.sto ?_ (by omega); first | assumption | (refine OkS.sto ?_ (by omega); first | assumption | (refine OkS.sto ?_ (by omega); first | assumption | (refine OkS.sto ?_ (by omega); first | assumption | (refine OkS.sto ?_ (by omega); first | assumption)))))) | exact Pfx.refl _ | (apply Pfx.snoc; repeat (first | exact Pfx.refl _ | assumption | apply Pfx.snoc)) | with_unfolding_all exact of_eq_true (eq_true rfl) | (simp only [List.length_append, List.length_cons, List.length_nil]; omega)) only [↓wpre0, ↓wpre1, ↓reduceIte, Int.reduceToNat, Nat.reduceAdd, Nat.reduceMul, Nat.reduceEqDiff, wpost0, wpost1, wpost2, wpost3, wpost4, ite_self, ite_true, ite_false, if_true, if_false, blt_real, blt_imag, fr65, wrap_int, wrap_u8, iteP_yes, iteP_no, SameN_r hX hB ka, SameN_r hX hB kb] | refine iteP_two (fun hc hd => ?_) (fun hc hd => ?_) | refine iteP_intro (fun hc => ?_) (fun hc => ?_))
end Go.Proofs.Ytelogajobjflfaa.Sim

/- The functions of the library and the draws that laws lean on, as one. Lemmas only; no condition. -/
set_option linter.unusedSimpArgs false
set_option linter.unusedVariables false
set_option maxRecDepth 8000
namespace Go.Proofs.Ytelogajobjflfaa.Sim
open Go Go.RowKit
variable {ro : Nat} {X : Ext}
theorem XN.orS {A B : Ext} (a : XN A) (b : XN B) : XN (orX A B) := fun f hf => by unfold orX; rw [a f hf]; exact b f hf
theorem XN.onlyS {n : Nat} {F : Option (List Value → Heap → Option (Value × Heap))} (hn : noBody.contains n = true) : XN fun g => if g = n then F else none := fun f hf => by
  show (if f = n then F else none) = none
  rw [if_neg]
  intro e
  rw [e, hn] at hf
  cases hf
noncomputable def xS0 : Ext := orX (soloX 239 gBits) (orX (soloX 238 gFrom) extB)
noncomputable def xS1 (ro : Nat) : Ext := orX (xPl ro xS0) xS0
theorem xn_S0 : XN xS0 := XN.orS (XN.onlyS (by decide +kernel)) (XN.orS (XN.onlyS (by decide +kernel)) extB_n)
theorem xn_S1 (ro : Nat) : XN (xS1 ro) := XN.orS (XN.onlyS (by decide +kernel)) xn_S0
theorem xok_S0 {ro : Nat} {B : Base} : XOk Try.prog ro B xS0 := orX_ok xBits_ok (orX_ok xFrom_ok extB_ok)
theorem xok_S1 {ro : Nat} {B : Base} : XOk Try.prog ro B (xS1 ro) := orX_ok (xPl_ok xok_S0) xok_S0
theorem XDW.of (hX : XN X) (hF : X 259 = some (ext1 fFrom)) : XDW X := ⟨hX _ rfl, hX _ rfl, hX _ rfl, hX _ rfl, hX _ rfl, hX _ rfl, hX _ rfl, hX _ rfl, hX _ rfl, hX _ rfl, hF⟩
end Go.Proofs.Ytelogajobjflfaa.Sim
