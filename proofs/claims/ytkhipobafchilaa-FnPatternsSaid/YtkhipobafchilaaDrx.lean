/- Draws of numbers with floats. Lemmas only; no condition. -/
import Derived.Test.YtkhipobafchilaaDrw
import Derived.Test.YtkhipobafchilaaMath
import Derived.Laws.FloatArith
set_option linter.unusedSimpArgs false
set_option linter.unusedVariables false
set_option maxRecDepth 8000
namespace Go.Proofs.Ytkhipobafchilaa.Sim
open Go Go.RowKit
variable {ro : Nat} {X : Ext}
/-- The bits of a single float, as they are kept. -/
def okS (b : Nat) : Prop := cf .f32 b = b ∧ b ≤ 4294967295
theorem nan_s : cf .f32 (nanOf .f32) = nanOf .f32 ∧ nanOf .f32 ≤ 4294967295 := ⟨by decide +kernel, by decide +kernel⟩
theorem okS_cf {b : Nat} (h : b ≤ 4294967295) : okS (cf .f32 b) := by
  by_cases q : (FloatKind.f32.decode b).isNaN = true
  · have e : cf .f32 b = nanOf .f32 := by unfold cf; rw [if_pos q]
    rw [e]
    exact nan_s
  · have e : cf .f32 b = b := by unfold cf; rw [if_neg q]
    rw [e]
    exact ⟨e, h⟩
theorem wf_s {b : Nat} (h : (Lit.float .f32 b).wf = true) : b ≤ 4294967295 := by
  simp [Lit.wf] at h
  omega
theorem okS_arith (op : BinOp) (a b : Nat) : okS (farith op .f32 a b) := by
  unfold farith
  refine okS_cf ?_
  cases e : floatBits op .f32 a b with
  | none => exact nan_s.2
  | some r => exact wf_s (floatBits_wf e)
theorem okS_int (n : Int) : okS (cf .f32 (FloatKind.f32.nearest n)) := okS_cf (wf_s (encode_wf .f32 _))
/-- But for one block, a heap that goes on. -/
def Dst (b : Nat) (h h' : Heap) : Prop := h.length ≤ h'.length ∧ ∀ j, j < h.length → j ≠ b → h'[j]? = h[j]?
theorem Only.dst {b : Nat} {h h' : Heap} (o : Only b h h') : Dst b h h' := ⟨Nat.le_of_eq o.1.symm, fun j _ hj => o.2 j hj⟩
theorem Pfx.dst {b : Nat} {h h' : Heap} (p : Pfx h h') : Dst b h h' := ⟨p.len, fun j hj _ => p.get hj⟩
theorem Dst.refl (b : Nat) (h : Heap) : Dst b h h := ⟨Nat.le_refl _, fun _ _ _ => rfl⟩
theorem Dst.trans {b : Nat} {h h1 h2 : Heap} (a : Dst b h h1) (c : Dst b h1 h2) : Dst b h h2 := ⟨Nat.le_trans a.1 c.1, fun j hj hb => (c.2 j (Nat.lt_of_lt_of_le hj a.1) hb).trans (a.2 j hj hb)⟩
structure XDW (X : Ext) : Prop where
  next : X 48 = none
  pick : X 26 = none
  one : X 45 = none
  fine : X 37 = none
variable {lo hi b A : Nat} {x : Value} {cd : List UInt8} {h : Heap}
theorem DrawFine_c (hX : XDW X) (hS : SRC lo hi b A x cd h) (hro : ro ≤ b) (hd : hi ≤ b) (hA : A ≤ 1152921504606846900) (hl : cd.length ≤ 1099511627776) :
    CallR Try.prog ro X 37 [.pointer (some ⟨b, 0, none⟩)] h (fun r h' => ∃ f g, r = .complex .f32 f g ∧ okS f ∧ okS g ∧ SRC lo hi b (A + 4) x cd h' ∧ Only b h h') := by
  refine callR_of hX.fine Try.func37 rfl (by kernel_rfl) (Nat.le_of_ble_eq_true rfl) ?_
  (repeat' first | simp -dsimp (disch := first | omega | assumption | (refine OkS.sto ?_ (by omega); first | assumption | (refine OkS.sto ?_ (by omega); first | assumption | (refine OkS.sto ?_ (by omega); first | assumption | (refine OkS.sto ?_ (by omega); first | assumption | (refine OkS.sto ?_ (by omega); first | assumption | (refine OkS.sto ?_ (by omega); first | assumption)))))) | exact Pfx.refl _ | (apply Pfx.snoc; repeat (first | exact Pfx.refl _ | assumption | apply Pfx.snoc)) | with_unfolding_all exact of_eq_true (eq_true rfl) | (simp only [List.length_append, List.length_cons, List.length_nil]; omega)) only [↓wpre0, ↓wpre1, ↓reduceIte, Int.reduceToNat, Nat.reduceAdd, Nat.reduceMul, Nat.reduceEqDiff, wpost0, wpost1, wpost2, wpost3, wpost4, ite_self, ite_true, ite_false, if_true, if_false, bin_sub, xcv2_35, bin_fquo, blt_cpx, fr37, wrap_int, wrap_u8, iteP_yes, iteP_no] | refine iteP_two (fun hc hd => ?_) (fun hc hd => ?_) | refine iteP_intro (fun hc => ?_) (fun hc => ?_))
  refine cf_rel (pick_c hX.next hX.pick (n := 65) hS hro hd (by omega) hl (by omega)) (fun q => by cases q) ?_
  rintro r H1 ⟨v, rfl, _, hv, S1, o1⟩
  (repeat' first | simp -dsimp (disch := first | omega | assumption | (refine OkS.sto ?_ (by omega); first | assumption | (refine OkS.sto ?_ (by omega); first | assumption | (refine OkS.sto ?_ (by omega); first | assumption | (refine OkS.sto ?_ (by omega); first | assumption | (refine OkS.sto ?_ (by omega); first | assumption | (refine OkS.sto ?_ (by omega); first | assumption)))))) | exact Pfx.refl _ | (apply Pfx.snoc; repeat (first | exact Pfx.refl _ | assumption | apply Pfx.snoc)) | with_unfolding_all exact of_eq_true (eq_true rfl) | (simp only [List.length_append, List.length_cons, List.length_nil]; omega)) only [↓wpre0, ↓wpre1, ↓reduceIte, Int.reduceToNat, Nat.reduceAdd, Nat.reduceMul, Nat.reduceEqDiff, wpost0, wpost1, wpost2, wpost3, wpost4, ite_self, ite_true, ite_false, if_true, if_false, bin_sub, xcv2_35, bin_fquo, blt_cpx, fr37, wrap_int, wrap_u8, iteP_yes, iteP_no] | refine iteP_two (fun hc hd => ?_) (fun hc hd => ?_) | refine iteP_intro (fun hc => ?_) (fun hc => ?_))
  refine cf_rel (pick_c hX.next hX.pick (n := 65) S1 hro hd (by omega) hl (by omega)) (fun q => by cases q) ?_
  rintro r H2 ⟨v2, rfl, _, hv2, S2, o2⟩
  have o3 := Only.trans' o1 o2
  have ef : ∀ u w, endH (.complex .f32 u w) h H2 = H2 := fun u w => endH_len o3.1
  (repeat' first | simp -dsimp (disch := first | omega | assumption | (refine OkS.sto ?_ (by omega); first | assumption | (refine OkS.sto ?_ (by omega); first | assumption | (refine OkS.sto ?_ (by omega); first | assumption | (refine OkS.sto ?_ (by omega); first | assumption | (refine OkS.sto ?_ (by omega); first | assumption | (refine OkS.sto ?_ (by omega); first | assumption)))))) | exact Pfx.refl _ | (apply Pfx.snoc; repeat (first | exact Pfx.refl _ | assumption | apply Pfx.snoc)) | with_unfolding_all exact of_eq_true (eq_true rfl) | (simp only [List.length_append, List.length_cons, List.length_nil]; omega)) only [↓wpre0, ↓wpre1, ↓reduceIte, Int.reduceToNat, Nat.reduceAdd, Nat.reduceMul, Nat.reduceEqDiff, wpost0, wpost1, wpost2, wpost3, wpost4, ite_self, ite_true, ite_false, if_true, if_false, bin_sub, xcv2_35, bin_fquo, blt_cpx, fr37, wrap_int, wrap_u8, iteP_yes, iteP_no, ef] | refine iteP_two (fun hc hd => ?_) (fun hc hd => ?_) | refine iteP_intro (fun hc => ?_) (fun hc => ?_))
  exact ⟨_, _, rfl, okS_arith _ _ _, okS_arith _ _ _, S2, o3⟩
theorem is_lit {t : TypeId} (h : Heap) (L : List Int) : IS h.length (h.length + 1) 1 (h ++ [⟨t, vints L⟩]) (.slice (some ⟨h.length, 0, none⟩) L.length L.length) L.length L := VS.is (vg_lit (k := 1) (n := L.length) h (Nat.le_refl _) (by rw [vints_len, Nat.mul_one])).vs
theorem endH_src {A' : Nat} {v : Value} {h' : Heap} (hS : SRC lo hi b A x cd h) (hS' : SRC lo hi b A' x cd h') (hA : A ≤ A') (d : Dst b h h') : SRC lo hi b A' x cd (endH v h h') ∧ Dst b h (endH v h h') := by
  unfold endH
  split
  · exact ⟨hS.more hA, .refl _ _⟩
  · exact ⟨hS', d⟩
theorem SRC.dst {A' : Nat} {h' : Heap} (s : SRC lo hi b A x cd h') (hA : A ≤ A') : SRC lo hi b A' x cd h' := s.more hA
def cpz (z : Nat × Nat) : Value := .complex .f32 z.1 z.2
theorem VN.dst {lo t n : Nat} {h h' : Heap} {y : Value} {L : List Value} (g : VG lo t 1 h y n L) (d : Dst b h h') (hb : b < lo) : VG lo t 1 h' y n L := g.frame (d.2 _ g.bof.2 (by have := g.bof.1; omega))
end Go.Proofs.Ytkhipobafchilaa.Sim
