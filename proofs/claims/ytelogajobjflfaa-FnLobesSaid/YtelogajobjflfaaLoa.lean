/- Cuts of small numbers: drawn, and the ways around a place of one. Lemmas only; no condition. -/
import Derived.Test.YtelogajobjflfaaLobp
import Derived.Test.YtelogajobjflfaaDrw
set_option linter.unusedSimpArgs false
set_option linter.unusedVariables false
set_option maxRecDepth 8000
namespace Go.Proofs.Ytelogajobjflfaa.Sim
open Go Go.RowKit
variable {ro : Nat} {X : Ext}
/-- A small number as a float. -/
def fS (v : Nat) : Nat := cf .f32 (FloatKind.f32.nearest (v : Int))
/-- Half of it. -/
def fH (v : Nat) : Nat := farith .quo .f32 (fS v) 1073741824
theorem fold_H (a : Nat) : farith .quo .f32 (fS a) 1073741824 = fH a := rfl
def fV (v : Nat) : Value := .float .f32 (fS v)
theorem cmp_tab : ∀ a : Fin 8, ∀ b : Fin 8, fcmp .lss .f32 (fS a) (fS b) = decide (a.val < b.val) ∧ fcmp .leq .f32 (fS a) (fS b) = decide (a.val ≤ b.val) ∧ fcmp .eql .f32 (fS a) (fS b) = decide (a.val = b.val) ∧ fcmp .lss .f32 (fS a) (fH b) = decide (2 * a.val < b.val) ∧ fcmp .leq .f32 (fH a) (fS b) = decide (a.val ≤ 2 * b.val) := by decide +kernel
def cn (L : List Nat) (i : Nat) : Nat := L.getD i 0
/-- All numbers are small. -/
def CL (L : List Nat) : Prop := ∀ i, cn L i ≤ 7
theorem cl_of {L : List Nat} (h : ∀ v ∈ L, v ≤ 7) : CL L := by
  intro i
  unfold cn
  rw [List.getD_eq_getElem?_getD]
  rcases Nat.lt_or_ge i L.length with q | q
  · rw [List.getElem?_eq_getElem q]
    exact h _ (List.getElem_mem q)
  · rw [List.getElem?_eq_none q]; simp
section cmp
variable {L : List Nat} (hL : CL L) (i j : Nat)
include hL
theorem lt_cn : fcmp .lss .f32 (fS (cn L i)) (fS (cn L j)) = decide (cn L i < cn L j) := (cmp_tab ⟨cn L i, Nat.lt_succ_of_le (hL i)⟩ ⟨cn L j, Nat.lt_succ_of_le (hL j)⟩).1
theorem le_cn : fcmp .leq .f32 (fS (cn L i)) (fS (cn L j)) = decide (cn L i ≤ cn L j) := (cmp_tab ⟨cn L i, Nat.lt_succ_of_le (hL i)⟩ ⟨cn L j, Nat.lt_succ_of_le (hL j)⟩).2.1
theorem eq_cn : fcmp .eql .f32 (fS (cn L i)) (fS (cn L j)) = decide (cn L i = cn L j) := (cmp_tab ⟨cn L i, Nat.lt_succ_of_le (hL i)⟩ ⟨cn L j, Nat.lt_succ_of_le (hL j)⟩).2.2.1
theorem eqs_cn : fcmp .eql .f32 (fS (cn L i)) (fS (cn L i)) = true := by rw [eq_cn hL]; simp
theorem lh_cn : fcmp .lss .f32 (fS (cn L i)) (fH (cn L j)) = decide (2 * cn L i < cn L j) := (cmp_tab ⟨cn L i, Nat.lt_succ_of_le (hL i)⟩ ⟨cn L j, Nat.lt_succ_of_le (hL j)⟩).2.2.2.1
theorem hl_cn : fcmp .leq .f32 (fH (cn L i)) (fS (cn L j)) = decide (cn L i ≤ 2 * cn L j) := (cmp_tab ⟨cn L i, Nat.lt_succ_of_le (hL i)⟩ ⟨cn L j, Nat.lt_succ_of_le (hL j)⟩).2.2.2.2
theorem lhs_cn : fcmp .lss .f32 (fS (cn L i)) (fH (cn L i)) = false := by rw [lh_cn hL]; simp; omega
end cmp
/-- A cut. -/
structure CUT (lo hi : Nat) (h : Heap) (x : Value) (L : List Nat) : Prop where
  v : VS lo hi 1 h x L.length (L.map fV)
  s : CL L
  n : L.length ≤ 12
theorem CUT.pre {lo hi : Nat} {h h' : Heap} {x : Value} {L : List Nat} (c : CUT lo hi h x L) (p : Pfx h h') : CUT lo hi h' x L := ⟨c.v.pre p, c.s, c.n⟩
theorem vth_fV {L : List Nat} {i : Nat} (h : i < L.length) : vth (L.map fV) i = .float .f32 (fS (cn L i)) := by
  rw [vth_eq (by simpa using h)]
  simp [fV, cn, h]
theorem CUT.ld {lo hi : Nat} {h : Heap} {x : Value} {L : List Nat} (c : CUT lo hi h x L) {i : Nat} (hi' : i < L.length) : ld Try.prog h 29 (ea x (i * 1)) = some (.float .f32 (fS (cn L i))) := by
  rw [c.v.ld1 tsz29 tag29 (by omega), Nat.mul_one, vth_fV hi']
theorem CUT.iad {lo hi : Nat} {h : Heap} {x : Value} {L : List Nat} (c : CUT lo hi h x L) (kk : IntKind) {i : Int} (h0 : 0 ≤ i) (h1 : i < L.length) : iadr Try.prog 24 x (.int kk i) = some (ea x (i.toNat * 1)) := c.v.iad Try.underlying24 tsz29 kk h0 h1
theorem CUT.len {lo hi : Nat} {h : Heap} {x : Value} {L : List Nat} (c : CUT lo hi h x L) (h' : Heap) : ablt Try.prog ro .len [24] [x] h' = some (.int .i64 L.length, h') := c.v.len Try.underlying24 h'
theorem withinC_r (hX : XN X) (a b c : Int) (h : Heap) : Ret Try.prog ro X 108 [.int .i64 a, .int .i64 b, .int .i64 c] h (.bool (decide (b ≤ a) && decide (a ≤ c))) := by
  refine ret_of (callR_of (hX _ rfl) Try.func108 rfl (by kernel_rfl) (Nat.le_of_ble_eq_true rfl) ?_)
  (repeat' first | simp -dsimp (disch := first | omega | assumption | (refine OkS.sto ?_ (by omega); first | assumption | (refine OkS.sto ?_ (by omega); first | assumption | (refine OkS.sto ?_ (by omega); first | assumption | (refine OkS.sto ?_ (by omega); first | assumption | (refine OkS.sto ?_ (by omega); first | assumption | (refine OkS.sto ?_ (by omega); first | assumption)))))) | exact Pfx.refl _ | (apply Pfx.snoc; repeat (first | exact Pfx.refl _ | assumption | apply Pfx.snoc)) | with_unfolding_all exact of_eq_true (eq_true rfl) | (simp only [List.length_append, List.length_cons, List.length_nil]; omega)) only [↓wpre0, ↓wpre1, ↓reduceIte, Int.reduceToNat, Nat.reduceAdd, Nat.reduceMul, Nat.reduceEqDiff, wpost0, wpost1, wpost2, wpost3, wpost4, ite_self, ite_true, ite_false, if_true, if_false, bin_geq, bin_leq, fr108, wrap_int, wrap_u8, iteP_yes, iteP_no] | refine iteP_two (fun hc hd => ?_) (fun hc hd => ?_) | refine iteP_intro (fun hc => ?_) (fun hc => ?_))
  all_goals first | (simp_all; done) | (simp_all; omega) | skip
variable {lo hi at_ : Nat} {x : Value} {h : Heap} {L : List Nat}
theorem isCut_r (hX : XN X) (hC : CUT lo hi h x L) (h1 : 1 ≤ L.length) : Ret Try.prog ro X 112 [x] h (.bool true) := by
  have hn := hC.n
  refine ret_of (callR_of (hX _ rfl) Try.func112 rfl (by kernel_rfl) (Nat.le_of_ble_eq_true rfl) ?_)
  (repeat' first | simp -dsimp (disch := first | omega | assumption | (refine OkS.sto ?_ (by omega); first | assumption | (refine OkS.sto ?_ (by omega); first | assumption | (refine OkS.sto ?_ (by omega); first | assumption | (refine OkS.sto ?_ (by omega); first | assumption | (refine OkS.sto ?_ (by omega); first | assumption | (refine OkS.sto ?_ (by omega); first | assumption)))))) | exact Pfx.refl _ | (apply Pfx.snoc; repeat (first | exact Pfx.refl _ | assumption | apply Pfx.snoc)) | with_unfolding_all exact of_eq_true (eq_true rfl) | (simp only [List.length_append, List.length_cons, List.length_nil]; omega)) only [↓wpre0, ↓wpre1, ↓reduceIte, Int.reduceToNat, Nat.reduceAdd, Nat.reduceMul, Nat.reduceEqDiff, wpost0, wpost1, wpost2, wpost3, wpost4, ite_self, ite_true, ite_false, if_true, if_false, xlen24, fr112, wrap_int, wrap_u8, iteP_yes, iteP_no, hC.len, withinC_r hX] | refine iteP_two (fun hc hd => ?_) (fun hc hd => ?_) | refine iteP_intro (fun hc => ?_) (fun hc => ?_))
  simp; omega
theorem isIn_r (hX : XN X) (hC : CUT lo hi h x L) (ha : at_ < L.length) : Ret Try.prog ro X 106 [x, .int .i64 at_] h (.bool true) := by
  have hn := hC.n
  refine ret_of (callR_of (hX _ rfl) Try.func106 rfl (by kernel_rfl) (Nat.le_of_ble_eq_true rfl) ?_)
  (repeat' first | simp -dsimp (disch := first | omega | assumption | (refine OkS.sto ?_ (by omega); first | assumption | (refine OkS.sto ?_ (by omega); first | assumption | (refine OkS.sto ?_ (by omega); first | assumption | (refine OkS.sto ?_ (by omega); first | assumption | (refine OkS.sto ?_ (by omega); first | assumption | (refine OkS.sto ?_ (by omega); first | assumption)))))) | exact Pfx.refl _ | (apply Pfx.snoc; repeat (first | exact Pfx.refl _ | assumption | apply Pfx.snoc)) | with_unfolding_all exact of_eq_true (eq_true rfl) | (simp only [List.length_append, List.length_cons, List.length_nil]; omega)) only [↓wpre0, ↓wpre1, ↓reduceIte, Int.reduceToNat, Nat.reduceAdd, Nat.reduceMul, Nat.reduceEqDiff, wpost0, wpost1, wpost2, wpost3, wpost4, ite_self, ite_true, ite_false, if_true, if_false, xlen24, bin_sub, fr106, wrap_int, wrap_u8, iteP_yes, iteP_no, hC.len, withinC_r hX, isCut_r hX hC (by omega)] | refine iteP_two (fun hc hd => ?_) (fun hc hd => ?_) | refine iteP_intro (fun hc => ?_) (fun hc => ?_))
  all_goals (simp; omega)
def pH (L : List Nat) (a k : Nat) : Bool := decide (cn L a ≤ 2 * cn L k)
theorem toNat_pred (k : Nat) : ((k + 1 : Nat) : Int) - 1 = (k : Int) := by omega
theorem toNat_succ (k : Nat) : (k : Int) + 1 = ((k + 1 : Nat) : Int) := by omega
theorem Width_r (hX : XN X) (hC : CUT lo hi h x L) (ha : at_ < L.length) :
    Ret Try.prog ro X 18 [x, .int .i64 at_] h (.tuple ⟨[.int .i64 (dn (pH L at_) at_ : Nat), .int .i64 (upw (pH L at_) (L.length - 1 - at_) at_ : Nat), .bool true]⟩) := by
  have hn := hC.n
  have hL := hC.s
  refine ret_of (callR_of (hX _ rfl) Try.func18 rfl (by kernel_rfl) (Nat.le_of_ble_eq_true rfl) ?_)
  (repeat' first | simp -dsimp (disch := first | omega | assumption | (refine OkS.sto ?_ (by omega); first | assumption | (refine OkS.sto ?_ (by omega); first | assumption | (refine OkS.sto ?_ (by omega); first | assumption | (refine OkS.sto ?_ (by omega); first | assumption | (refine OkS.sto ?_ (by omega); first | assumption | (refine OkS.sto ?_ (by omega); first | assumption)))))) | exact Pfx.refl _ | (apply Pfx.snoc; repeat (first | exact Pfx.refl _ | assumption | apply Pfx.snoc)) | with_unfolding_all exact of_eq_true (eq_true rfl) | (simp only [List.length_append, List.length_cons, List.length_nil]; omega)) only [↓wpre0, ↓wpre1, ↓reduceIte, Int.reduceToNat, Nat.reduceAdd, Nat.reduceMul, Nat.reduceEqDiff, wpost0, wpost1, wpost2, wpost3, wpost4, ite_self, ite_true, ite_false, if_true, if_false, un_not, xiad24, xld29, bin_fneq, bin_fquo, bin_flss, bin_gtr, bin_sub, bin_fgeq, bin_add, xlen24, bin_lss, fr18, wrap_int, wrap_u8, iteP_yes, iteP_no, isIn_r hX hC ha, hC.iad, hC.ld, eqs_cn hL, fold_H, lhs_cn hL] | refine iteP_two (fun hc hd => ?_) (fun hc hd => ?_) | refine iteP_intro (fun hc => ?_) (fun hc => ?_))
  refine loop_exit 0 (fun e h' => h' = h ∧ e 0 = x ∧ e 7 = .float .f32 (fH (cn L at_)) ∧ e 8 = .int .i64 (dn (pH L at_) at_ : Nat) ∧ e 9 = .int .i64 at_) ?_ ?_
  · refine loop_rounds (fun m e h' => ∃ v : Nat, m = v ∧ v ≤ at_ ∧ h' = h ∧ e 0 = x ∧ e 7 = .float .f32 (fH (cn L at_)) ∧ e 8 = .int .i64 v ∧ e 9 = .int .i64 at_ ∧ dn (pH L at_) at_ = dn (pH L at_) v) _ ⟨at_, rfl, ?_⟩ ?_
    · simp only [updO_at, updO_not, entry_at, List.getD_cons_zero, List.getD_cons_succ, ↓reduceIte, Nat.reduceEqDiff, true_and, and_true]
      exact Nat.le_refl _
    · rintro m e h' ⟨v, hm, hle, rfl, g0, g7, g8, g9, hd⟩
      cases v with
      | zero =>
        (repeat' first | simp -dsimp (disch := first | omega | assumption | (refine OkS.sto ?_ (by omega); first | assumption | (refine OkS.sto ?_ (by omega); first | assumption | (refine OkS.sto ?_ (by omega); first | assumption | (refine OkS.sto ?_ (by omega); first | assumption | (refine OkS.sto ?_ (by omega); first | assumption | (refine OkS.sto ?_ (by omega); first | assumption)))))) | exact Pfx.refl _ | (apply Pfx.snoc; repeat (first | exact Pfx.refl _ | assumption | apply Pfx.snoc)) | with_unfolding_all exact of_eq_true (eq_true rfl) | (simp only [List.length_append, List.length_cons, List.length_nil]; omega)) only [↓wpre0, ↓wpre1, ↓reduceIte, Int.reduceToNat, Nat.reduceAdd, Nat.reduceMul, Nat.reduceEqDiff, wpost0, wpost1, wpost2, wpost3, wpost4, ite_self, ite_true, ite_false, if_true, if_false, un_not, xiad24, xld29, bin_fneq, bin_fquo, bin_flss, bin_gtr, bin_sub, bin_fgeq, bin_add, xlen24, bin_lss, fr18, wrap_int, wrap_u8, iteP_yes, iteP_no, g0, g7, g8, g9] | refine iteP_two (fun hc hd => ?_) (fun hc hd => ?_) | refine iteP_intro (fun hc => ?_) (fun hc => ?_))
        rw [hd]; rfl
      | succ k =>
        have hk := toNat_pred k
        by_cases hp : pH L at_ k = true
        · have hq : cn L at_ ≤ 2 * cn L k := by simpa [pH] using hp
          (repeat' first | simp -dsimp (disch := first | omega | assumption | (refine OkS.sto ?_ (by omega); first | assumption | (refine OkS.sto ?_ (by omega); first | assumption | (refine OkS.sto ?_ (by omega); first | assumption | (refine OkS.sto ?_ (by omega); first | assumption | (refine OkS.sto ?_ (by omega); first | assumption | (refine OkS.sto ?_ (by omega); first | assumption)))))) | exact Pfx.refl _ | (apply Pfx.snoc; repeat (first | exact Pfx.refl _ | assumption | apply Pfx.snoc)) | with_unfolding_all exact of_eq_true (eq_true rfl) | (simp only [List.length_append, List.length_cons, List.length_nil]; omega)) only [↓wpre0, ↓wpre1, ↓reduceIte, Int.reduceToNat, Nat.reduceAdd, Nat.reduceMul, Nat.reduceEqDiff, wpost0, wpost1, wpost2, wpost3, wpost4, ite_self, ite_true, ite_false, if_true, if_false, un_not, xiad24, xld29, bin_fneq, bin_fquo, bin_flss, bin_gtr, bin_sub, bin_fgeq, bin_add, xlen24, bin_lss, fr18, wrap_int, wrap_u8, iteP_yes, iteP_no, g0, g7, g8, g9, hk, hC.iad, hC.ld, hl_cn hL] | refine iteP_two (fun hc hd => ?_) (fun hc hd => ?_) | refine iteP_intro (fun hc => ?_) (fun hc => ?_))
          exact ⟨_, by omega, k, rfl, by omega, rfl, by rw [hd, dn_yes hp]⟩
        · have hq : ¬ cn L at_ ≤ 2 * cn L k := by simpa [pH] using hp
          (repeat' first | simp -dsimp (disch := first | omega | assumption | (refine OkS.sto ?_ (by omega); first | assumption | (refine OkS.sto ?_ (by omega); first | assumption | (refine OkS.sto ?_ (by omega); first | assumption | (refine OkS.sto ?_ (by omega); first | assumption | (refine OkS.sto ?_ (by omega); first | assumption | (refine OkS.sto ?_ (by omega); first | assumption)))))) | exact Pfx.refl _ | (apply Pfx.snoc; repeat (first | exact Pfx.refl _ | assumption | apply Pfx.snoc)) | with_unfolding_all exact of_eq_true (eq_true rfl) | (simp only [List.length_append, List.length_cons, List.length_nil]; omega)) only [↓wpre0, ↓wpre1, ↓reduceIte, Int.reduceToNat, Nat.reduceAdd, Nat.reduceMul, Nat.reduceEqDiff, wpost0, wpost1, wpost2, wpost3, wpost4, ite_self, ite_true, ite_false, if_true, if_false, un_not, xiad24, xld29, bin_fneq, bin_fquo, bin_flss, bin_gtr, bin_sub, bin_fgeq, bin_add, xlen24, bin_lss, fr18, wrap_int, wrap_u8, iteP_yes, iteP_no, g0, g7, g8, g9, hk, hC.iad, hC.ld, hl_cn hL] | refine iteP_two (fun hc hd => ?_) (fun hc hd => ?_) | refine iteP_intro (fun hc => ?_) (fun hc => ?_))
          rw [hd, dn_no (by simpa using hp)]
  · rintro e h1 ⟨rfl, g0, g7, g8, g9⟩
    (repeat' first | simp -dsimp (disch := first | omega | assumption | (refine OkS.sto ?_ (by omega); first | assumption | (refine OkS.sto ?_ (by omega); first | assumption | (refine OkS.sto ?_ (by omega); first | assumption | (refine OkS.sto ?_ (by omega); first | assumption | (refine OkS.sto ?_ (by omega); first | assumption | (refine OkS.sto ?_ (by omega); first | assumption)))))) | exact Pfx.refl _ | (apply Pfx.snoc; repeat (first | exact Pfx.refl _ | assumption | apply Pfx.snoc)) | with_unfolding_all exact of_eq_true (eq_true rfl) | (simp only [List.length_append, List.length_cons, List.length_nil]; omega)) only [↓wpre0, ↓wpre1, ↓reduceIte, Int.reduceToNat, Nat.reduceAdd, Nat.reduceMul, Nat.reduceEqDiff, wpost0, wpost1, wpost2, wpost3, wpost4, ite_self, ite_true, ite_false, if_true, if_false, un_not, xiad24, xld29, bin_fneq, bin_fquo, bin_flss, bin_gtr, bin_sub, bin_fgeq, bin_add, xlen24, bin_lss, fr18, wrap_int, wrap_u8, iteP_yes, iteP_no, g0, g7, g8, g9] | refine iteP_two (fun hc hd => ?_) (fun hc hd => ?_) | refine iteP_intro (fun hc => ?_) (fun hc => ?_))
    refine loop_rounds (fun m e h' => ∃ v : Nat, m = L.length - 1 - v ∧ at_ ≤ v ∧ v < L.length ∧ h' = h1 ∧ e 0 = x ∧ e 7 = .float .f32 (fH (cn L at_)) ∧ e 8 = .int .i64 (dn (pH L at_) at_ : Nat) ∧ e 9 = .int .i64 v ∧ upw (pH L at_) (L.length - 1 - at_) at_ = upw (pH L at_) (L.length - 1 - v) v) _ ⟨at_, rfl, ?_⟩ ?_
    · simp only [updO_at, updO_not, entry_at, List.getD_cons_zero, List.getD_cons_succ, ↓reduceIte, Nat.reduceEqDiff, true_and, and_true]
      exact ⟨Nat.le_refl _, ha, g0, g7, g8, g9⟩
    · rintro m e h' ⟨v, hm, hle, hlt, rfl, g0, g7, g8, g9, hd⟩
      have hk := toNat_succ v
      by_cases hv : v + 1 < L.length
      · obtain ⟨f, hf⟩ : ∃ f, L.length - 1 - v = f + 1 := ⟨L.length - 1 - (v + 1), by omega⟩
        by_cases hp : pH L at_ (v + 1) = true
        · have hq : cn L at_ ≤ 2 * cn L (v + 1) := by simpa [pH] using hp
          (repeat' first | simp -dsimp (disch := first | omega | assumption | (refine OkS.sto ?_ (by omega); first | assumption | (refine OkS.sto ?_ (by omega); first | assumption | (refine OkS.sto ?_ (by omega); first | assumption | (refine OkS.sto ?_ (by omega); first | assumption | (refine OkS.sto ?_ (by omega); first | assumption | (refine OkS.sto ?_ (by omega); first | assumption)))))) | exact Pfx.refl _ | (apply Pfx.snoc; repeat (first | exact Pfx.refl _ | assumption | apply Pfx.snoc)) | with_unfolding_all exact of_eq_true (eq_true rfl) | (simp only [List.length_append, List.length_cons, List.length_nil]; omega)) only [↓wpre0, ↓wpre1, ↓reduceIte, Int.reduceToNat, Nat.reduceAdd, Nat.reduceMul, Nat.reduceEqDiff, wpost0, wpost1, wpost2, wpost3, wpost4, ite_self, ite_true, ite_false, if_true, if_false, un_not, xiad24, xld29, bin_fneq, bin_fquo, bin_flss, bin_gtr, bin_sub, bin_fgeq, bin_add, xlen24, bin_lss, fr18, wrap_int, wrap_u8, iteP_yes, iteP_no, g0, g7, g8, g9, hk, hC.len, hC.iad, hC.ld, hl_cn hL] | refine iteP_two (fun hc hd => ?_) (fun hc hd => ?_) | refine iteP_intro (fun hc => ?_) (fun hc => ?_))
          refine ⟨f, by omega, v + 1, by omega, by omega, by omega, rfl, ?_⟩
          rw [hd, hf, upw_yes hp, show L.length - 1 - (v + 1) = f by omega]
        · have hq : ¬ cn L at_ ≤ 2 * cn L (v + 1) := by simpa [pH] using hp
          (repeat' first | simp -dsimp (disch := first | omega | assumption | (refine OkS.sto ?_ (by omega); first | assumption | (refine OkS.sto ?_ (by omega); first | assumption | (refine OkS.sto ?_ (by omega); first | assumption | (refine OkS.sto ?_ (by omega); first | assumption | (refine OkS.sto ?_ (by omega); first | assumption | (refine OkS.sto ?_ (by omega); first | assumption)))))) | exact Pfx.refl _ | (apply Pfx.snoc; repeat (first | exact Pfx.refl _ | assumption | apply Pfx.snoc)) | with_unfolding_all exact of_eq_true (eq_true rfl) | (simp only [List.length_append, List.length_cons, List.length_nil]; omega)) only [↓wpre0, ↓wpre1, ↓reduceIte, Int.reduceToNat, Nat.reduceAdd, Nat.reduceMul, Nat.reduceEqDiff, wpost0, wpost1, wpost2, wpost3, wpost4, ite_self, ite_true, ite_false, if_true, if_false, un_not, xiad24, xld29, bin_fneq, bin_fquo, bin_flss, bin_gtr, bin_sub, bin_fgeq, bin_add, xlen24, bin_lss, fr18, wrap_int, wrap_u8, iteP_yes, iteP_no, g0, g7, g8, g9, hk, hC.len, hC.iad, hC.ld, hl_cn hL] | refine iteP_two (fun hc hd => ?_) (fun hc hd => ?_) | refine iteP_intro (fun hc => ?_) (fun hc => ?_))
          rw [hd, hf, upw_no (by simpa using hp)]
      · have hf : L.length - 1 - v = 0 := by omega
        (repeat' first | simp -dsimp (disch := first | omega | assumption | (refine OkS.sto ?_ (by omega); first | assumption | (refine OkS.sto ?_ (by omega); first | assumption | (refine OkS.sto ?_ (by omega); first | assumption | (refine OkS.sto ?_ (by omega); first | assumption | (refine OkS.sto ?_ (by omega); first | assumption | (refine OkS.sto ?_ (by omega); first | assumption)))))) | exact Pfx.refl _ | (apply Pfx.snoc; repeat (first | exact Pfx.refl _ | assumption | apply Pfx.snoc)) | with_unfolding_all exact of_eq_true (eq_true rfl) | (simp only [List.length_append, List.length_cons, List.length_nil]; omega)) only [↓wpre0, ↓wpre1, ↓reduceIte, Int.reduceToNat, Nat.reduceAdd, Nat.reduceMul, Nat.reduceEqDiff, wpost0, wpost1, wpost2, wpost3, wpost4, ite_self, ite_true, ite_false, if_true, if_false, un_not, xiad24, xld29, bin_fneq, bin_fquo, bin_flss, bin_gtr, bin_sub, bin_fgeq, bin_add, xlen24, bin_lss, fr18, wrap_int, wrap_u8, iteP_yes, iteP_no, g0, g7, g8, g9, hk, hC.len] | refine iteP_two (fun hc hd => ?_) (fun hc hd => ?_) | refine iteP_intro (fun hc => ?_) (fun hc => ?_))
        rw [hd, hf]; rfl
def pD (L : List Nat) (k : Nat) : Bool := decide (cn L k ≤ cn L (k + 1))
def pU (L : List Nat) (k : Nat) : Bool := decide (cn L k ≤ cn L (k - 1))
def mlF (L : List Nat) (a : Nat) : Nat := dn (pD L) a
def mlT (L : List Nat) (a : Nat) : Nat := upw (pU L) (L.length - 1 - a) a
theorem mainLobe_r (hX : XN X) (hC : CUT lo hi h x L) (ha : at_ < L.length) :
    Ret Try.prog ro X 107 [x, .int .i64 at_] h (.tuple ⟨[.int .i64 (mlF L at_ : Nat), .int .i64 (mlT L at_ : Nat)]⟩) := by
  have hn := hC.n
  have hL := hC.s
  refine ret_of (callR_of (hX _ rfl) Try.func107 rfl (by kernel_rfl) (Nat.le_of_ble_eq_true rfl) ?_)
  (repeat' first | simp -dsimp (disch := first | omega | assumption | (refine OkS.sto ?_ (by omega); first | assumption | (refine OkS.sto ?_ (by omega); first | assumption | (refine OkS.sto ?_ (by omega); first | assumption | (refine OkS.sto ?_ (by omega); first | assumption | (refine OkS.sto ?_ (by omega); first | assumption | (refine OkS.sto ?_ (by omega); first | assumption)))))) | exact Pfx.refl _ | (apply Pfx.snoc; repeat (first | exact Pfx.refl _ | assumption | apply Pfx.snoc)) | with_unfolding_all exact of_eq_true (eq_true rfl) | (simp only [List.length_append, List.length_cons, List.length_nil]; omega)) only [↓wpre0, ↓wpre1, ↓reduceIte, Int.reduceToNat, Nat.reduceAdd, Nat.reduceMul, Nat.reduceEqDiff, wpost0, wpost1, wpost2, wpost3, wpost4, ite_self, ite_true, ite_false, if_true, if_false, bin_gtr, bin_sub, xiad24, xld29, bin_fleq, bin_add, xlen24, bin_lss, fr107, wrap_int, wrap_u8, iteP_yes, iteP_no] | refine iteP_two (fun hc hd => ?_) (fun hc hd => ?_) | refine iteP_intro (fun hc => ?_) (fun hc => ?_))
  refine loop_exit 0 (fun e h' => h' = h ∧ e 0 = x ∧ e 6 = .int .i64 (mlF L at_ : Nat) ∧ e 7 = .int .i64 at_) ?_ ?_
  · refine loop_rounds (fun m e h' => ∃ v : Nat, m = v ∧ v ≤ at_ ∧ h' = h ∧ e 0 = x ∧ e 6 = .int .i64 v ∧ e 7 = .int .i64 at_ ∧ mlF L at_ = dn (pD L) v) _ ⟨at_, rfl, ?_⟩ ?_
    · simp only [updO_at, updO_not, entry_at, List.getD_cons_zero, List.getD_cons_succ, ↓reduceIte, Nat.reduceEqDiff, true_and, and_true]
      exact ⟨Nat.le_refl _, rfl⟩
    · rintro m e h' ⟨v, hm, hle, rfl, g0, g6, g7, hd⟩
      cases v with
      | zero =>
        (repeat' first | simp -dsimp (disch := first | omega | assumption | (refine OkS.sto ?_ (by omega); first | assumption | (refine OkS.sto ?_ (by omega); first | assumption | (refine OkS.sto ?_ (by omega); first | assumption | (refine OkS.sto ?_ (by omega); first | assumption | (refine OkS.sto ?_ (by omega); first | assumption | (refine OkS.sto ?_ (by omega); first | assumption)))))) | exact Pfx.refl _ | (apply Pfx.snoc; repeat (first | exact Pfx.refl _ | assumption | apply Pfx.snoc)) | with_unfolding_all exact of_eq_true (eq_true rfl) | (simp only [List.length_append, List.length_cons, List.length_nil]; omega)) only [↓wpre0, ↓wpre1, ↓reduceIte, Int.reduceToNat, Nat.reduceAdd, Nat.reduceMul, Nat.reduceEqDiff, wpost0, wpost1, wpost2, wpost3, wpost4, ite_self, ite_true, ite_false, if_true, if_false, bin_gtr, bin_sub, xiad24, xld29, bin_fleq, bin_add, xlen24, bin_lss, fr107, wrap_int, wrap_u8, iteP_yes, iteP_no, g0, g6, g7] | refine iteP_two (fun hc hd => ?_) (fun hc hd => ?_) | refine iteP_intro (fun hc => ?_) (fun hc => ?_))
        rw [hd]; rfl
      | succ k =>
        have hk := toNat_pred k
        by_cases hp : pD L k = true
        · have hq : cn L k ≤ cn L (k + 1) := by simpa [pD] using hp
          (repeat' first | simp -dsimp (disch := first | omega | assumption | (refine OkS.sto ?_ (by omega); first | assumption | (refine OkS.sto ?_ (by omega); first | assumption | (refine OkS.sto ?_ (by omega); first | assumption | (refine OkS.sto ?_ (by omega); first | assumption | (refine OkS.sto ?_ (by omega); first | assumption | (refine OkS.sto ?_ (by omega); first | assumption)))))) | exact Pfx.refl _ | (apply Pfx.snoc; repeat (first | exact Pfx.refl _ | assumption | apply Pfx.snoc)) | with_unfolding_all exact of_eq_true (eq_true rfl) | (simp only [List.length_append, List.length_cons, List.length_nil]; omega)) only [↓wpre0, ↓wpre1, ↓reduceIte, Int.reduceToNat, Nat.reduceAdd, Nat.reduceMul, Nat.reduceEqDiff, wpost0, wpost1, wpost2, wpost3, wpost4, ite_self, ite_true, ite_false, if_true, if_false, bin_gtr, bin_sub, xiad24, xld29, bin_fleq, bin_add, xlen24, bin_lss, fr107, wrap_int, wrap_u8, iteP_yes, iteP_no, g0, g6, g7, hk, hC.iad, hC.ld, le_cn hL] | refine iteP_two (fun hc hd => ?_) (fun hc hd => ?_) | refine iteP_intro (fun hc => ?_) (fun hc => ?_))
          exact ⟨_, by omega, k, rfl, by omega, rfl, by rw [hd, dn_yes hp]⟩
        · have hq : ¬ cn L k ≤ cn L (k + 1) := by simpa [pD] using hp
          (repeat' first | simp -dsimp (disch := first | omega | assumption | (refine OkS.sto ?_ (by omega); first | assumption | (refine OkS.sto ?_ (by omega); first | assumption | (refine OkS.sto ?_ (by omega); first | assumption | (refine OkS.sto ?_ (by omega); first | assumption | (refine OkS.sto ?_ (by omega); first | assumption | (refine OkS.sto ?_ (by omega); first | assumption)))))) | exact Pfx.refl _ | (apply Pfx.snoc; repeat (first | exact Pfx.refl _ | assumption | apply Pfx.snoc)) | with_unfolding_all exact of_eq_true (eq_true rfl) | (simp only [List.length_append, List.length_cons, List.length_nil]; omega)) only [↓wpre0, ↓wpre1, ↓reduceIte, Int.reduceToNat, Nat.reduceAdd, Nat.reduceMul, Nat.reduceEqDiff, wpost0, wpost1, wpost2, wpost3, wpost4, ite_self, ite_true, ite_false, if_true, if_false, bin_gtr, bin_sub, xiad24, xld29, bin_fleq, bin_add, xlen24, bin_lss, fr107, wrap_int, wrap_u8, iteP_yes, iteP_no, g0, g6, g7, hk, hC.iad, hC.ld, le_cn hL] | refine iteP_two (fun hc hd => ?_) (fun hc hd => ?_) | refine iteP_intro (fun hc => ?_) (fun hc => ?_))
          rw [hd, dn_no (by simpa using hp)]
  · rintro e h1 ⟨rfl, g0, g6, g7⟩
    (repeat' first | simp -dsimp (disch := first | omega | assumption | (refine OkS.sto ?_ (by omega); first | assumption | (refine OkS.sto ?_ (by omega); first | assumption | (refine OkS.sto ?_ (by omega); first | assumption | (refine OkS.sto ?_ (by omega); first | assumption | (refine OkS.sto ?_ (by omega); first | assumption | (refine OkS.sto ?_ (by omega); first | assumption)))))) | exact Pfx.refl _ | (apply Pfx.snoc; repeat (first | exact Pfx.refl _ | assumption | apply Pfx.snoc)) | with_unfolding_all exact of_eq_true (eq_true rfl) | (simp only [List.length_append, List.length_cons, List.length_nil]; omega)) only [↓wpre0, ↓wpre1, ↓reduceIte, Int.reduceToNat, Nat.reduceAdd, Nat.reduceMul, Nat.reduceEqDiff, wpost0, wpost1, wpost2, wpost3, wpost4, ite_self, ite_true, ite_false, if_true, if_false, bin_gtr, bin_sub, xiad24, xld29, bin_fleq, bin_add, xlen24, bin_lss, fr107, wrap_int, wrap_u8, iteP_yes, iteP_no, g0, g6, g7] | refine iteP_two (fun hc hd => ?_) (fun hc hd => ?_) | refine iteP_intro (fun hc => ?_) (fun hc => ?_))
    refine loop_rounds (fun m e h' => ∃ v : Nat, m = L.length - 1 - v ∧ at_ ≤ v ∧ v < L.length ∧ h' = h1 ∧ e 0 = x ∧ e 6 = .int .i64 (mlF L at_ : Nat) ∧ e 7 = .int .i64 v ∧ mlT L at_ = upw (pU L) (L.length - 1 - v) v) _ ⟨at_, rfl, ?_⟩ ?_
    · simp only [updO_at, updO_not, entry_at, List.getD_cons_zero, List.getD_cons_succ, ↓reduceIte, Nat.reduceEqDiff, true_and, and_true]
      exact ⟨Nat.le_refl _, ha, g0, g6, g7, rfl⟩
    · rintro m e h' ⟨v, hm, hle, hlt, rfl, g0, g6, g7, hd⟩
      have hk := toNat_succ v
      by_cases hv : v + 1 < L.length
      · obtain ⟨f, hf⟩ : ∃ f, L.length - 1 - v = f + 1 := ⟨L.length - 1 - (v + 1), by omega⟩
        by_cases hp : pU L (v + 1) = true
        · have hq : cn L (v + 1) ≤ cn L v := by simpa [pU] using hp
          (repeat' first | simp -dsimp (disch := first | omega | assumption | (refine OkS.sto ?_ (by omega); first | assumption | (refine OkS.sto ?_ (by omega); first | assumption | (refine OkS.sto ?_ (by omega); first | assumption | (refine OkS.sto ?_ (by omega); first | assumption | (refine OkS.sto ?_ (by omega); first | assumption | (refine OkS.sto ?_ (by omega); first | assumption)))))) | exact Pfx.refl _ | (apply Pfx.snoc; repeat (first | exact Pfx.refl _ | assumption | apply Pfx.snoc)) | with_unfolding_all exact of_eq_true (eq_true rfl) | (simp only [List.length_append, List.length_cons, List.length_nil]; omega)) only [↓wpre0, ↓wpre1, ↓reduceIte, Int.reduceToNat, Nat.reduceAdd, Nat.reduceMul, Nat.reduceEqDiff, wpost0, wpost1, wpost2, wpost3, wpost4, ite_self, ite_true, ite_false, if_true, if_false, bin_gtr, bin_sub, xiad24, xld29, bin_fleq, bin_add, xlen24, bin_lss, fr107, wrap_int, wrap_u8, iteP_yes, iteP_no, g0, g6, g7, hk, hC.len, hC.iad, hC.ld, le_cn hL] | refine iteP_two (fun hc hd => ?_) (fun hc hd => ?_) | refine iteP_intro (fun hc => ?_) (fun hc => ?_))
          refine ⟨f, by omega, v + 1, by omega, by omega, by omega, rfl, ?_⟩
          rw [hd, hf, upw_yes hp, show L.length - 1 - (v + 1) = f by omega]
        · have hq : ¬ cn L (v + 1) ≤ cn L v := by simpa [pU] using hp
          (repeat' first | simp -dsimp (disch := first | omega | assumption | (refine OkS.sto ?_ (by omega); first | assumption | (refine OkS.sto ?_ (by omega); first | assumption | (refine OkS.sto ?_ (by omega); first | assumption | (refine OkS.sto ?_ (by omega); first | assumption | (refine OkS.sto ?_ (by omega); first | assumption | (refine OkS.sto ?_ (by omega); first | assumption)))))) | exact Pfx.refl _ | (apply Pfx.snoc; repeat (first | exact Pfx.refl _ | assumption | apply Pfx.snoc)) | with_unfolding_all exact of_eq_true (eq_true rfl) | (simp only [List.length_append, List.length_cons, List.length_nil]; omega)) only [↓wpre0, ↓wpre1, ↓reduceIte, Int.reduceToNat, Nat.reduceAdd, Nat.reduceMul, Nat.reduceEqDiff, wpost0, wpost1, wpost2, wpost3, wpost4, ite_self, ite_true, ite_false, if_true, if_false, bin_gtr, bin_sub, xiad24, xld29, bin_fleq, bin_add, xlen24, bin_lss, fr107, wrap_int, wrap_u8, iteP_yes, iteP_no, g0, g6, g7, hk, hC.len, hC.iad, hC.ld, le_cn hL] | refine iteP_two (fun hc hd => ?_) (fun hc hd => ?_) | refine iteP_intro (fun hc => ?_) (fun hc => ?_))
          rw [hd, hf, upw_no (by simpa using hp)]
      · have hf : L.length - 1 - v = 0 := by omega
        (repeat' first | simp -dsimp (disch := first | omega | assumption | (refine OkS.sto ?_ (by omega); first | assumption | (refine OkS.sto ?_ (by omega); first | assumption | (refine OkS.sto ?_ (by omega); first | assumption | (refine OkS.sto ?_ (by omega); first | assumption | (refine OkS.sto ?_ (by omega); first | assumption | (refine OkS.sto ?_ (by omega); first | assumption)))))) | exact Pfx.refl _ | (apply Pfx.snoc; repeat (first | exact Pfx.refl _ | assumption | apply Pfx.snoc)) | with_unfolding_all exact of_eq_true (eq_true rfl) | (simp only [List.length_append, List.length_cons, List.length_nil]; omega)) only [↓wpre0, ↓wpre1, ↓reduceIte, Int.reduceToNat, Nat.reduceAdd, Nat.reduceMul, Nat.reduceEqDiff, wpost0, wpost1, wpost2, wpost3, wpost4, ite_self, ite_true, ite_false, if_true, if_false, bin_gtr, bin_sub, xiad24, xld29, bin_fleq, bin_add, xlen24, bin_lss, fr107, wrap_int, wrap_u8, iteP_yes, iteP_no, g0, g6, g7, hk, hC.len] | refine iteP_two (fun hc hd => ?_) (fun hc hd => ?_) | refine iteP_intro (fun hc => ?_) (fun hc => ?_))
        rw [hd, hf]; rfl
theorem MainLobe_r (hX : XN X) (hC : CUT lo hi h x L) (ha : at_ < L.length) :
    Ret Try.prog ro X 19 [x, .int .i64 at_] h (.tuple ⟨[.int .i64 (mlF L at_ : Nat), .int .i64 (mlT L at_ : Nat), .bool true]⟩) := by
  refine ret_of (callR_of (hX _ rfl) Try.func19 rfl (by kernel_rfl) (Nat.le_of_ble_eq_true rfl) ?_)
  (repeat' first | simp -dsimp (disch := first | omega | assumption | (refine OkS.sto ?_ (by omega); first | assumption | (refine OkS.sto ?_ (by omega); first | assumption | (refine OkS.sto ?_ (by omega); first | assumption | (refine OkS.sto ?_ (by omega); first | assumption | (refine OkS.sto ?_ (by omega); first | assumption | (refine OkS.sto ?_ (by omega); first | assumption)))))) | exact Pfx.refl _ | (apply Pfx.snoc; repeat (first | exact Pfx.refl _ | assumption | apply Pfx.snoc)) | with_unfolding_all exact of_eq_true (eq_true rfl) | (simp only [List.length_append, List.length_cons, List.length_nil]; omega)) only [↓wpre0, ↓wpre1, ↓reduceIte, Int.reduceToNat, Nat.reduceAdd, Nat.reduceMul, Nat.reduceEqDiff, wpost0, wpost1, wpost2, wpost3, wpost4, ite_self, ite_true, ite_false, if_true, if_false, un_not, fr19, wrap_int, wrap_u8, iteP_yes, iteP_no, isIn_r hX hC ha, mainLobe_r hX hC ha] | refine iteP_two (fun hc hd => ?_) (fun hc hd => ?_) | refine iteP_intro (fun hc => ?_) (fun hc => ?_))
/-- The greatest number outside of a lobe, of so many. -/
def SD (L : List Nat) (f t n b : Nat) (q : Bool) : Prop := b ≤ 7 ∧ (q = true → ∃ i, i < n ∧ (i < f ∨ t < i) ∧ cn L i = b) ∧ ∀ i, i < n → (i < f ∨ t < i) → q = true ∧ cn L i ≤ b
theorem lt_bn (hL : CL L) {b : Nat} (hb : b ≤ 7) (i : Nat) : fcmp .lss .f32 (fS b) (fS (cn L i)) = decide (b < cn L i) := (cmp_tab ⟨b, Nat.lt_succ_of_le hb⟩ ⟨cn L i, Nat.lt_succ_of_le (hL i)⟩).1
theorem zero_fS : fS 0 = 0 := by decide +kernel
theorem Side_c (hX : XN X) (hC : CUT lo hi h x L) (ha : at_ < L.length) :
    CallR Try.prog ro X 20 [x, .int .i64 at_] h (fun r h' => ∃ (b : Nat) (q : Bool), r = .tuple ⟨[.float .f32 (fS b), .bool q]⟩ ∧ h' = h ∧ SD L (mlF L at_) (mlT L at_) L.length b q) := by
  have hn := hC.n
  have hL := hC.s
  refine callR_of (hX _ rfl) Try.func20 rfl (by kernel_rfl) (Nat.le_of_ble_eq_true rfl) ?_
  (repeat' first | simp -dsimp (disch := first | omega | assumption | (refine OkS.sto ?_ (by omega); first | assumption | (refine OkS.sto ?_ (by omega); first | assumption | (refine OkS.sto ?_ (by omega); first | assumption | (refine OkS.sto ?_ (by omega); first | assumption | (refine OkS.sto ?_ (by omega); first | assumption | (refine OkS.sto ?_ (by omega); first | assumption)))))) | exact Pfx.refl _ | (apply Pfx.snoc; repeat (first | exact Pfx.refl _ | assumption | apply Pfx.snoc)) | with_unfolding_all exact of_eq_true (eq_true rfl) | (simp only [List.length_append, List.length_cons, List.length_nil]; omega)) only [↓wpre0, ↓wpre1, ↓reduceIte, Int.reduceToNat, Nat.reduceAdd, Nat.reduceMul, Nat.reduceEqDiff, wpost0, wpost1, wpost2, wpost3, wpost4, ite_self, ite_true, ite_false, if_true, if_false, un_not, xlen24, bin_lss, xiad24, xld29, bin_feql, bin_fgtr, bin_add, fr20, wrap_int, wrap_u8, iteP_yes, iteP_no, isIn_r hX hC ha, mainLobe_r hX hC ha, hC.len] | refine iteP_two (fun hc hd => ?_) (fun hc hd => ?_) | refine iteP_intro (fun hc => ?_) (fun hc => ?_))
  generalize mlF L at_ = F
  generalize mlT L at_ = T
  refine loop_rounds (fun m e h' => ∃ (i b : Nat) (q : Bool), m = L.length - i ∧ i ≤ L.length ∧ h' = h ∧ e 6 = .int .i64 F ∧ e 7 = .int .i64 T ∧ e 8 = .float .f32 (fS b) ∧ e 9 = .bool q ∧ e 22 = x ∧ e 23 = .int .i64 L.length ∧ e 24 = .int .i64 i ∧ SD L F T i b q) _ ⟨0, 0, false, rfl, ?_⟩ ?_
  · simp only [updO_at, updO_not, entry_at, List.getD_cons_zero, List.getD_cons_succ, ↓reduceIte, Nat.reduceEqDiff, true_and, and_true]
    refine ⟨by omega, by rw [zero_fS], rfl, by omega, (fun q => by cases q), fun i hi => by omega⟩
  · rintro m e h' ⟨i, b, q, hm, hle, rfl, g6, g7, g8, g9, g22, g23, g24, hb, hq, hall⟩
    have hk := toNat_succ i
    by_cases hin : i < L.length
    · by_cases ho : i < F ∨ T < i
      · have hw : (decide ((F : Int) ≤ (i : Int)) && decide ((i : Int) ≤ (T : Int))) = false := by simp; omega
        by_cases hlt : q = false ∨ b < cn L i
        · have hs : SD L F T (i + 1) (cn L i) true := ⟨hL i, fun _ => ⟨i, by omega, ho, rfl⟩, fun j hj hjo => by
            refine ⟨rfl, ?_⟩
            by_cases e : j = i
            · rw [e]; exact Nat.le_refl _
            · have := hall j (by omega) hjo
              rcases hlt with hq0 | hlt
              · rw [hq0] at this; cases this.1
              · omega⟩
          cases q with
          | false =>
            (repeat' first | simp -dsimp (disch := first | omega | assumption | (refine OkS.sto ?_ (by omega); first | assumption | (refine OkS.sto ?_ (by omega); first | assumption | (refine OkS.sto ?_ (by omega); first | assumption | (refine OkS.sto ?_ (by omega); first | assumption | (refine OkS.sto ?_ (by omega); first | assumption | (refine OkS.sto ?_ (by omega); first | assumption)))))) | exact Pfx.refl _ | (apply Pfx.snoc; repeat (first | exact Pfx.refl _ | assumption | apply Pfx.snoc)) | with_unfolding_all exact of_eq_true (eq_true rfl) | (simp only [List.length_append, List.length_cons, List.length_nil]; omega)) only [↓wpre0, ↓wpre1, ↓reduceIte, Int.reduceToNat, Nat.reduceAdd, Nat.reduceMul, Nat.reduceEqDiff, wpost0, wpost1, wpost2, wpost3, wpost4, ite_self, ite_true, ite_false, if_true, if_false, un_not, xlen24, bin_lss, xiad24, xld29, bin_feql, bin_fgtr, bin_add, fr20, wrap_int, wrap_u8, iteP_yes, iteP_no, g6, g7, g8, g9, g22, g23, g24, hk, hC.iad, hC.ld, eqs_cn hL, withinC_r hX, hw] | refine iteP_two (fun hc hd => ?_) (fun hc hd => ?_) | refine iteP_intro (fun hc => ?_) (fun hc => ?_))
            exact ⟨_, by omega, i + 1, _, _, rfl, by omega, rfl, rfl, rfl, hs⟩
          | true =>
            have hlt' : b < cn L i := by rcases hlt with q | q; cases q; exact q
            (repeat' first | simp -dsimp (disch := first | omega | assumption | (refine OkS.sto ?_ (by omega); first | assumption | (refine OkS.sto ?_ (by omega); first | assumption | (refine OkS.sto ?_ (by omega); first | assumption | (refine OkS.sto ?_ (by omega); first | assumption | (refine OkS.sto ?_ (by omega); first | assumption | (refine OkS.sto ?_ (by omega); first | assumption)))))) | exact Pfx.refl _ | (apply Pfx.snoc; repeat (first | exact Pfx.refl _ | assumption | apply Pfx.snoc)) | with_unfolding_all exact of_eq_true (eq_true rfl) | (simp only [List.length_append, List.length_cons, List.length_nil]; omega)) only [↓wpre0, ↓wpre1, ↓reduceIte, Int.reduceToNat, Nat.reduceAdd, Nat.reduceMul, Nat.reduceEqDiff, wpost0, wpost1, wpost2, wpost3, wpost4, ite_self, ite_true, ite_false, if_true, if_false, un_not, xlen24, bin_lss, xiad24, xld29, bin_feql, bin_fgtr, bin_add, fr20, wrap_int, wrap_u8, iteP_yes, iteP_no, g6, g7, g8, g9, g22, g23, g24, hk, hC.iad, hC.ld, eqs_cn hL, withinC_r hX, hw, lt_bn hL hb] | refine iteP_two (fun hc hd => ?_) (fun hc hd => ?_) | refine iteP_intro (fun hc => ?_) (fun hc => ?_))
            exact ⟨_, by omega, i + 1, _, _, rfl, by omega, rfl, rfl, rfl, hs⟩
        · have hq1 : q = true := by cases q; exact absurd (.inl rfl) hlt; rfl
          have hlt' : ¬ b < cn L i := fun z => hlt (.inr z)
          subst hq1
          have hs : SD L F T (i + 1) b true := ⟨hb, fun z => by obtain ⟨j, h1, h2⟩ := hq z; exact ⟨j, by omega, h2⟩, fun j hj hjo => by
            refine ⟨rfl, ?_⟩
            by_cases e : j = i
            · rw [e]; omega
            · exact (hall j (by omega) hjo).2⟩
          (repeat' first | simp -dsimp (disch := first | omega | assumption | (refine OkS.sto ?_ (by omega); first | assumption | (refine OkS.sto ?_ (by omega); first | assumption | (refine OkS.sto ?_ (by omega); first | assumption | (refine OkS.sto ?_ (by omega); first | assumption | (refine OkS.sto ?_ (by omega); first | assumption | (refine OkS.sto ?_ (by omega); first | assumption)))))) | exact Pfx.refl _ | (apply Pfx.snoc; repeat (first | exact Pfx.refl _ | assumption | apply Pfx.snoc)) | with_unfolding_all exact of_eq_true (eq_true rfl) | (simp only [List.length_append, List.length_cons, List.length_nil]; omega)) only [↓wpre0, ↓wpre1, ↓reduceIte, Int.reduceToNat, Nat.reduceAdd, Nat.reduceMul, Nat.reduceEqDiff, wpost0, wpost1, wpost2, wpost3, wpost4, ite_self, ite_true, ite_false, if_true, if_false, un_not, xlen24, bin_lss, xiad24, xld29, bin_feql, bin_fgtr, bin_add, fr20, wrap_int, wrap_u8, iteP_yes, iteP_no, g6, g7, g8, g9, g22, g23, g24, hk, hC.iad, hC.ld, eqs_cn hL, withinC_r hX, hw, lt_bn hL hb] | refine iteP_two (fun hc hd => ?_) (fun hc hd => ?_) | refine iteP_intro (fun hc => ?_) (fun hc => ?_))
          exact ⟨_, by omega, i + 1, _, _, rfl, by omega, rfl, rfl, rfl, hs⟩
      · have hw : (decide ((F : Int) ≤ (i : Int)) && decide ((i : Int) ≤ (T : Int))) = true := by simp; omega
        have hs : SD L F T (i + 1) b q := ⟨hb, fun z => by obtain ⟨j, h1, h2⟩ := hq z; exact ⟨j, by omega, h2⟩, fun j hj hjo => by
          by_cases e : j = i
          · rw [e] at hjo; exact absurd hjo ho
          · exact hall j (by omega) hjo⟩
        (repeat' first | simp -dsimp (disch := first | omega | assumption | (refine OkS.sto ?_ (by omega); first | assumption | (refine OkS.sto ?_ (by omega); first | assumption | (refine OkS.sto ?_ (by omega); first | assumption | (refine OkS.sto ?_ (by omega); first | assumption | (refine OkS.sto ?_ (by omega); first | assumption | (refine OkS.sto ?_ (by omega); first | assumption)))))) | exact Pfx.refl _ | (apply Pfx.snoc; repeat (first | exact Pfx.refl _ | assumption | apply Pfx.snoc)) | with_unfolding_all exact of_eq_true (eq_true rfl) | (simp only [List.length_append, List.length_cons, List.length_nil]; omega)) only [↓wpre0, ↓wpre1, ↓reduceIte, Int.reduceToNat, Nat.reduceAdd, Nat.reduceMul, Nat.reduceEqDiff, wpost0, wpost1, wpost2, wpost3, wpost4, ite_self, ite_true, ite_false, if_true, if_false, un_not, xlen24, bin_lss, xiad24, xld29, bin_feql, bin_fgtr, bin_add, fr20, wrap_int, wrap_u8, iteP_yes, iteP_no, g6, g7, g8, g9, g22, g23, g24, hk, hC.iad, hC.ld, eqs_cn hL, withinC_r hX, hw] | refine iteP_two (fun hc hd => ?_) (fun hc hd => ?_) | refine iteP_intro (fun hc => ?_) (fun hc => ?_))
        exact ⟨_, by omega, i + 1, _, _, rfl, by omega, rfl, rfl, rfl, hs⟩
    · have : i = L.length := by omega
      subst this
      (repeat' first | simp -dsimp (disch := first | omega | assumption | (refine OkS.sto ?_ (by omega); first | assumption | (refine OkS.sto ?_ (by omega); first | assumption | (refine OkS.sto ?_ (by omega); first | assumption | (refine OkS.sto ?_ (by omega); first | assumption | (refine OkS.sto ?_ (by omega); first | assumption | (refine OkS.sto ?_ (by omega); first | assumption)))))) | exact Pfx.refl _ | (apply Pfx.snoc; repeat (first | exact Pfx.refl _ | assumption | apply Pfx.snoc)) | with_unfolding_all exact of_eq_true (eq_true rfl) | (simp only [List.length_append, List.length_cons, List.length_nil]; omega)) only [↓wpre0, ↓wpre1, ↓reduceIte, Int.reduceToNat, Nat.reduceAdd, Nat.reduceMul, Nat.reduceEqDiff, wpost0, wpost1, wpost2, wpost3, wpost4, ite_self, ite_true, ite_false, if_true, if_false, un_not, xlen24, bin_lss, xiad24, xld29, bin_feql, bin_fgtr, bin_add, fr20, wrap_int, wrap_u8, iteP_yes, iteP_no, g6, g7, g8, g9, g22, g23, g24] | refine iteP_two (fun hc hd => ?_) (fun hc hd => ?_) | refine iteP_intro (fun hc => ?_) (fun hc => ?_))
      exact ⟨b, q, rfl, hb, hq, hall⟩
end Go.Proofs.Ytelogajobjflfaa.Sim
