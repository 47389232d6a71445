/- The law FnExactFrameAt on the abstract machine. Lemmas only; no condition. -/
import Derived.Test.YtbakaopgdcojfaaRcf
set_option linter.unusedSimpArgs false
set_option linter.unusedVariables false
set_option maxRecDepth 8000
namespace Go.Proofs.Ytbakaopgdcojfaa.Sim
open Go Go.RowKit
variable {ro : Nat} {X : Ext}
def frIdx (l : List UInt8) (k : Int) : Int := if frOk l k then wd l (frPos l k) else 0
def frZs (l : List UInt8) (k : Int) : List (Nat × Nat) := if frOk l k then atZ l (frPos l k) (elN l) else []
theorem frOk_n {l : List UInt8} {k : Int} (h : frOk l k = true) : elN l ≤ 16 := by
  simp only [frOk, Bool.and_eq_true] at h
  exact (hdrOk_n h.1.1).2.2.1
theorem FrR.out {l : List UInt8} {k : Int} {h h' : Heap} {r : Value} (p : FrR l k h h' r) : Pfx h h' ∧ ∃ y, r = .tuple ⟨[.agg ⟨[.int .i64 (frIdx l k), y]⟩, .bool (frOk l k)]⟩ ∧ VS h.length h'.length 1 h' y (frZs l k).length ((frZs l k).map cpx) ∧ (frZs l k).length ≤ 16 := by
  obtain ⟨p1, ⟨p2, rfl⟩ | ⟨p2, y, rfl, p3⟩⟩ := p
  · refine ⟨p1, .slice none 0 0, ?_, ?_, ?_⟩
    · simp [frIdx, p2]
    · simp only [frZs, p2]; exact ⟨by simp, .inl ⟨rfl, rfl⟩⟩
    · simp [frZs, p2]
  · refine ⟨p1, y, ?_, ?_, ?_⟩
    · simp [frIdx, p2]
    · simp only [frZs, p2, if_true]; rw [atZ_len]; exact p3.vsl
    · simp only [frZs, p2, if_true]; rw [atZ_len]; exact frOk_n p2
theorem put_last2 {h : Heap} {t : TypeId} {u v a c : Value} (hro : ro ≤ h.length) (h1 : one a = true) (h2 : one c = true) : put ro (h ++ [(⟨t, [u, v]⟩ : Blk)]) h.length 0 2 (.agg ⟨[a, c]⟩) = some (h ++ [⟨t, [a, c]⟩]) := by
  rw [put2 (get_last rfl) hro h1 h2]
  simp
set_option maxHeartbeats 4000000 in
theorem lawFrame_c (hX : XB X) {l : List UInt8} {k : Int} {h : Heap} (hl0 : l.length ≤ 140737488355328) (hro : ro ≤ h.length) :
    CallR Try.prog ro X 7 [.string ⟨⟨l⟩⟩, .int .i64 k] h (fun r h' => r = .bool true) := by
  refine callR_of (hX.n _ rfl) Try.func7 rfl (by kernel_rfl) (Nat.le_of_ble_eq_true rfl) ?_
  (repeat' first | simp -dsimp (disch := first | omega | assumption | (refine OkS.sto ?_ (by omega); first | assumption | (refine OkS.sto ?_ (by omega); first | assumption | (refine OkS.sto ?_ (by omega); first | assumption | (refine OkS.sto ?_ (by omega); first | assumption | (refine OkS.sto ?_ (by omega); first | assumption | (refine OkS.sto ?_ (by omega); first | assumption)))))) | exact Pfx.refl _ | (apply Pfx.snoc; repeat (first | exact Pfx.refl _ | assumption | apply Pfx.snoc)) | with_unfolding_all exact of_eq_true (eq_true rfl) | (simp only [List.length_append, List.length_cons, List.length_nil]; omega)) only [↓wpre0, ↓wpre1, ↓reduceIte, Int.reduceToNat, Nat.reduceAdd, Nat.reduceMul, Nat.reduceEqDiff, wpost0, wpost1, wpost2, wpost3, wpost4, ite_self, ite_true, ite_false, if_true, if_false, len_bl Try.underlying9, bin_gtr, tze50, xst50, xld50, un_not, xbneq4, bin_lss, bin_neq, fr7, wrap_int, wrap_u8, iteP_yes, iteP_no] | refine iteP_two (fun hc hd => ?_) (fun hc hd => ?_) | refine iteP_intro (fun hc => ?_) (fun hc => ?_))
  have hl : l.length ≤ 1048576 := by omega
  refine cf_rel (sFrameAt_c (ro := ro) (k := k) hX hl hro) (fun q => by cases q) ?_
  intro r h1 hr
  obtain ⟨p1, y1, rfl, V1, n1⟩ := hr.out
  have L1 := p1.len
  have s1 := V1.shape
  (repeat' first | simp -dsimp (disch := first | omega | assumption | (refine OkS.sto ?_ (by omega); first | assumption | (refine OkS.sto ?_ (by omega); first | assumption | (refine OkS.sto ?_ (by omega); first | assumption | (refine OkS.sto ?_ (by omega); first | assumption | (refine OkS.sto ?_ (by omega); first | assumption | (refine OkS.sto ?_ (by omega); first | assumption)))))) | exact Pfx.refl _ | (apply Pfx.snoc; repeat (first | exact Pfx.refl _ | assumption | apply Pfx.snoc)) | with_unfolding_all exact of_eq_true (eq_true rfl) | (simp only [List.length_append, List.length_cons, List.length_nil]; omega)) only [↓wpre0, ↓wpre1, ↓reduceIte, Int.reduceToNat, Nat.reduceAdd, Nat.reduceMul, Nat.reduceEqDiff, wpost0, wpost1, wpost2, wpost3, wpost4, ite_self, ite_true, ite_false, if_true, if_false, len_bl Try.underlying9, bin_gtr, tze50, xst50, xld50, un_not, xbneq4, bin_lss, bin_neq, fr7, wrap_int, wrap_u8, iteP_yes, iteP_no, put_last2 (ro := ro) (h := h1) (t := 50) (u := .int .i64 0) (v := .slice none 0 0) (a := .int .i64 (frIdx l k)) (c := y1) (by omega) rfl s1.2.2] | refine iteP_two (fun hc hd => ?_) (fun hc hd => ?_) | refine iteP_intro (fun hc => ?_) (fun hc => ?_))
  refine cf_rel (iFrameAt_c (ro := ro) (k := k) hX hl (by simp; omega)) (fun q => by cases q) ?_
  intro r h2 hr2
  obtain ⟨p2, y2, rfl, V2, _⟩ := hr2.out
  have L2 := p2.len
  rw [List.length_append, List.length_singleton] at L2 V2
  have s2 := V2.shape
  have b5 : h2[h1.length]? = some ⟨50, [.int .i64 (frIdx l k), y1]⟩ := by rw [p2.get (by simp)]; exact get_last rfl
  have V1a := V1.pre ((Pfx.refl h1).snoc.trans p2)
  obtain ⟨H3, hH3⟩ : ∃ H3, H3 = h2 ++ [(⟨50, [.int .i64 (frIdx l k), y2]⟩ : Blk)] := ⟨_, rfl⟩
  have b5a : H3[h1.length]? = some ⟨50, [.int .i64 (frIdx l k), y1]⟩ := by rw [hH3, get_skip (by omega)]; exact b5
  have b7a : H3[h2.length]? = some ⟨50, [.int .i64 (frIdx l k), y2]⟩ := by rw [hH3]; exact get_last rfl
  have c5 : cells H3 h1.length 0 2 = some (.agg ⟨[.int .i64 (frIdx l k), y1]⟩) := cellsb b5a (by simp)
  have c7 : cells H3 h2.length 0 2 = some (.agg ⟨[.int .i64 (frIdx l k), y2]⟩) := cellsb b7a (by simp)
  have l3 : H3.length = h2.length + 1 := by rw [hH3]; simp
  have p3 : Pfx h2 H3 := by rw [hH3]; exact (Pfx.refl h2).snoc
  have V1b := V1a.pre p3
  have V2b := V2.pre p3
  (repeat' first | simp -dsimp (disch := first | omega | assumption | (refine OkS.sto ?_ (by omega); first | assumption | (refine OkS.sto ?_ (by omega); first | assumption | (refine OkS.sto ?_ (by omega); first | assumption | (refine OkS.sto ?_ (by omega); first | assumption | (refine OkS.sto ?_ (by omega); first | assumption | (refine OkS.sto ?_ (by omega); first | assumption)))))) | exact Pfx.refl _ | (apply Pfx.snoc; repeat (first | exact Pfx.refl _ | assumption | apply Pfx.snoc)) | with_unfolding_all exact of_eq_true (eq_true rfl) | (simp only [List.length_append, List.length_cons, List.length_nil]; omega)) only [↓wpre0, ↓wpre1, ↓reduceIte, Int.reduceToNat, Nat.reduceAdd, Nat.reduceMul, Nat.reduceEqDiff, wpost0, wpost1, wpost2, wpost3, wpost4, ite_self, ite_true, ite_false, if_true, if_false, len_bl Try.underlying9, bin_gtr, tze50, xst50, xld50, un_not, xbneq4, bin_lss, bin_neq, fr7, wrap_int, wrap_u8, iteP_yes, iteP_no, put_last2 (ro := ro) (h := h2) (t := 50) (u := .int .i64 0) (v := .slice none 0 0) (a := .int .i64 (frIdx l k)) (c := y2) (by omega) rfl s2.2.2, ← hH3, c5, c7, eqFrame_r (ro := ro) hX.n V2b V1b (by omega) (by omega), bne_self_eq_false] | refine iteP_two (fun hc hd => ?_) (fun hc hd => ?_) | refine iteP_intro (fun hc => ?_) (fun hc => ?_))
  refine cf_rel (markFrame_c (ro := ro) (c := 1) (idx := frIdx l k) hX.n V2b (by omega) (by omega) (by omega) (by omega) (by omega)) (fun q => by cases q) ?_
  rintro r h4 ⟨rfl, M4, R4, _⟩
  have l4 := R4.1
  have g5 : h4[h1.length]? = some ⟨50, [.int .i64 (frIdx l k), y1]⟩ := by rw [R4.2 _ (by omega) (by omega)]; exact b5a
  have g7 : h4[h2.length]? = some ⟨50, [.int .i64 (frIdx l k), y2]⟩ := by rw [R4.2 _ (by omega) (by omega)]; exact b7a
  have V1c : VS h.length h1.length 1 h4 y1 (frZs l k).length ((frZs l k).map cpx) := V1b.frame fun b _ hb => R4.2 b (by omega) (by omega)
  have d7 : cells h4 h2.length 0 2 = some (.agg ⟨[.int .i64 (frIdx l k), y2]⟩) := cellsb g7 (by simp)
  have hM : ∀ i, i < (frZs l k).length → vth (mkc 1 (frZs l k).length ((frZs l k).map cpx)) i = cpm (1 + (i : Int)) := fun i hi => mkc_vth hi
  (repeat' first | simp -dsimp (disch := first | omega | assumption | (refine OkS.sto ?_ (by omega); first | assumption | (refine OkS.sto ?_ (by omega); first | assumption | (refine OkS.sto ?_ (by omega); first | assumption | (refine OkS.sto ?_ (by omega); first | assumption | (refine OkS.sto ?_ (by omega); first | assumption | (refine OkS.sto ?_ (by omega); first | assumption)))))) | exact Pfx.refl _ | (apply Pfx.snoc; repeat (first | exact Pfx.refl _ | assumption | apply Pfx.snoc)) | with_unfolding_all exact of_eq_true (eq_true rfl) | (simp only [List.length_append, List.length_cons, List.length_nil]; omega)) only [↓wpre0, ↓wpre1, ↓reduceIte, Int.reduceToNat, Nat.reduceAdd, Nat.reduceMul, Nat.reduceEqDiff, wpost0, wpost1, wpost2, wpost3, wpost4, ite_self, ite_true, ite_false, if_true, if_false, len_bl Try.underlying9, bin_gtr, tze50, xst50, xld50, un_not, xbneq4, bin_lss, bin_neq, fr7, wrap_int, wrap_u8, iteP_yes, iteP_no, d7, heldFrame_r (ro := ro) (c := 1) (idx := frIdx l k) hX.n M4 hM (by omega) (by omega) (by omega), bne_self_eq_false] | refine iteP_two (fun hc hd => ?_) (fun hc hd => ?_) | refine iteP_intro (fun hc => ?_) (fun hc => ?_))
  refine cf_rel (iFrameAt_c (ro := ro) (k := k) hX hl (by omega)) (fun q => by cases q) ?_
  intro r h5 hr5
  obtain ⟨p5, y3, rfl, V3, _⟩ := hr5.out
  have L5 := p5.len
  have s3 := V3.shape
  obtain ⟨H6, hH6⟩ : ∃ H6, H6 = h5 ++ [(⟨50, [.int .i64 (frIdx l k), y3]⟩ : Blk)] := ⟨_, rfl⟩
  have p6 : Pfx h5 H6 := by rw [hH6]; exact (Pfx.refl h5).snoc
  have q5 : H6[h1.length]? = some ⟨50, [.int .i64 (frIdx l k), y1]⟩ := by rw [(p5.trans p6).get (by omega)]; exact g5
  have q7 : H6[h2.length]? = some ⟨50, [.int .i64 (frIdx l k), y2]⟩ := by rw [(p5.trans p6).get (by omega)]; exact g7
  have q9 : H6[h5.length]? = some ⟨50, [.int .i64 (frIdx l k), y3]⟩ := by rw [hH6]; exact get_last rfl
  have k5 : cells H6 h1.length 0 2 = some (.agg ⟨[.int .i64 (frIdx l k), y1]⟩) := cellsb q5 (by simp)
  have k7 : cells H6 h2.length 0 2 = some (.agg ⟨[.int .i64 (frIdx l k), y2]⟩) := cellsb q7 (by simp)
  have k9 : cells H6 h5.length 0 2 = some (.agg ⟨[.int .i64 (frIdx l k), y3]⟩) := cellsb q9 (by simp)
  have l6 : H6.length = h5.length + 1 := by rw [hH6]; simp
  have V1d := V1c.pre (p5.trans p6)
  have V3d := V3.pre p6
  have M6 := M4.pre (p5.trans p6)
  (repeat' first | simp -dsimp (disch := first | omega | assumption | (refine OkS.sto ?_ (by omega); first | assumption | (refine OkS.sto ?_ (by omega); first | assumption | (refine OkS.sto ?_ (by omega); first | assumption | (refine OkS.sto ?_ (by omega); first | assumption | (refine OkS.sto ?_ (by omega); first | assumption | (refine OkS.sto ?_ (by omega); first | assumption)))))) | exact Pfx.refl _ | (apply Pfx.snoc; repeat (first | exact Pfx.refl _ | assumption | apply Pfx.snoc)) | with_unfolding_all exact of_eq_true (eq_true rfl) | (simp only [List.length_append, List.length_cons, List.length_nil]; omega)) only [↓wpre0, ↓wpre1, ↓reduceIte, Int.reduceToNat, Nat.reduceAdd, Nat.reduceMul, Nat.reduceEqDiff, wpost0, wpost1, wpost2, wpost3, wpost4, ite_self, ite_true, ite_false, if_true, if_false, len_bl Try.underlying9, bin_gtr, tze50, xst50, xld50, un_not, xbneq4, bin_lss, bin_neq, fr7, wrap_int, wrap_u8, iteP_yes, iteP_no, put_last2 (ro := ro) (h := h5) (t := 50) (u := .int .i64 0) (v := .slice none 0 0) (a := .int .i64 (frIdx l k)) (c := y3) (by omega) rfl s3.2.2, ← hH6, k5, k7, k9, eqFrame_r (ro := ro) hX.n V3d V1d (by omega) (by omega), heldFrame_r (ro := ro) (c := 1) (idx := frIdx l k) hX.n M6 hM (by omega) (by omega) (by omega), bne_self_eq_false] | refine iteP_two (fun hc hd => ?_) (fun hc hd => ?_) | refine iteP_intro (fun hc => ?_) (fun hc => ?_))
end Go.Proofs.Ytbakaopgdcojfaa.Sim
