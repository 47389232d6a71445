/- The laws FnExactRecoverRecord and FnExactLoadRecord on the abstract machine. Lemmas only; no condition. -/
import Derived.Test.YtbakaopgdcojfaaRck
set_option linter.unusedSimpArgs false
set_option linter.unusedVariables false
set_option maxRecDepth 8000
namespace Go.Proofs.Ytbakaopgdcojfaa.Sim
open Go Go.RowKit
variable {ro : Nat} {X : Ext}
set_option maxHeartbeats 4000000 in
theorem lawRecover_c (hX : XB X) {l : List UInt8} {h : Heap} (hl0 : l.length ≤ 140737488355328) (hro : ro ≤ h.length) :
    CallR Try.prog ro X 11 [.string ⟨⟨l⟩⟩] h (fun r h' => r = .bool true) := by
  refine callR_of (hX.n _ rfl) Try.func11 rfl (by kernel_rfl) (Nat.le_of_ble_eq_true rfl) ?_
  (repeat' first | simp -dsimp (disch := first | omega | assumption | (refine OkS.sto ?_ (by omega); first | assumption | (refine OkS.sto ?_ (by omega); first | assumption | (refine OkS.sto ?_ (by omega); first | assumption | (refine OkS.sto ?_ (by omega); first | assumption | (refine OkS.sto ?_ (by omega); first | assumption | (refine OkS.sto ?_ (by omega); first | assumption)))))) | exact Pfx.refl _ | (apply Pfx.snoc; repeat (first | exact Pfx.refl _ | assumption | apply Pfx.snoc)) | with_unfolding_all exact of_eq_true (eq_true rfl) | (simp only [List.length_append, List.length_cons, List.length_nil]; omega)) only [↓wpre0, ↓wpre1, ↓reduceIte, Int.reduceToNat, Nat.reduceAdd, Nat.reduceMul, Nat.reduceEqDiff, wpost0, wpost1, wpost2, wpost3, wpost4, ite_self, ite_true, ite_false, if_true, if_false, len_bl Try.underlying9, bin_gtr, tze74, xst74, xld74, un_not, bin_neq, xbneq4, bin_lss, fr11, wrap_int, wrap_u8, iteP_yes, iteP_no] | refine iteP_two (fun hc hd => ?_) (fun hc hd => ?_) | refine iteP_intro (fun hc => ?_) (fun hc => ?_))
  have hl : l.length ≤ 1048576 := by omega
  have hn := nN_le l
  refine cf_rel (sRecover_c (ro := ro) hX hl hro) (fun q => by cases q) ?_
  intro r h1 hr
  obtain ⟨p1, E, K, ok, m, y1, Y1, rfl, D1, m1, V1⟩ := hr.out
  have hz : m = 0 ∨ nN l = elN l := by
    rcases D1 with w | w
    · first | exact .inl w.2.2.2.2 | exact .inl w.2.2.2
    · exact .inr (by unfold nN; rw [if_pos w.1])
  have L1 := p1.len
  have s1 := V1.1.shape
  (repeat' first | simp -dsimp (disch := first | omega | assumption | (refine OkS.sto ?_ (by omega); first | assumption | (refine OkS.sto ?_ (by omega); first | assumption | (refine OkS.sto ?_ (by omega); first | assumption | (refine OkS.sto ?_ (by omega); first | assumption | (refine OkS.sto ?_ (by omega); first | assumption | (refine OkS.sto ?_ (by omega); first | assumption)))))) | exact Pfx.refl _ | (apply Pfx.snoc; repeat (first | exact Pfx.refl _ | assumption | apply Pfx.snoc)) | with_unfolding_all exact of_eq_true (eq_true rfl) | (simp only [List.length_append, List.length_cons, List.length_nil]; omega)) only [↓wpre0, ↓wpre1, ↓reduceIte, Int.reduceToNat, Nat.reduceAdd, Nat.reduceMul, Nat.reduceEqDiff, wpost0, wpost1, wpost2, wpost3, wpost4, ite_self, ite_true, ite_false, if_true, if_false, len_bl Try.underlying9, bin_gtr, tze74, xst74, xld74, un_not, bin_neq, xbneq4, bin_lss, fr11, wrap_int, wrap_u8, iteP_yes, iteP_no, put_last2 (ro := ro) (h := h1) (t := 74) (u := .int .i64 0) (v := .slice none 0 0) (a := .int .i64 E) (c := y1) (by omega) rfl s1.2.2] | refine iteP_two (fun hc hd => ?_) (fun hc hd => ?_) | refine iteP_intro (fun hc => ?_) (fun hc => ?_))
  refine cf_rel (iRecover_c (ro := ro) hX hl (by simp; omega)) (fun q => by cases q) ?_
  intro r h2 hr2
  obtain ⟨p2, E2, K2, ok2, m2, y2, Y2, rfl, D2, _, V2⟩ := hr2.out
  obtain ⟨rfl, rfl, rfl, rfl⟩ := D1.uniq D2
  have L2 := p2.len
  rw [List.length_append, List.length_singleton] at L2 V2
  have s2 := V2.1.shape
  have b5 : h2[h1.length]? = some ⟨74, [.int .i64 E, y1]⟩ := by rw [p2.get (by simp)]; exact get_last rfl
  have V1a := V1.pre ((Pfx.refl h1).snoc.trans p2)
  obtain ⟨H3, hH3⟩ : ∃ H3, H3 = h2 ++ [(⟨74, [.int .i64 E, y2]⟩ : Blk)] := ⟨_, rfl⟩
  have b5a : H3[h1.length]? = some ⟨74, [.int .i64 E, y1]⟩ := by rw [hH3, get_skip (by omega)]; exact b5
  have b7a : H3[h2.length]? = some ⟨74, [.int .i64 E, y2]⟩ := by rw [hH3]; exact get_last rfl
  have c5 : cells H3 h1.length 0 2 = some (.agg ⟨[.int .i64 E, y1]⟩) := cellsb b5a (by simp)
  have c7 : cells H3 h2.length 0 2 = some (.agg ⟨[.int .i64 E, y2]⟩) := cellsb b7a (by simp)
  have l3 : H3.length = h2.length + 1 := by rw [hH3]; simp
  have p3 : Pfx h2 H3 := by rw [hH3]; exact (Pfx.refl h2).snoc
  have V1b := V1a.pre p3
  have V2b := V2.pre p3
  (repeat' first | simp -dsimp (disch := first | omega | assumption | (refine OkS.sto ?_ (by omega); first | assumption | (refine OkS.sto ?_ (by omega); first | assumption | (refine OkS.sto ?_ (by omega); first | assumption | (refine OkS.sto ?_ (by omega); first | assumption | (refine OkS.sto ?_ (by omega); first | assumption | (refine OkS.sto ?_ (by omega); first | assumption)))))) | exact Pfx.refl _ | (apply Pfx.snoc; repeat (first | exact Pfx.refl _ | assumption | apply Pfx.snoc)) | with_unfolding_all exact of_eq_true (eq_true rfl) | (simp only [List.length_append, List.length_cons, List.length_nil]; omega)) only [↓wpre0, ↓wpre1, ↓reduceIte, Int.reduceToNat, Nat.reduceAdd, Nat.reduceMul, Nat.reduceEqDiff, wpost0, wpost1, wpost2, wpost3, wpost4, ite_self, ite_true, ite_false, if_true, if_false, len_bl Try.underlying9, bin_gtr, tze74, xst74, xld74, un_not, bin_neq, xbneq4, bin_lss, fr11, wrap_int, wrap_u8, iteP_yes, iteP_no, put_last2 (ro := ro) (h := h2) (t := 74) (u := .int .i64 0) (v := .slice none 0 0) (a := .int .i64 E) (c := y2) (by omega) rfl s2.2.2, ← hH3, c5, c7, eqRecord_r (ro := ro) (E := E) hX.n V2b V1b hz m1 (by omega), bne_self_eq_false] | refine iteP_two (fun hc hd => ?_) (fun hc hd => ?_) | refine iteP_intro (fun hc => ?_) (fun hc => ?_))
  refine cf_rel (markRecord_c (ro := ro) (c := 1) (E := E) hX.n V2b m1 hn (by omega) (by omega) (by omega) (by omega)) (fun q => by cases q) ?_
  rintro r h4 ⟨rfl, ⟨L4, M4⟩, R4⟩
  have l4 := R4.1
  have g5 : h4[h1.length]? = some ⟨74, [.int .i64 E, y1]⟩ := by rw [R4.2 _ (by omega) (by omega)]; exact b5a
  have g7 : h4[h2.length]? = some ⟨74, [.int .i64 E, y2]⟩ := by rw [R4.2 _ (by omega) (by omega)]; exact b7a
  have V1c := V1b.frame (h' := h4) fun b _ hb => R4.2 b (by omega) (by omega)
  have d7 : cells h4 h2.length 0 2 = some (.agg ⟨[.int .i64 E, y2]⟩) := cellsb g7 (by simp)
  have mb := mul_le64 (n := nN l) (Nat.le_refl m) m1 hn
  (repeat' first | simp -dsimp (disch := first | omega | assumption | (refine OkS.sto ?_ (by omega); first | assumption | (refine OkS.sto ?_ (by omega); first | assumption | (refine OkS.sto ?_ (by omega); first | assumption | (refine OkS.sto ?_ (by omega); first | assumption | (refine OkS.sto ?_ (by omega); first | assumption | (refine OkS.sto ?_ (by omega); first | assumption)))))) | exact Pfx.refl _ | (apply Pfx.snoc; repeat (first | exact Pfx.refl _ | assumption | apply Pfx.snoc)) | with_unfolding_all exact of_eq_true (eq_true rfl) | (simp only [List.length_append, List.length_cons, List.length_nil]; omega)) only [↓wpre0, ↓wpre1, ↓reduceIte, Int.reduceToNat, Nat.reduceAdd, Nat.reduceMul, Nat.reduceEqDiff, wpost0, wpost1, wpost2, wpost3, wpost4, ite_self, ite_true, ite_false, if_true, if_false, len_bl Try.underlying9, bin_gtr, tze74, xst74, xld74, un_not, bin_neq, xbneq4, bin_lss, fr11, wrap_int, wrap_u8, iteP_yes, iteP_no, d7, heldRecord_r (ro := ro) (c := 1) (E := E) hX.n M4 m1 hn (by omega) (by omega), bne_self_eq_false] | refine iteP_two (fun hc hd => ?_) (fun hc hd => ?_) | refine iteP_intro (fun hc => ?_) (fun hc => ?_))
  refine cf_rel (iRecover_c (ro := ro) hX hl (by omega)) (fun q => by cases q) ?_
  intro r h5 hr5
  obtain ⟨p5, E3, K3, ok3, m3, y3, Y3, rfl, D3, _, V3⟩ := hr5.out
  obtain ⟨rfl, rfl, rfl, rfl⟩ := D1.uniq D3
  have L5 := p5.len
  have s3 := V3.1.shape
  obtain ⟨H6, hH6⟩ : ∃ H6, H6 = h5 ++ [(⟨74, [.int .i64 E, y3]⟩ : Blk)] := ⟨_, rfl⟩
  have p6 : Pfx h5 H6 := by rw [hH6]; exact (Pfx.refl h5).snoc
  have q5 : H6[h1.length]? = some ⟨74, [.int .i64 E, y1]⟩ := by rw [(p5.trans p6).get (by omega)]; exact g5
  have q7 : H6[h2.length]? = some ⟨74, [.int .i64 E, y2]⟩ := by rw [(p5.trans p6).get (by omega)]; exact g7
  have q9 : H6[h5.length]? = some ⟨74, [.int .i64 E, y3]⟩ := by rw [hH6]; exact get_last rfl
  have k5 : cells H6 h1.length 0 2 = some (.agg ⟨[.int .i64 E, y1]⟩) := cellsb q5 (by simp)
  have k7 : cells H6 h2.length 0 2 = some (.agg ⟨[.int .i64 E, y2]⟩) := cellsb q7 (by simp)
  have k9 : cells H6 h5.length 0 2 = some (.agg ⟨[.int .i64 E, y3]⟩) := cellsb q9 (by simp)
  have l6 : H6.length = h5.length + 1 := by rw [hH6]; simp
  have V1d := V1c.pre (p5.trans p6)
  have V3d := V3.pre p6
  have M6 := M4.pre (p5.trans p6)
  (repeat' first | simp -dsimp (disch := first | omega | assumption | (refine OkS.sto ?_ (by omega); first | assumption | (refine OkS.sto ?_ (by omega); first | assumption | (refine OkS.sto ?_ (by omega); first | assumption | (refine OkS.sto ?_ (by omega); first | assumption | (refine OkS.sto ?_ (by omega); first | assumption | (refine OkS.sto ?_ (by omega); first | assumption)))))) | exact Pfx.refl _ | (apply Pfx.snoc; repeat (first | exact Pfx.refl _ | assumption | apply Pfx.snoc)) | with_unfolding_all exact of_eq_true (eq_true rfl) | (simp only [List.length_append, List.length_cons, List.length_nil]; omega)) only [↓wpre0, ↓wpre1, ↓reduceIte, Int.reduceToNat, Nat.reduceAdd, Nat.reduceMul, Nat.reduceEqDiff, wpost0, wpost1, wpost2, wpost3, wpost4, ite_self, ite_true, ite_false, if_true, if_false, len_bl Try.underlying9, bin_gtr, tze74, xst74, xld74, un_not, bin_neq, xbneq4, bin_lss, fr11, wrap_int, wrap_u8, iteP_yes, iteP_no, put_last2 (ro := ro) (h := h5) (t := 74) (u := .int .i64 0) (v := .slice none 0 0) (a := .int .i64 E) (c := y3) (by omega) rfl s3.2.2, ← hH6, k5, k7, k9, eqRecord_r (ro := ro) (E := E) hX.n V3d V1d hz m1 (by omega), heldRecord_r (ro := ro) (c := 1) (E := E) hX.n M6 m1 hn (by omega) (by omega), bne_self_eq_false] | refine iteP_two (fun hc hd => ?_) (fun hc hd => ?_) | refine iteP_intro (fun hc => ?_) (fun hc => ?_))
set_option maxHeartbeats 4000000 in
theorem lawLoad_c (hX : XB X) {l : List UInt8} {h : Heap} (hl0 : l.length ≤ 140737488355328) (hro : ro ≤ h.length) :
    CallR Try.prog ro X 12 [.string ⟨⟨l⟩⟩] h (fun r h' => r = .bool true) := by
  refine callR_of (hX.n _ rfl) Try.func12 rfl (by kernel_rfl) (Nat.le_of_ble_eq_true rfl) ?_
  (repeat' first | simp -dsimp (disch := first | omega | assumption | (refine OkS.sto ?_ (by omega); first | assumption | (refine OkS.sto ?_ (by omega); first | assumption | (refine OkS.sto ?_ (by omega); first | assumption | (refine OkS.sto ?_ (by omega); first | assumption | (refine OkS.sto ?_ (by omega); first | assumption | (refine OkS.sto ?_ (by omega); first | assumption)))))) | exact Pfx.refl _ | (apply Pfx.snoc; repeat (first | exact Pfx.refl _ | assumption | apply Pfx.snoc)) | with_unfolding_all exact of_eq_true (eq_true rfl) | (simp only [List.length_append, List.length_cons, List.length_nil]; omega)) only [↓wpre0, ↓wpre1, ↓reduceIte, Int.reduceToNat, Nat.reduceAdd, Nat.reduceMul, Nat.reduceEqDiff, wpost0, wpost1, wpost2, wpost3, wpost4, ite_self, ite_true, ite_false, if_true, if_false, len_bl Try.underlying9, bin_gtr, tze74, xst74, xld74, un_not, xbneq4, bin_lss, bin_neq, fr12, wrap_int, wrap_u8, iteP_yes, iteP_no] | refine iteP_two (fun hc hd => ?_) (fun hc hd => ?_) | refine iteP_intro (fun hc => ?_) (fun hc => ?_))
  have hl : l.length ≤ 1048576 := by omega
  have hn := nN_le l
  refine cf_rel (sLoad_c (ro := ro) hX hl hro) (fun q => by cases q) ?_
  intro r h1 hr
  obtain ⟨p1, E, ok, m, y1, Y1, rfl, D1, m1, V1⟩ := hr.out
  have hz : m = 0 ∨ nN l = elN l := by
    rcases D1 with w | w
    · first | exact .inl w.2.2.2.2 | exact .inl w.2.2.2
    · exact .inr (by unfold nN; rw [if_pos w.1])
  have L1 := p1.len
  have s1 := V1.1.shape
  (repeat' first | simp -dsimp (disch := first | omega | assumption | (refine OkS.sto ?_ (by omega); first | assumption | (refine OkS.sto ?_ (by omega); first | assumption | (refine OkS.sto ?_ (by omega); first | assumption | (refine OkS.sto ?_ (by omega); first | assumption | (refine OkS.sto ?_ (by omega); first | assumption | (refine OkS.sto ?_ (by omega); first | assumption)))))) | exact Pfx.refl _ | (apply Pfx.snoc; repeat (first | exact Pfx.refl _ | assumption | apply Pfx.snoc)) | with_unfolding_all exact of_eq_true (eq_true rfl) | (simp only [List.length_append, List.length_cons, List.length_nil]; omega)) only [↓wpre0, ↓wpre1, ↓reduceIte, Int.reduceToNat, Nat.reduceAdd, Nat.reduceMul, Nat.reduceEqDiff, wpost0, wpost1, wpost2, wpost3, wpost4, ite_self, ite_true, ite_false, if_true, if_false, len_bl Try.underlying9, bin_gtr, tze74, xst74, xld74, un_not, xbneq4, bin_lss, bin_neq, fr12, wrap_int, wrap_u8, iteP_yes, iteP_no, put_last2 (ro := ro) (h := h1) (t := 74) (u := .int .i64 0) (v := .slice none 0 0) (a := .int .i64 E) (c := y1) (by omega) rfl s1.2.2] | refine iteP_two (fun hc hd => ?_) (fun hc hd => ?_) | refine iteP_intro (fun hc => ?_) (fun hc => ?_))
  refine cf_rel (iLoad_c (ro := ro) hX hl (by simp; omega)) (fun q => by cases q) ?_
  intro r h2 hr2
  obtain ⟨p2, E2, ok2, m2, y2, Y2, rfl, D2, _, V2⟩ := hr2.out
  obtain ⟨rfl, rfl, rfl⟩ := D1.uniq D2
  have L2 := p2.len
  rw [List.length_append, List.length_singleton] at L2 V2
  have s2 := V2.1.shape
  have b5 : h2[h1.length]? = some ⟨74, [.int .i64 E, y1]⟩ := by rw [p2.get (by simp)]; exact get_last rfl
  have V1a := V1.pre ((Pfx.refl h1).snoc.trans p2)
  obtain ⟨H3, hH3⟩ : ∃ H3, H3 = h2 ++ [(⟨74, [.int .i64 E, y2]⟩ : Blk)] := ⟨_, rfl⟩
  have b5a : H3[h1.length]? = some ⟨74, [.int .i64 E, y1]⟩ := by rw [hH3, get_skip (by omega)]; exact b5
  have b7a : H3[h2.length]? = some ⟨74, [.int .i64 E, y2]⟩ := by rw [hH3]; exact get_last rfl
  have c5 : cells H3 h1.length 0 2 = some (.agg ⟨[.int .i64 E, y1]⟩) := cellsb b5a (by simp)
  have c7 : cells H3 h2.length 0 2 = some (.agg ⟨[.int .i64 E, y2]⟩) := cellsb b7a (by simp)
  have l3 : H3.length = h2.length + 1 := by rw [hH3]; simp
  have p3 : Pfx h2 H3 := by rw [hH3]; exact (Pfx.refl h2).snoc
  have V1b := V1a.pre p3
  have V2b := V2.pre p3
  (repeat' first | simp -dsimp (disch := first | omega | assumption | (refine OkS.sto ?_ (by omega); first | assumption | (refine OkS.sto ?_ (by omega); first | assumption | (refine OkS.sto ?_ (by omega); first | assumption | (refine OkS.sto ?_ (by omega); first | assumption | (refine OkS.sto ?_ (by omega); first | assumption | (refine OkS.sto ?_ (by omega); first | assumption)))))) | exact Pfx.refl _ | (apply Pfx.snoc; repeat (first | exact Pfx.refl _ | assumption | apply Pfx.snoc)) | with_unfolding_all exact of_eq_true (eq_true rfl) | (simp only [List.length_append, List.length_cons, List.length_nil]; omega)) only [↓wpre0, ↓wpre1, ↓reduceIte, Int.reduceToNat, Nat.reduceAdd, Nat.reduceMul, Nat.reduceEqDiff, wpost0, wpost1, wpost2, wpost3, wpost4, ite_self, ite_true, ite_false, if_true, if_false, len_bl Try.underlying9, bin_gtr, tze74, xst74, xld74, un_not, xbneq4, bin_lss, bin_neq, fr12, wrap_int, wrap_u8, iteP_yes, iteP_no, put_last2 (ro := ro) (h := h2) (t := 74) (u := .int .i64 0) (v := .slice none 0 0) (a := .int .i64 E) (c := y2) (by omega) rfl s2.2.2, ← hH3, c5, c7, eqRecord_r (ro := ro) (E := E) hX.n V2b V1b hz m1 (by omega), bne_self_eq_false] | refine iteP_two (fun hc hd => ?_) (fun hc hd => ?_) | refine iteP_intro (fun hc => ?_) (fun hc => ?_))
  refine cf_rel (markRecord_c (ro := ro) (c := 1) (E := E) hX.n V2b m1 hn (by omega) (by omega) (by omega) (by omega)) (fun q => by cases q) ?_
  rintro r h4 ⟨rfl, ⟨L4, M4⟩, R4⟩
  have l4 := R4.1
  have g5 : h4[h1.length]? = some ⟨74, [.int .i64 E, y1]⟩ := by rw [R4.2 _ (by omega) (by omega)]; exact b5a
  have g7 : h4[h2.length]? = some ⟨74, [.int .i64 E, y2]⟩ := by rw [R4.2 _ (by omega) (by omega)]; exact b7a
  have V1c := V1b.frame (h' := h4) fun b _ hb => R4.2 b (by omega) (by omega)
  have d7 : cells h4 h2.length 0 2 = some (.agg ⟨[.int .i64 E, y2]⟩) := cellsb g7 (by simp)
  have mb := mul_le64 (n := nN l) (Nat.le_refl m) m1 hn
  (repeat' first | simp -dsimp (disch := first | omega | assumption | (refine OkS.sto ?_ (by omega); first | assumption | (refine OkS.sto ?_ (by omega); first | assumption | (refine OkS.sto ?_ (by omega); first | assumption | (refine OkS.sto ?_ (by omega); first | assumption | (refine OkS.sto ?_ (by omega); first | assumption | (refine OkS.sto ?_ (by omega); first | assumption)))))) | exact Pfx.refl _ | (apply Pfx.snoc; repeat (first | exact Pfx.refl _ | assumption | apply Pfx.snoc)) | with_unfolding_all exact of_eq_true (eq_true rfl) | (simp only [List.length_append, List.length_cons, List.length_nil]; omega)) only [↓wpre0, ↓wpre1, ↓reduceIte, Int.reduceToNat, Nat.reduceAdd, Nat.reduceMul, Nat.reduceEqDiff, wpost0, wpost1, wpost2, wpost3, wpost4, ite_self, ite_true, ite_false, if_true, if_false, len_bl Try.underlying9, bin_gtr, tze74, xst74, xld74, un_not, xbneq4, bin_lss, bin_neq, fr12, wrap_int, wrap_u8, iteP_yes, iteP_no, d7, heldRecord_r (ro := ro) (c := 1) (E := E) hX.n M4 m1 hn (by omega) (by omega), bne_self_eq_false] | refine iteP_two (fun hc hd => ?_) (fun hc hd => ?_) | refine iteP_intro (fun hc => ?_) (fun hc => ?_))
  refine cf_rel (iLoad_c (ro := ro) hX hl (by omega)) (fun q => by cases q) ?_
  intro r h5 hr5
  obtain ⟨p5, E3, ok3, m3, y3, Y3, rfl, D3, _, V3⟩ := hr5.out
  obtain ⟨rfl, rfl, rfl⟩ := D1.uniq D3
  have L5 := p5.len
  have s3 := V3.1.shape
  obtain ⟨H6, hH6⟩ : ∃ H6, H6 = h5 ++ [(⟨74, [.int .i64 E, y3]⟩ : Blk)] := ⟨_, rfl⟩
  have p6 : Pfx h5 H6 := by rw [hH6]; exact (Pfx.refl h5).snoc
  have q5 : H6[h1.length]? = some ⟨74, [.int .i64 E, y1]⟩ := by rw [(p5.trans p6).get (by omega)]; exact g5
  have q7 : H6[h2.length]? = some ⟨74, [.int .i64 E, y2]⟩ := by rw [(p5.trans p6).get (by omega)]; exact g7
  have q9 : H6[h5.length]? = some ⟨74, [.int .i64 E, y3]⟩ := by rw [hH6]; exact get_last rfl
  have k5 : cells H6 h1.length 0 2 = some (.agg ⟨[.int .i64 E, y1]⟩) := cellsb q5 (by simp)
  have k7 : cells H6 h2.length 0 2 = some (.agg ⟨[.int .i64 E, y2]⟩) := cellsb q7 (by simp)
  have k9 : cells H6 h5.length 0 2 = some (.agg ⟨[.int .i64 E, y3]⟩) := cellsb q9 (by simp)
  have l6 : H6.length = h5.length + 1 := by rw [hH6]; simp
  have V1d := V1c.pre (p5.trans p6)
  have V3d := V3.pre p6
  have M6 := M4.pre (p5.trans p6)
  (repeat' first | simp -dsimp (disch := first | omega | assumption | (refine OkS.sto ?_ (by omega); first | assumption | (refine OkS.sto ?_ (by omega); first | assumption | (refine OkS.sto ?_ (by omega); first | assumption | (refine OkS.sto ?_ (by omega); first | assumption | (refine OkS.sto ?_ (by omega); first | assumption | (refine OkS.sto ?_ (by omega); first | assumption)))))) | exact Pfx.refl _ | (apply Pfx.snoc; repeat (first | exact Pfx.refl _ | assumption | apply Pfx.snoc)) | with_unfolding_all exact of_eq_true (eq_true rfl) | (simp only [List.length_append, List.length_cons, List.length_nil]; omega)) only [↓wpre0, ↓wpre1, ↓reduceIte, Int.reduceToNat, Nat.reduceAdd, Nat.reduceMul, Nat.reduceEqDiff, wpost0, wpost1, wpost2, wpost3, wpost4, ite_self, ite_true, ite_false, if_true, if_false, len_bl Try.underlying9, bin_gtr, tze74, xst74, xld74, un_not, xbneq4, bin_lss, bin_neq, fr12, wrap_int, wrap_u8, iteP_yes, iteP_no, put_last2 (ro := ro) (h := h5) (t := 74) (u := .int .i64 0) (v := .slice none 0 0) (a := .int .i64 E) (c := y3) (by omega) rfl s3.2.2, ← hH6, k5, k7, k9, eqRecord_r (ro := ro) (E := E) hX.n V3d V1d hz m1 (by omega), heldRecord_r (ro := ro) (c := 1) (E := E) hX.n M6 m1 hn (by omega) (by omega), bne_self_eq_false] | refine iteP_two (fun hc hd => ?_) (fun hc hd => ?_) | refine iteP_intro (fun hc => ?_) (fun hc => ?_))
end Go.Proofs.Ytbakaopgdcojfaa.Sim
