/- What jobsOf comes to: the walk in the model. Lemmas only; no condition. -/
import Derived.Test.YtbakaopgdcojfaaJoc
set_option linter.unusedSimpArgs false
set_option linter.unusedVariables false
set_option maxRecDepth 8000
namespace Go.Proofs.Ytbakaopgdcojfaa.Sim
open Go Go.RowKit Go.Maps
variable {ro B : Nat}
abbrev XF : Ext := fun _ => none
theorem xf_n : XN XF := fun _ _ => rfl
/-- What holds at the loop's head. -/
structure JI (n : Nat) (l : List Int) (x : Value) (h3 : Heap) (w0 : World) (mb B3 : Nat) (ρ2 : List Loc) (i : Nat) (ρ' : List Loc) (h' : Heap) (e : Env) (a : Act) (w : World) (y : Value) (D : DataW Unit) : Prop where
  p : Pre ρ2 ρ'
  px : Pfx h3 h'
  s : SR Try.prog h3.length B3 ρ' h' w
  b : B3 ≤ w.heap.size
  A : AR Try.prog h3.length ρ' Try.f94.ntmps e a
  bel : Below w0.heap.size w0 w
  own : w.ownsMap Try.prog 2 (plainElem Try.prog 2) mb i D
  m : MapC D (keysL n l) i
  g3 : e 3 = y
  g4 : e 4 = .map (some mb)
  g9 : e 9 = x
  g10 : e 10 = .int .i64 n
  g11 : e 11 = .int .i64 i
  y : JY h3.length (h3.length - 1) 2 h' y i (vints (jobsL (keysL n l) i))
theorem own_below {H : Type} {P : Program} {k : TypeId} {R : Value → Option (DataW H × List MemPlace)} {w w' : World} {mb n C : Nat} {D : DataW H} (o : w.ownsMap P k R mb n D) (b : Below C w w') (h : mb < C) : w'.ownsMap P k R mb n D := by
  obtain ⟨es, clock, hb, r⟩ := o
  exact ⟨es, clock, (b.block mb h).trans hb, r⟩
theorem round_c {n : Nat} {l : List Int} {x : Value} {h3 : Heap} {w0 : World} {mb B3 : Nat} {ρ2 : List Loc} {i : Nat} {ρ' : List Loc} {h' : Heap} {e : Env} {a : Act} {w : World} {y : Value} {D : DataW Unit} {h : Heap} {Q : Exit → Act → World → Prop} (hI : IS 0 h.length 2 h x n l) (hr : ∀ j, j < n → r64 (nth l (j * 2))) (hn : n ≤ 1099511627776)
    (h03 : Pfx h h3) (hmb : w0.heap.size ≤ mb) (hmb3 : mb < B3) (hin : i < n) (hj : JI n l x h3 w0 mb B3 ρ2 i ρ' h' e a w y D) (hQ : ∀ ρ' h' e a w y D, JI n l x h3 w0 mb B3 ρ2 (i + 1) ρ' h' e a w y D → Q .normal a w) :
    (match Try.f94.body with | some (.seq _ (.seq _ (.seq (.seq _ (.block _ (.loop c))) _))) => c | _ => .skip).wp Try.prog Q a w := by
  obtain ⟨p, px, s, b, A, bel, own, mc, g3, g4, g9, g10, g11, gy⟩ := hj
  have hI' := hI.pre (h03.trans px)
  show Code.wp _ _ _ _ _
  refine wp_seq ?_
  refine wp_of_W mixed noX_ok (by kernel_rfl) s b A (R := fun z e2 h2 => z = .normal ∧ h' = h2 ∧ e2 12 = .bool true ∧ ∀ t, t ≠ 12 → e2 t = e t) ?_ ?_
  · (repeat' first | simp -dsimp (disch := first | omega | assumption | (refine OkS.sto ?_ (by omega); first | assumption | (refine OkS.sto ?_ (by omega); first | assumption | (refine OkS.sto ?_ (by omega); first | assumption | (refine OkS.sto ?_ (by omega); first | assumption | (refine OkS.sto ?_ (by omega); first | assumption | (refine OkS.sto ?_ (by omega); first | assumption)))))) | exact Pfx.refl _ | (apply Pfx.snoc; repeat (first | exact Pfx.refl _ | assumption | apply Pfx.snoc)) | with_unfolding_all exact of_eq_true (eq_true rfl) | (simp only [List.length_append, List.length_cons, List.length_nil]; omega)) only [↓wpre0, ↓wpre1, ↓reduceIte, Int.reduceToNat, Nat.reduceAdd, Nat.reduceMul, Nat.reduceEqDiff, wpost0, wpost1, wpost2, wpost3, wpost4, ite_self, ite_true, ite_false, if_true, if_false, xbls63_0, xbls63_1, xlen56, bin_lss, xiad56, xld115, tze115, xst115, xfad115_0, xld2, bin_add, fr94, wrap_int, wrap_u8, iteP_yes, iteP_no, g10, g11] | refine iteP_two (fun hc hd => ?_) (fun hc hd => ?_) | refine iteP_intro (fun hc => ?_) (fun hc => ?_))
    exact ⟨by simp [hin], fun t h1 => by simp [h1]⟩
  rintro z e1 h1 ⟨rfl, rfl, c12, ce⟩ a1 w1 ρ1 p1 s1 A1 b1
  simp only [exOf, Exit.then]
  refine wp_seq ?_
  refine wp_of_W mixed noX_ok (by kernel_rfl) s1 (Nat.le_trans b b1.size) A1 (R := fun z e2 h2 => z = .normal ∧ h' = h2 ∧ e2 = e1) ?_ ?_
  · (repeat' first | simp -dsimp (disch := first | omega | assumption | (refine OkS.sto ?_ (by omega); first | assumption | (refine OkS.sto ?_ (by omega); first | assumption | (refine OkS.sto ?_ (by omega); first | assumption | (refine OkS.sto ?_ (by omega); first | assumption | (refine OkS.sto ?_ (by omega); first | assumption | (refine OkS.sto ?_ (by omega); first | assumption)))))) | exact Pfx.refl _ | (apply Pfx.snoc; repeat (first | exact Pfx.refl _ | assumption | apply Pfx.snoc)) | with_unfolding_all exact of_eq_true (eq_true rfl) | (simp only [List.length_append, List.length_cons, List.length_nil]; omega)) only [↓wpre0, ↓wpre1, ↓reduceIte, Int.reduceToNat, Nat.reduceAdd, Nat.reduceMul, Nat.reduceEqDiff, wpost0, wpost1, wpost2, wpost3, wpost4, ite_self, ite_true, ite_false, if_true, if_false, xbls63_0, xbls63_1, xlen56, bin_lss, xiad56, xld115, tze115, xst115, xfad115_0, xld2, bin_add, fr94, wrap_int, wrap_u8, iteP_yes, iteP_no, c12] | refine iteP_two (fun hc hd => ?_) (fun hc hd => ?_) | refine iteP_intro (fun hc => ?_) (fun hc => ?_))
    all_goals exact ⟨rfl, rfl, rfl⟩
  rintro z e2 h2 ⟨rfl, rfl, rfl⟩ a2 w2 ρ2' p2 s2 A2 b2
  simp only [exOf, Exit.then]
  have g3 : e2 3 = y := (ce 3 (by decide)).trans g3
  have g4 : e2 4 = .map (some mb) := (ce 4 (by decide)).trans g4
  have g9 : e2 9 = x := (ce 9 (by decide)).trans g9
  have g10 : e2 10 = .int .i64 n := (ce 10 (by decide)).trans g10
  have g11 : e2 11 = .int .i64 i := (ce 11 (by decide)).trans g11
  have B2 := b1.trans b2
  refine wp_seq (wp_block ?_)
  refine wp_seq ?_
  refine wp_of_W mixed noX_ok (by kernel_rfl) s2 (Nat.le_trans b B2.size) A2 (R := fun z e3 h4 => z = .normal ∧ h' ++ [⟨115, [.int .i64 (nth l (i * 2)), .int .i64 (nth l (i * 2 + 1))]⟩] = h4 ∧ e3 6 = .pointer (some ⟨h'.length, 0, none⟩) ∧ ∀ t, t ≠ 13 → t ≠ 14 → t ≠ 6 → e3 t = e2 t) ?_ ?_
  · have hll := px.len
    (repeat' first | simp -dsimp (disch := first | omega | assumption | (refine OkS.sto ?_ (by omega); first | assumption | (refine OkS.sto ?_ (by omega); first | assumption | (refine OkS.sto ?_ (by omega); first | assumption | (refine OkS.sto ?_ (by omega); first | assumption | (refine OkS.sto ?_ (by omega); first | assumption | (refine OkS.sto ?_ (by omega); first | assumption)))))) | exact Pfx.refl _ | (apply Pfx.snoc; repeat (first | exact Pfx.refl _ | assumption | apply Pfx.snoc)) | with_unfolding_all exact of_eq_true (eq_true rfl) | (simp only [List.length_append, List.length_cons, List.length_nil]; omega)) only [↓wpre0, ↓wpre1, ↓reduceIte, Int.reduceToNat, Nat.reduceAdd, Nat.reduceMul, Nat.reduceEqDiff, wpost0, wpost1, wpost2, wpost3, wpost4, ite_self, ite_true, ite_false, if_true, if_false, xbls63_0, xbls63_1, xlen56, bin_lss, xiad56, xld115, tze115, xst115, xfad115_0, xld2, bin_add, fr94, wrap_int, wrap_u8, iteP_yes, iteP_no, g9, g11, IS.iad hI' Try.underlying56 tsz115, IS.ldm hI' tsz115 tag115] | refine iteP_two (fun hc hd => ?_) (fun hc hd => ?_) | refine iteP_intro (fun hc => ?_) (fun hc => ?_))
    exact fun t q1 q2 q3 => by simp [q1, q2, q3]
  rintro z e3 h4 ⟨rfl, rfl, c6, ce2⟩ a3 w3 ρ3 p3 s3 A3 b3
  simp only [exOf, Exit.then]
  have B3' := B2.trans b3
  have g3 : e3 3 = y := (ce2 3 (by decide) (by decide) (by decide)).trans g3
  have g4 : e3 4 = .map (some mb) := (ce2 4 (by decide) (by decide) (by decide)).trans g4
  have g9 : e3 9 = x := (ce2 9 (by decide) (by decide) (by decide)).trans g9
  have g10 : e3 10 = .int .i64 n := (ce2 10 (by decide) (by decide) (by decide)).trans g10
  have g11 : e3 11 = .int .i64 i := (ce2 11 (by decide) (by decide) (by decide)).trans g11
  clear ce ce2 c12
  have hll := px.len
  have hk2 := hr i hin
  have hwf := wf_r64 hk2
  have hkey : keyOf Try.prog 2 (.int .i64 (nth l (i * 2))) = some (.int .i64 (nth l (i * 2))) := keyOf_int_mk Try.underlying2 hwf
  have q4 : (h' ++ [(⟨115, [.int .i64 (nth l (i * 2)), .int .i64 (nth l (i * 2 + 1))]⟩ : Blk)])[h'.length]? = some ⟨115, [.int .i64 (nth l (i * 2)), .int .i64 (nth l (i * 2 + 1))]⟩ := by simp
  have gy4 := gy.frame ((Pfx.refl h').snoc (C := ⟨115, [.int .i64 (nth l (i * 2)), .int .i64 (nth l (i * 2 + 1))]⟩))
  have gyb := gy.bof
  have p4 : Pfx h3 (h' ++ [(⟨115, [.int .i64 (nth l (i * 2)), .int .i64 (nth l (i * 2 + 1))]⟩ : Blk)]) := px.snoc
  have l4 : (h' ++ [(⟨115, [.int .i64 (nth l (i * 2)), .int .i64 (nth l (i * 2 + 1))]⟩ : Blk)]).length = h'.length + 1 := by simp
  generalize (h' ++ [(⟨115, [.int .i64 (nth l (i * 2)), .int .i64 (nth l (i * 2 + 1))]⟩ : Blk)]) = h4 at q4 gy4 p4 l4 s3
  refine wp_seq (wp_region_list ?_)
  refine wpList_of_WO mixed noX_ok _ _ [_, _, _, _] (by kernel_rfl) s3 (Nat.le_trans b B3'.size) A3 (K := fun e4 h5 => h4 = h5 ∧ e4 15 = y ∧ e4 16 = .map (some mb) ∧ e4 18 = .int .i64 (nth l (i * 2)) ∧ ∀ t, t ≠ 15 → t ≠ 16 → t ≠ 17 → t ≠ 18 → e4 t = e3 t) ?_ ?_
  · (repeat' first | simp -dsimp (disch := first | omega | assumption | (refine OkS.sto ?_ (by omega); first | assumption | (refine OkS.sto ?_ (by omega); first | assumption | (refine OkS.sto ?_ (by omega); first | assumption | (refine OkS.sto ?_ (by omega); first | assumption | (refine OkS.sto ?_ (by omega); first | assumption | (refine OkS.sto ?_ (by omega); first | assumption)))))) | exact Pfx.refl _ | (apply Pfx.snoc; repeat (first | exact Pfx.refl _ | assumption | apply Pfx.snoc)) | with_unfolding_all exact of_eq_true (eq_true rfl) | (simp only [List.length_append, List.length_cons, List.length_nil]; omega)) only [↓wpre0, ↓wpre1, ↓reduceIte, Int.reduceToNat, Nat.reduceAdd, Nat.reduceMul, Nat.reduceEqDiff, wpost0, wpost1, wpost2, wpost3, wpost4, ite_self, ite_true, ite_false, if_true, if_false, xbls63_0, xbls63_1, xlen56, bin_lss, xiad56, xld115, tze115, xst115, xfad115_0, xld2, bin_add, fr94, wrap_int, wrap_u8, iteP_yes, iteP_no, g3, g4, c6, cellb q4] | refine iteP_two (fun hc hd => ?_) (fun hc hd => ?_) | refine iteP_intro (fun hc => ?_) (fun hc => ?_))
    exact fun t q1 q2 q3 q4 => by simp [q1, q2, q3, q4]
  rintro e4 h5 ⟨rfl, c15, c16, c18, ce⟩ a4 w4 ρ4 p4' s4 A4 b4
  have B4' := B3'.trans b4
  have own4 := own_below own B4' hmb3
  have hm := mc.2 _ hk2
  refine wpList_lookup_own_int (H := Unit) w4 rfl _ _ 142 rfl 2 2 .i64 keysI mapU Try.underlying2 (zeroI w4) mb i D (A4.map c16) own4 _ _ (A4.int c18) hkey ?_
  intro c hat hwc
  have hc : c = (cntK (keysL n l) i (nth l (i * 2)) : Nat) := by
    rw [hm] at hat
    simpa using hat.symm
  subst hc
  have hcl := cntK_le (keysL n l) i (nth l (i * 2))
  have A5 := (A4.put (d := some 19) (v := .int .i64 (cntK (keysL n l) i (nth l (i * 2)) : Nat)) (v' := .int .i64 (cntK (keysL n l) i (nth l (i * 2)) : Nat)) (fun t ht => by cases ht; exact Nat.le_of_ble_eq_true rfl) (.int _ _))
  obtain ⟨H, ap, vg, hpx, hold, hH⟩ := accJ (P := Try.prog) (ro := h3.length) (T := 63) (v := .int .i64 (cntK (keysL n l) i (nth l (i * 2)) : Nat)) tel63 tsz2 tby2 tze2 gy4 (Nat.le_refl _) p4.len rfl (by omega) (by omega)
  have gg3 : e4 3 = y := (ce 3 (by decide) (by decide) (by decide) (by decide)).trans g3
  have gg4 : e4 4 = .map (some mb) := (ce 4 (by decide) (by decide) (by decide) (by decide)).trans g4
  have gg6 : e4 6 = .pointer (some ⟨h'.length, 0, none⟩) := (ce 6 (by decide) (by decide) (by decide) (by decide)).trans c6
  have gg9 : e4 9 = x := (ce 9 (by decide) (by decide) (by decide) (by decide)).trans g9
  have gg10 : e4 10 = .int .i64 n := (ce 10 (by decide) (by decide) (by decide) (by decide)).trans g10
  have gg11 : e4 11 = .int .i64 i := (ce 11 (by decide) (by decide) (by decide) (by decide)).trans g11
  refine wpList_of_WO mixed noX_ok _ [] [_, _, _] (by kernel_rfl) s4 (Nat.le_trans b B4'.size) A5 (K := fun e5 h6 => H = h6 ∧ e5 3 = .slice (some ⟨h4.length + 1, 0, none⟩) (i + 1) (i + 1 + 1) ∧ e5 4 = .map (some mb) ∧ e5 6 = .pointer (some ⟨h'.length, 0, none⟩) ∧ e5 9 = x ∧ e5 10 = .int .i64 n ∧ e5 11 = .int .i64 i) ?_ ?_
  · (repeat' first | simp -dsimp (disch := first | omega | assumption | (refine OkS.sto ?_ (by omega); first | assumption | (refine OkS.sto ?_ (by omega); first | assumption | (refine OkS.sto ?_ (by omega); first | assumption | (refine OkS.sto ?_ (by omega); first | assumption | (refine OkS.sto ?_ (by omega); first | assumption | (refine OkS.sto ?_ (by omega); first | assumption)))))) | exact Pfx.refl _ | (apply Pfx.snoc; repeat (first | exact Pfx.refl _ | assumption | apply Pfx.snoc)) | with_unfolding_all exact of_eq_true (eq_true rfl) | (simp only [List.length_append, List.length_cons, List.length_nil]; omega)) only [↓wpre0, ↓wpre1, ↓reduceIte, Int.reduceToNat, Nat.reduceAdd, Nat.reduceMul, Nat.reduceEqDiff, wpost0, wpost1, wpost2, wpost3, wpost4, ite_self, ite_true, ite_false, if_true, if_false, xbls63_0, xbls63_1, xlen56, bin_lss, xiad56, xld115, tze115, xst115, xfad115_0, xld2, bin_add, fr94, wrap_int, wrap_u8, iteP_yes, iteP_no, c15, ap] | refine iteP_two (fun hc hd => ?_) (fun hc hd => ?_) | refine iteP_intro (fun hc => ?_) (fun hc => ?_))
    exact ⟨gg4, gg6, gg9, gg10, gg11⟩
  rintro e5 h6 ⟨rfl, g3, g4, g6, g9, g10, g11⟩ a5 w5 ρ5 p5 s5 A6 b5
  have B5' := B4'.trans b5
  have own5 := own_below own B5' hmb3
  simp only [wpList, Exit.then]
  refine wp_region_list ?_
  have q6 : H[h'.length]? = some ⟨115, [.int .i64 (nth l (i * 2)), .int .i64 (nth l (i * 2 + 1))]⟩ := by rw [hold _ (by omega) (by omega)]; exact q4
  refine wpList_of_WO mixed noX_ok _ _ [_, _, _] (by kernel_rfl) s5 (Nat.le_trans b B5'.size) A6 (K := fun e6 h7 => H = h7 ∧ e6 22 = .map (some mb) ∧ e6 24 = .int .i64 (nth l (i * 2)) ∧ ∀ t, t ≠ 22 → t ≠ 23 → t ≠ 24 → e6 t = e5 t) ?_ ?_
  · (repeat' first | simp -dsimp (disch := first | omega | assumption | (refine OkS.sto ?_ (by omega); first | assumption | (refine OkS.sto ?_ (by omega); first | assumption | (refine OkS.sto ?_ (by omega); first | assumption | (refine OkS.sto ?_ (by omega); first | assumption | (refine OkS.sto ?_ (by omega); first | assumption | (refine OkS.sto ?_ (by omega); first | assumption)))))) | exact Pfx.refl _ | (apply Pfx.snoc; repeat (first | exact Pfx.refl _ | assumption | apply Pfx.snoc)) | with_unfolding_all exact of_eq_true (eq_true rfl) | (simp only [List.length_append, List.length_cons, List.length_nil]; omega)) only [↓wpre0, ↓wpre1, ↓reduceIte, Int.reduceToNat, Nat.reduceAdd, Nat.reduceMul, Nat.reduceEqDiff, wpost0, wpost1, wpost2, wpost3, wpost4, ite_self, ite_true, ite_false, if_true, if_false, xbls63_0, xbls63_1, xlen56, bin_lss, xiad56, xld115, tze115, xst115, xfad115_0, xld2, bin_add, fr94, wrap_int, wrap_u8, iteP_yes, iteP_no, g4, g6, cellb q6] | refine iteP_two (fun hc hd => ?_) (fun hc hd => ?_) | refine iteP_intro (fun hc => ?_) (fun hc => ?_))
    exact fun t q1 q2 q3 => by simp [q1, q2, q3]
  rintro e6 h7 ⟨rfl, c22, c24, ce⟩ a6 w6 ρ6 p6 s6 A7 b6
  have B6' := B5'.trans b6
  have own6 := own_below own B6' hmb3
  refine wpList_lookup_own_int (H := Unit) w6 rfl _ _ 142 rfl 2 2 .i64 keysI mapU Try.underlying2 (zeroI w6) mb i D (A7.map c22) own6 _ _ (A7.int c24) hkey ?_
  intro c hat hwc
  have hc : c = (cntK (keysL n l) i (nth l (i * 2)) : Nat) := by
    rw [hm] at hat
    simpa using hat.symm
  subst hc
  have A8 := (A7.put (d := some 25) (v := .int .i64 (cntK (keysL n l) i (nth l (i * 2)) : Nat)) (v' := .int .i64 (cntK (keysL n l) i (nth l (i * 2)) : Nat)) (fun t ht => by cases ht; exact Nat.le_of_ble_eq_true rfl) (.int _ _))
  refine wpList_of_WO mixed noX_ok _ _ [_] (by kernel_rfl) s6 (Nat.le_trans b B6'.size) A8 (K := fun e7 h8 => H = h8 ∧ e7 26 = .int .i64 ((cntK (keysL n l) i (nth l (i * 2)) : Nat) + 1) ∧ e7 22 = e6 22 ∧ e7 24 = e6 24 ∧ e7 3 = e6 3 ∧ e7 4 = e6 4 ∧ e7 9 = e6 9 ∧ e7 10 = e6 10 ∧ e7 11 = e6 11) ?_ ?_
  · (repeat' first | simp -dsimp (disch := first | omega | assumption | (refine OkS.sto ?_ (by omega); first | assumption | (refine OkS.sto ?_ (by omega); first | assumption | (refine OkS.sto ?_ (by omega); first | assumption | (refine OkS.sto ?_ (by omega); first | assumption | (refine OkS.sto ?_ (by omega); first | assumption | (refine OkS.sto ?_ (by omega); first | assumption)))))) | exact Pfx.refl _ | (apply Pfx.snoc; repeat (first | exact Pfx.refl _ | assumption | apply Pfx.snoc)) | with_unfolding_all exact of_eq_true (eq_true rfl) | (simp only [List.length_append, List.length_cons, List.length_nil]; omega)) only [↓wpre0, ↓wpre1, ↓reduceIte, Int.reduceToNat, Nat.reduceAdd, Nat.reduceMul, Nat.reduceEqDiff, wpost0, wpost1, wpost2, wpost3, wpost4, ite_self, ite_true, ite_false, if_true, if_false, xbls63_0, xbls63_1, xlen56, bin_lss, xiad56, xld115, tze115, xst115, xfad115_0, xld2, bin_add, fr94, wrap_int, wrap_u8, iteP_yes, iteP_no] | refine iteP_two (fun hc hd => ?_) (fun hc hd => ?_) | refine iteP_intro (fun hc => ?_) (fun hc => ?_))
  rintro e7 h8 ⟨rfl, d26, d22, d24, d3, d4, d9, d10, d11⟩ a7 w7 ρ7 p7 s7 A9 b7
  have B7' := B6'.trans b7
  have own7 := own_below own B7' hmb3
  have hwc2 : (Lit.int .i64 ((cntK (keysL n l) i (nth l (i * 2)) : Nat) + 1)).wf = true := wf_r64 (by unfold r64; omega)
  refine wpList_mapUpdate_own (H := Unit) w7 rfl _ _ _ 142 rfl 2 2 keysI mapU _ mb i D (A9.map (d22.trans c22)) own7 (by show i < maxLen; unfold maxLen; omega) _ _ _ (A9.int (d24.trans c24)) (A9.int d26) hkey _ [] (plainElem_int Try.underlying2 hwc2) ?_
  intro w8 own8 grow8
  have hmb7 : mb < w7.heap.size := own7.lt
  obtain ⟨es7, cl7, hb7, _⟩ := own7
  have s8 := s7.grown hb7 grow8
  have A10 := A9.put (d := none) (v := undef) (v' := undef) (fun t ht => by cases ht) VR_undef
  simp only [wpList, Exit.inBlock, Exit.then]
  have b8 : Below w0.heap.size w7 w8 := below_grown grow8 hmb hmb7
  have hsz8 : B3 ≤ w8.heap.size := Nat.le_trans b (Nat.le_trans B7'.size grow8.size)
  refine wp_of_W mixed noX_ok (by kernel_rfl) s8 hsz8 A10 (R := fun z e9 h9 => z = .normal ∧ H = h9 ∧ e9 11 = .int .i64 ((i + 1 : Nat) : Int) ∧ e9 3 = e7 3 ∧ e9 4 = e7 4 ∧ e9 9 = e7 9 ∧ e9 10 = e7 10) ?_ ?_
  · (repeat' first | simp -dsimp (disch := first | omega | assumption | (refine OkS.sto ?_ (by omega); first | assumption | (refine OkS.sto ?_ (by omega); first | assumption | (refine OkS.sto ?_ (by omega); first | assumption | (refine OkS.sto ?_ (by omega); first | assumption | (refine OkS.sto ?_ (by omega); first | assumption | (refine OkS.sto ?_ (by omega); first | assumption)))))) | exact Pfx.refl _ | (apply Pfx.snoc; repeat (first | exact Pfx.refl _ | assumption | apply Pfx.snoc)) | with_unfolding_all exact of_eq_true (eq_true rfl) | (simp only [List.length_append, List.length_cons, List.length_nil]; omega)) only [↓wpre0, ↓wpre1, ↓reduceIte, Int.reduceToNat, Nat.reduceAdd, Nat.reduceMul, Nat.reduceEqDiff, wpost0, wpost1, wpost2, wpost3, wpost4, ite_self, ite_true, ite_false, if_true, if_false, xbls63_0, xbls63_1, xlen56, bin_lss, xiad56, xld115, tze115, xst115, xfad115_0, xld2, bin_add, fr94, wrap_int, wrap_u8, iteP_yes, iteP_no, d11, ce, g11] | refine iteP_two (fun hc hd => ?_) (fun hc hd => ?_) | refine iteP_intro (fun hc => ?_) (fun hc => ?_))
    exact congrArg _ (by omega)
  rintro z e9 h9 ⟨rfl, rfl, k11, k3, k4, k9, k10⟩ a9 w9 ρ9 p9 s9 A11 b9
  have hks : (keysL n l).length = n := keysL_len n l
  have hget : (keysL n l)[i]'(by omega) = nth l (i * 2) := keysL_get (by omega)
  have mc2 := mc.step (i := i) (by omega)
  rw [hget] at mc2
  have hle : w0.heap.size ≤ B3 := by omega
  have hjl : vints (jobsL (keysL n l) (i + 1)) = vints (jobsL (keysL n l) i) ++ [.int .i64 (cntK (keysL n l) i (nth l (i * 2)) : Nat)] := by
    rw [jobsL_succ, vints_app, List.getD_eq_getElem?_getD, List.getElem?_eq_getElem (by omega), Option.getD_some, hget]; rfl
  refine hQ ρ9 H e9 a9 w9 _ _ ⟨p.trans (p1.trans (p2.trans (p3.trans (p4'.trans (p5.trans (p6.trans (p7.trans p9))))))), hpx h3 p4 (Nat.le_refl _), s9, Nat.le_trans hsz8 b9.size, A11, bel.trans (((B7'.mono hle).trans b8).trans (b9.mono hle)), own_below own8 b9 hmb3, mc2, k3.trans (d3.trans ((ce 3 (by decide) (by decide) (by decide)).trans g3)), k4.trans (d4.trans ((ce 4 (by decide) (by decide) (by decide)).trans g4)), k9.trans (d9.trans ((ce 9 (by decide) (by decide) (by decide)).trans g9)), k10.trans (d10.trans ((ce 10 (by decide) (by decide) (by decide)).trans g10)), k11, ?_⟩
  rw [hjl]
  exact .inr vg
end Go.Proofs.Ytbakaopgdcojfaa.Sim
