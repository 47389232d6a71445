/- The law FnMatrices. Lemmas only; no condition. -/
import Derived.Test.YtelogajobjflfaaMtl
set_option linter.unusedSimpArgs false
set_option linter.unusedVariables false
set_option maxRecDepth 8000
namespace Go.Proofs.Ytelogajobjflfaa.Sim
open Go Go.RowKit Fl
variable {ro lo lo' hi hi' : Nat} {X : Ext} {h : Heap} {x y : Value}
theorem XN.or {A B : Ext} (a : XN A) (b : XN B) : XN (orX A B) := fun f hf => by unfold orX; rw [a f hf]; exact b f hf
theorem XN.only {n : Nat} {F : Option (List Value → Heap → Option (Value × Heap))} (hn : noBody.contains n = true) : XN fun g => if g = n then F else none := fun f hf => by
  show (if f = n then F else none) = none
  rw [if_neg]
  intro e
  rw [e, hn] at hf
  cases hf
noncomputable def xM0 : Ext := soloX 239 gBits
noncomputable def xM1 (ro : Nat) : Ext := orX (xMulF ro xM0) xM0
noncomputable def xM2 (ro : Nat) : Ext := orX (xAdj ro (xM1 ro)) (orX (xMul ro (xM1 ro)) (orX (xAdd ro (xM1 ro)) (xM1 ro)))
theorem xn_M0 : XN xM0 := XN.only (by decide +kernel)
theorem xn_M1 (ro : Nat) : XN (xM1 ro) := XN.or (XN.only (by decide +kernel)) xn_M0
theorem xn_M2 (ro : Nat) : XN (xM2 ro) := XN.or (XN.only (by decide +kernel)) (XN.or (XN.only (by decide +kernel)) (XN.or (XN.only (by decide +kernel)) (xn_M1 ro)))
theorem xok_M0 {ro : Nat} {B : Base} : XOk Try.prog ro B xM0 := xBits_ok
theorem xok_M1 {ro : Nat} {B : Base} : XOk Try.prog ro B (xM1 ro) := orX_ok (xMulF_ok xok_M0) xok_M0
theorem xok_M2 {ro : Nat} {B : Base} : XOk Try.prog ro B (xM2 ro) := orX_ok (xAdj_ok xok_M1) (orX_ok (xMul_ok xok_M1) (orX_ok (xAdd_ok xok_M1) xok_M1))
set_option maxHeartbeats 16000000 in
theorem lawM_w {c : Code} (hc : Try.f4.body = some c) {cd md : List UInt8} (hV : VS lo hi 1 h x cd.length (cd.map u8v)) (hU : VS lo' hi' 1 h y md.length (md.map u8v)) (hhi : hi ≤ h.length) (hhi' : hi' ≤ h.length) (hro : ro ≤ h.length) (hl : cd.length ≤ 140737488351232) (hl' : md.length ≤ 140737488351232) :
    WG Try.prog ro (xM2 ro) c (EndP Try.prog Try.f4 h fun r h' => r = .bool true) (entry [x, y]) h := by
  cases hc
  have hX := xn_M2 ro
  have hX1 := xn_M1 ro
  have e24 : xM2 ro 24 = xMul ro (xM1 ro) 24 := rfl
  have e29 : xM2 ro 29 = xAdd ro (xM1 ro) 29 := rfl
  have e119 : xM2 ro 119 = xAdj ro (xM1 ro) 119 := rfl
  have e116 : xM1 ro 116 = xMulF ro xM0 116 := rfl
  have eB : xM2 ro 239 = some (ext1 gBits) := rfl
  generalize xM2 ro = X at *
  by_cases hlong : (decide (1048576 < cd.length) || decide (1048576 < md.length)) = true
  · (repeat' first | simp -dsimp (disch := first | omega | assumption | (refine OkS.sto ?_ (by omega); first | assumption | (refine OkS.sto ?_ (by omega); first | assumption | (refine OkS.sto ?_ (by omega); first | assumption | (refine OkS.sto ?_ (by omega); first | assumption | (refine OkS.sto ?_ (by omega); first | assumption | (refine OkS.sto ?_ (by omega); first | assumption)))))) | exact Pfx.refl _ | (apply Pfx.snoc; repeat (first | exact Pfx.refl _ | assumption | apply Pfx.snoc)) | with_unfolding_all exact of_eq_true (eq_true rfl) | (simp only [List.length_append, List.length_cons, List.length_nil]; omega)) only [↓gpre0, ↓wpre1, ↓reduceIte, Int.reduceToNat, Nat.reduceAdd, Nat.reduceMul, Nat.reduceEqDiff, wpost0, wpost1, wpost2, wpost3, wpost4, ite_self, ite_true, ite_false, if_true, if_false, bin_add, tze38, xst38, xld38, un_not, blt_real, bin_flss, blt_imag, bin_fneq, xlen44, bin_neq, xfad38_0, xld36, xlen36, bin_lss, xiad36, xld44, xiad44, xld46, bin_cneq, fr4, wrap_int, wrap_u8, iteP_yes, iteP_no, long_r (hX _ rfl) hV hU (by omega) (by omega), hlong] | refine iteP_two (fun hc hd => ?_) (fun hc hd => ?_) | refine iteP_intro (fun hc => ?_) (fun hc => ?_))
  have hlong' : (decide (1048576 < cd.length) || decide (1048576 < md.length)) = false := by simpa using hlong
  have hc1 : cd.length ≤ 1048576 := by simp at hlong'; omega
  have hm1 : md.length ≤ 1048576 := by simp at hlong'; omega
  obtain ⟨p', hp', hpt⟩ := at_r (ro := ro) (X := X) (hX _ rfl) hV (i := 0) (n := 4) (by omega) (by omega) (by omega) (by omega) (by omega)
  obtain ⟨q', hq', hqt⟩ := at_r (ro := ro) (X := X) (hX _ rfl) hV (i := 1) (n := 4) (by omega) (by omega) (by omega) (by omega) (by omega)
  obtain ⟨r', hr', hrt⟩ := at_r (ro := ro) (X := X) (hX _ rfl) hV (i := 2) (n := 4) (by omega) (by omega) (by omega) (by omega) (by omega)
  obtain ⟨p, hp⟩ : ∃ p : Nat, p = p' + 1 := ⟨_, rfl⟩
  obtain ⟨q, hq⟩ : ∃ q : Nat, q = q' + 1 := ⟨_, rfl⟩
  obtain ⟨r, hr⟩ : ∃ r : Nat, r = r' + 1 := ⟨_, rfl⟩
  have wp : (1 : Int) + (p' : Int) = (p : Int) := by omega
  have wq : (1 : Int) + (q' : Int) = (q : Int) := by omega
  have wr : (1 : Int) + (r' : Int) = (r : Int) := by omega
  have p1 : 1 ≤ p := by omega
  have p4 : p ≤ 4 := by omega
  have q1 : 1 ≤ q := by omega
  have q4 : q ≤ 4 := by omega
  have r1 : 1 ≤ r := by omega
  have r4 : r ≤ 4 := by omega
  clear hp hq hr
  (repeat' first | simp -dsimp (disch := first | omega | assumption | (refine OkS.sto ?_ (by omega); first | assumption | (refine OkS.sto ?_ (by omega); first | assumption | (refine OkS.sto ?_ (by omega); first | assumption | (refine OkS.sto ?_ (by omega); first | assumption | (refine OkS.sto ?_ (by omega); first | assumption | (refine OkS.sto ?_ (by omega); first | assumption)))))) | exact Pfx.refl _ | (apply Pfx.snoc; repeat (first | exact Pfx.refl _ | assumption | apply Pfx.snoc)) | with_unfolding_all exact of_eq_true (eq_true rfl) | (simp only [List.length_append, List.length_cons, List.length_nil]; omega)) only [↓gpre0, ↓wpre1, ↓reduceIte, Int.reduceToNat, Nat.reduceAdd, Nat.reduceMul, Nat.reduceEqDiff, wpost0, wpost1, wpost2, wpost3, wpost4, ite_self, ite_true, ite_false, if_true, if_false, bin_add, tze38, xst38, xld38, un_not, blt_real, bin_flss, blt_imag, bin_fneq, xlen44, bin_neq, xfad38_0, xld36, xlen36, bin_lss, xiad36, xld44, xiad44, xld46, bin_cneq, fr4, wrap_int, wrap_u8, iteP_yes, iteP_no, long_r (hX _ rfl) hV hU (by omega) (by omega), hlong', hpt, hqt, hrt, wp, wq, wr] | refine iteP_two (fun hc hd => ?_) (fun hc hd => ?_) | refine iteP_intro (fun hc => ?_) (fun hc => ?_))
  refine cf_rel (MatD_c hX hV (by omega) (by omega) (by omega) (p := p) (q := q) (by omega) (by omega)) (fun q => by cases q) ?_
  rintro _ H1 ⟨za, xa, hza, rfl, pz, mz⟩
  obtain ⟨G1, hG1⟩ : ∃ G, G = H1 ++ [(⟨38, [xa]⟩ : Blk)] := ⟨_, rfl⟩
  have sG1 := hG1.symm
  have lz := pz.len
  have P1 := mat_put (ro := ro) mz (by omega)
  rw [sG1] at P1
  have ka : MK G1 H1.length xa p q (fun i j => intB (za i j)) := by rw [hG1]; exact MK.new mz
  have c1 : Pfx h G1 := by rw [hG1]; exact pz.snoc
  have n1 := c1.len
  have lG1 : G1.length = H1.length + 1 := by rw [hG1]; simp
  replace hV := hV.pre c1
  replace hU := hU.pre c1
  have o1 : ro ≤ G1.length := by omega
  clear mz pz lz
  (repeat' first | simp -dsimp (disch := first | omega | assumption | (refine OkS.sto ?_ (by omega); first | assumption | (refine OkS.sto ?_ (by omega); first | assumption | (refine OkS.sto ?_ (by omega); first | assumption | (refine OkS.sto ?_ (by omega); first | assumption | (refine OkS.sto ?_ (by omega); first | assumption | (refine OkS.sto ?_ (by omega); first | assumption)))))) | exact Pfx.refl _ | (apply Pfx.snoc; repeat (first | exact Pfx.refl _ | assumption | apply Pfx.snoc)) | with_unfolding_all exact of_eq_true (eq_true rfl) | (simp only [List.length_append, List.length_cons, List.length_nil]; omega)) only [↓gpre0, ↓wpre1, ↓reduceIte, Int.reduceToNat, Nat.reduceAdd, Nat.reduceMul, Nat.reduceEqDiff, wpost0, wpost1, wpost2, wpost3, wpost4, ite_self, ite_true, ite_false, if_true, if_false, bin_add, tze38, xst38, xld38, un_not, blt_real, bin_flss, blt_imag, bin_fneq, xlen44, bin_neq, xfad38_0, xld36, xlen36, bin_lss, xiad36, xld44, xiad44, xld46, bin_cneq, fr4, wrap_int, wrap_u8, iteP_yes, iteP_no, sG1, P1, wq] | refine iteP_two (fun hc hd => ?_) (fun hc hd => ?_) | refine iteP_intro (fun hc => ?_) (fun hc => ?_))
  refine cf_rel (MatD_c hX hU (by omega) (by omega) (by omega) (p := q) (q := r) (by omega) (by omega)) (fun q => by cases q) ?_
  rintro _ H2 ⟨zb, xb, hzb, rfl, pz, mz⟩
  obtain ⟨G2, hG2⟩ : ∃ G, G = H2 ++ [(⟨38, [xb]⟩ : Blk)] := ⟨_, rfl⟩
  have sG2 := hG2.symm
  have lz := pz.len
  have P2 := mat_put (ro := ro) mz (by omega)
  rw [sG2] at P2
  have kb : MK G2 H2.length xb q r (fun i j => intB (zb i j)) := by rw [hG2]; exact MK.new mz
  have c2 : Pfx G1 G2 := by rw [hG2]; exact pz.snoc
  have n2 := c2.len
  have lG2 : G2.length = H2.length + 1 := by rw [hG2]; simp
  replace ka := ka.pre c2
  replace hV := hV.pre c2
  replace hU := hU.pre c2
  have o2 : ro ≤ G2.length := by omega
  clear mz pz lz
  (repeat' first | simp -dsimp (disch := first | omega | assumption | (refine OkS.sto ?_ (by omega); first | assumption | (refine OkS.sto ?_ (by omega); first | assumption | (refine OkS.sto ?_ (by omega); first | assumption | (refine OkS.sto ?_ (by omega); first | assumption | (refine OkS.sto ?_ (by omega); first | assumption | (refine OkS.sto ?_ (by omega); first | assumption)))))) | exact Pfx.refl _ | (apply Pfx.snoc; repeat (first | exact Pfx.refl _ | assumption | apply Pfx.snoc)) | with_unfolding_all exact of_eq_true (eq_true rfl) | (simp only [List.length_append, List.length_cons, List.length_nil]; omega)) only [↓gpre0, ↓wpre1, ↓reduceIte, Int.reduceToNat, Nat.reduceAdd, Nat.reduceMul, Nat.reduceEqDiff, wpost0, wpost1, wpost2, wpost3, wpost4, ite_self, ite_true, ite_false, if_true, if_false, bin_add, tze38, xst38, xld38, un_not, blt_real, bin_flss, blt_imag, bin_fneq, xlen44, bin_neq, xfad38_0, xld36, xlen36, bin_lss, xiad36, xld44, xiad44, xld46, bin_cneq, fr4, wrap_int, wrap_u8, iteP_yes, iteP_no, sG2, P2, ka.ld, kb.ld] | refine iteP_two (fun hc hd => ?_) (fun hc hd => ?_) | refine iteP_intro (fun hc => ?_) (fun hc => ?_))
  refine cf_rel (Mul_c xn_M0 hX1 e116 e24 ka.2 kb.2 p1 (by omega) q1 (by omega) r1 (by omega) (by omega) (fun i t j _ _ _ => okM_of (intB4 (hza i t)) (intB4 (hzb t j)) (hza i t) (hzb t j) (by decide))) (fun q => by cases q) ?_
  rintro v3 H3 ⟨xab, ev, pz, mz⟩
  simp only at ev pz mz
  subst ev
  obtain ⟨G3, hG3⟩ : ∃ G, G = H3 ++ [(⟨38, [xab]⟩ : Blk)] := ⟨_, rfl⟩
  have sG3 := hG3.symm
  have lz := pz.len
  have P3 := mat_put (ro := ro) mz (by omega)
  rw [sG3] at P3
  have kab : MK G3 H3.length xab p r (fun i j => dotB (fun t => intB (za i t)) (fun t => intB (zb t j)) q) := by rw [hG3]; exact MK.new mz
  have c3 : Pfx G2 G3 := by rw [hG3]; exact pz.snoc
  have n3 := c3.len
  have lG3 : G3.length = H3.length + 1 := by rw [hG3]; simp
  replace ka := ka.pre c3
  replace kb := kb.pre c3
  replace hV := hV.pre c3
  replace hU := hU.pre c3
  have o3 : ro ≤ G3.length := by omega
  clear mz pz lz
  (repeat' first | simp -dsimp (disch := first | omega | assumption | (refine OkS.sto ?_ (by omega); first | assumption | (refine OkS.sto ?_ (by omega); first | assumption | (refine OkS.sto ?_ (by omega); first | assumption | (refine OkS.sto ?_ (by omega); first | assumption | (refine OkS.sto ?_ (by omega); first | assumption | (refine OkS.sto ?_ (by omega); first | assumption)))))) | exact Pfx.refl _ | (apply Pfx.snoc; repeat (first | exact Pfx.refl _ | assumption | apply Pfx.snoc)) | with_unfolding_all exact of_eq_true (eq_true rfl) | (simp only [List.length_append, List.length_cons, List.length_nil]; omega)) only [↓gpre0, ↓wpre1, ↓reduceIte, Int.reduceToNat, Nat.reduceAdd, Nat.reduceMul, Nat.reduceEqDiff, wpost0, wpost1, wpost2, wpost3, wpost4, ite_self, ite_true, ite_false, if_true, if_false, bin_add, tze38, xst38, xld38, un_not, blt_real, bin_flss, blt_imag, bin_fneq, xlen44, bin_neq, xfad38_0, xld36, xlen36, bin_lss, xiad36, xld44, xiad44, xld46, bin_cneq, fr4, wrap_int, wrap_u8, iteP_yes, iteP_no, sG3, P3, kab.ld] | refine iteP_two (fun hc hd => ?_) (fun hc hd => ?_) | refine iteP_intro (fun hc => ?_) (fun hc => ?_))
  refine cf_rel (AdjOf_c hX1 hX e119 kab.2 p1 (by omega) r1 (by omega) (by omega)) (fun q => by cases q) ?_
  rintro v4 H4 ⟨xl, ev, pz, mz⟩
  simp only at ev pz mz
  subst ev
  obtain ⟨G4, hG4⟩ : ∃ G, G = H4 ++ [(⟨38, [xl]⟩ : Blk)] := ⟨_, rfl⟩
  have sG4 := hG4.symm
  have lz := pz.len
  have P4 := mat_put (ro := ro) mz (by omega)
  rw [sG4] at P4
  have kl : MK G4 H4.length xl r p (fun i j => cjB (dotB (fun t => intB (za j t)) (fun t => intB (zb t i)) q)) := by rw [hG4]; exact MK.new mz
  have c4 : Pfx G3 G4 := by rw [hG4]; exact pz.snoc
  have n4 := c4.len
  have lG4 : G4.length = H4.length + 1 := by rw [hG4]; simp
  replace ka := ka.pre c4
  replace kb := kb.pre c4
  replace kab := kab.pre c4
  replace hV := hV.pre c4
  replace hU := hU.pre c4
  have o4 : ro ≤ G4.length := by omega
  clear mz pz lz
  (repeat' first | simp -dsimp (disch := first | omega | assumption | (refine OkS.sto ?_ (by omega); first | assumption | (refine OkS.sto ?_ (by omega); first | assumption | (refine OkS.sto ?_ (by omega); first | assumption | (refine OkS.sto ?_ (by omega); first | assumption | (refine OkS.sto ?_ (by omega); first | assumption | (refine OkS.sto ?_ (by omega); first | assumption)))))) | exact Pfx.refl _ | (apply Pfx.snoc; repeat (first | exact Pfx.refl _ | assumption | apply Pfx.snoc)) | with_unfolding_all exact of_eq_true (eq_true rfl) | (simp only [List.length_append, List.length_cons, List.length_nil]; omega)) only [↓gpre0, ↓wpre1, ↓reduceIte, Int.reduceToNat, Nat.reduceAdd, Nat.reduceMul, Nat.reduceEqDiff, wpost0, wpost1, wpost2, wpost3, wpost4, ite_self, ite_true, ite_false, if_true, if_false, bin_add, tze38, xst38, xld38, un_not, blt_real, bin_flss, blt_imag, bin_fneq, xlen44, bin_neq, xfad38_0, xld36, xlen36, bin_lss, xiad36, xld44, xiad44, xld46, bin_cneq, fr4, wrap_int, wrap_u8, iteP_yes, iteP_no, sG4, P4, ka.ld] | refine iteP_two (fun hc hd => ?_) (fun hc hd => ?_) | refine iteP_intro (fun hc => ?_) (fun hc => ?_))
  refine cf_rel (AdjOf_c hX1 hX e119 ka.2 p1 (by omega) q1 (by omega) (by omega)) (fun q => by cases q) ?_
  rintro v5 H5 ⟨xah, ev, pz, mz⟩
  simp only at ev pz mz
  subst ev
  obtain ⟨G5, hG5⟩ : ∃ G, G = H5 ++ [(⟨38, [xah]⟩ : Blk)] := ⟨_, rfl⟩
  have sG5 := hG5.symm
  have lz := pz.len
  have P5 := mat_put (ro := ro) mz (by omega)
  rw [sG5] at P5
  have kah : MK G5 H5.length xah q p (fun i j => cjB (intB (za j i))) := by rw [hG5]; exact MK.new mz
  have c5 : Pfx G4 G5 := by rw [hG5]; exact pz.snoc
  have n5 := c5.len
  have lG5 : G5.length = H5.length + 1 := by rw [hG5]; simp
  replace ka := ka.pre c5
  replace kb := kb.pre c5
  replace kab := kab.pre c5
  replace kl := kl.pre c5
  replace hV := hV.pre c5
  replace hU := hU.pre c5
  have o5 : ro ≤ G5.length := by omega
  clear mz pz lz
  (repeat' first | simp -dsimp (disch := first | omega | assumption | (refine OkS.sto ?_ (by omega); first | assumption | (refine OkS.sto ?_ (by omega); first | assumption | (refine OkS.sto ?_ (by omega); first | assumption | (refine OkS.sto ?_ (by omega); first | assumption | (refine OkS.sto ?_ (by omega); first | assumption | (refine OkS.sto ?_ (by omega); first | assumption)))))) | exact Pfx.refl _ | (apply Pfx.snoc; repeat (first | exact Pfx.refl _ | assumption | apply Pfx.snoc)) | with_unfolding_all exact of_eq_true (eq_true rfl) | (simp only [List.length_append, List.length_cons, List.length_nil]; omega)) only [↓gpre0, ↓wpre1, ↓reduceIte, Int.reduceToNat, Nat.reduceAdd, Nat.reduceMul, Nat.reduceEqDiff, wpost0, wpost1, wpost2, wpost3, wpost4, ite_self, ite_true, ite_false, if_true, if_false, bin_add, tze38, xst38, xld38, un_not, blt_real, bin_flss, blt_imag, bin_fneq, xlen44, bin_neq, xfad38_0, xld36, xlen36, bin_lss, xiad36, xld44, xiad44, xld46, bin_cneq, fr4, wrap_int, wrap_u8, iteP_yes, iteP_no, sG5, P5, kb.ld] | refine iteP_two (fun hc hd => ?_) (fun hc hd => ?_) | refine iteP_intro (fun hc => ?_) (fun hc => ?_))
  refine cf_rel (AdjOf_c hX1 hX e119 kb.2 q1 (by omega) r1 (by omega) (by omega)) (fun q => by cases q) ?_
  rintro v6 H6 ⟨xbh, ev, pz, mz⟩
  simp only at ev pz mz
  subst ev
  obtain ⟨G6, hG6⟩ : ∃ G, G = H6 ++ [(⟨38, [xbh]⟩ : Blk)] := ⟨_, rfl⟩
  have sG6 := hG6.symm
  have lz := pz.len
  have P6 := mat_put (ro := ro) mz (by omega)
  rw [sG6] at P6
  have kbh : MK G6 H6.length xbh r q (fun i j => cjB (intB (zb j i))) := by rw [hG6]; exact MK.new mz
  have c6 : Pfx G5 G6 := by rw [hG6]; exact pz.snoc
  have n6 := c6.len
  have lG6 : G6.length = H6.length + 1 := by rw [hG6]; simp
  replace ka := ka.pre c6
  replace kb := kb.pre c6
  replace kab := kab.pre c6
  replace kl := kl.pre c6
  replace kah := kah.pre c6
  replace hV := hV.pre c6
  replace hU := hU.pre c6
  have o6 : ro ≤ G6.length := by omega
  clear mz pz lz
  (repeat' first | simp -dsimp (disch := first | omega | assumption | (refine OkS.sto ?_ (by omega); first | assumption | (refine OkS.sto ?_ (by omega); first | assumption | (refine OkS.sto ?_ (by omega); first | assumption | (refine OkS.sto ?_ (by omega); first | assumption | (refine OkS.sto ?_ (by omega); first | assumption | (refine OkS.sto ?_ (by omega); first | assumption)))))) | exact Pfx.refl _ | (apply Pfx.snoc; repeat (first | exact Pfx.refl _ | assumption | apply Pfx.snoc)) | with_unfolding_all exact of_eq_true (eq_true rfl) | (simp only [List.length_append, List.length_cons, List.length_nil]; omega)) only [↓gpre0, ↓wpre1, ↓reduceIte, Int.reduceToNat, Nat.reduceAdd, Nat.reduceMul, Nat.reduceEqDiff, wpost0, wpost1, wpost2, wpost3, wpost4, ite_self, ite_true, ite_false, if_true, if_false, bin_add, tze38, xst38, xld38, un_not, blt_real, bin_flss, blt_imag, bin_fneq, xlen44, bin_neq, xfad38_0, xld36, xlen36, bin_lss, xiad36, xld44, xiad44, xld46, bin_cneq, fr4, wrap_int, wrap_u8, iteP_yes, iteP_no, sG6, P6, kbh.ld, kah.ld] | refine iteP_two (fun hc hd => ?_) (fun hc hd => ?_) | refine iteP_intro (fun hc => ?_) (fun hc => ?_))
  refine cf_rel (Mul_c xn_M0 hX1 e116 e24 kbh.2 kah.2 r1 (by omega) q1 (by omega) p1 (by omega) (by omega) (fun i t j _ _ _ => okM_of (cjB_ok (intB4 (hzb t i))) (cjB_ok (intB4 (hza j t))) (ZC.le_conj (hzb t i)) (ZC.le_conj (hza j t)) (by decide))) (fun q => by cases q) ?_
  rintro v7 H7 ⟨xr, ev, pz, mz⟩
  simp only at ev pz mz
  subst ev
  obtain ⟨G7, hG7⟩ : ∃ G, G = H7 ++ [(⟨38, [xr]⟩ : Blk)] := ⟨_, rfl⟩
  have sG7 := hG7.symm
  have lz := pz.len
  have P7 := mat_put (ro := ro) mz (by omega)
  rw [sG7] at P7
  have kr : MK G7 H7.length xr r p (fun i j => dotB (fun t => cjB (intB (zb t i))) (fun t => cjB (intB (za j t))) q) := by rw [hG7]; exact MK.new mz
  have c7 : Pfx G6 G7 := by rw [hG7]; exact pz.snoc
  have n7 := c7.len
  have lG7 : G7.length = H7.length + 1 := by rw [hG7]; simp
  replace ka := ka.pre c7
  replace kb := kb.pre c7
  replace kab := kab.pre c7
  replace kl := kl.pre c7
  replace kah := kah.pre c7
  replace kbh := kbh.pre c7
  replace hV := hV.pre c7
  replace hU := hU.pre c7
  have o7 : ro ≤ G7.length := by omega
  clear mz pz lz
  (repeat' first | simp -dsimp (disch := first | omega | assumption | (refine OkS.sto ?_ (by omega); first | assumption | (refine OkS.sto ?_ (by omega); first | assumption | (refine OkS.sto ?_ (by omega); first | assumption | (refine OkS.sto ?_ (by omega); first | assumption | (refine OkS.sto ?_ (by omega); first | assumption | (refine OkS.sto ?_ (by omega); first | assumption)))))) | exact Pfx.refl _ | (apply Pfx.snoc; repeat (first | exact Pfx.refl _ | assumption | apply Pfx.snoc)) | with_unfolding_all exact of_eq_true (eq_true rfl) | (simp only [List.length_append, List.length_cons, List.length_nil]; omega)) only [↓gpre0, ↓wpre1, ↓reduceIte, Int.reduceToNat, Nat.reduceAdd, Nat.reduceMul, Nat.reduceEqDiff, wpost0, wpost1, wpost2, wpost3, wpost4, ite_self, ite_true, ite_false, if_true, if_false, bin_add, tze38, xst38, xld38, un_not, blt_real, bin_flss, blt_imag, bin_fneq, xlen44, bin_neq, xfad38_0, xld36, xlen36, bin_lss, xiad36, xld44, xiad44, xld46, bin_cneq, fr4, wrap_int, wrap_u8, iteP_yes, iteP_no, sG7, P7, wq] | refine iteP_two (fun hc hd => ?_) (fun hc hd => ?_) | refine iteP_intro (fun hc => ?_) (fun hc => ?_))
  refine cf_rel (Unit_c hX q1 (by omega) (by omega)) (fun q => by cases q) ?_
  rintro v8 H8 ⟨xu, ev, pz, mz⟩
  simp only at ev pz mz
  subst ev
  obtain ⟨G8, hG8⟩ : ∃ G, G = H8 ++ [(⟨38, [xu]⟩ : Blk)] := ⟨_, rfl⟩
  have sG8 := hG8.symm
  have lz := pz.len
  have P8 := mat_put (ro := ro) mz (by omega)
  rw [sG8] at P8
  have ku : MK G8 H8.length xu q q unitB := by rw [hG8]; exact MK.new mz
  have c8 : Pfx G7 G8 := by rw [hG8]; exact pz.snoc
  have n8 := c8.len
  have lG8 : G8.length = H8.length + 1 := by rw [hG8]; simp
  replace ka := ka.pre c8
  replace kb := kb.pre c8
  replace kab := kab.pre c8
  replace kl := kl.pre c8
  replace kah := kah.pre c8
  replace kbh := kbh.pre c8
  replace kr := kr.pre c8
  replace hV := hV.pre c8
  replace hU := hU.pre c8
  have o8 : ro ≤ G8.length := by omega
  clear mz pz lz
  (repeat' first | simp -dsimp (disch := first | omega | assumption | (refine OkS.sto ?_ (by omega); first | assumption | (refine OkS.sto ?_ (by omega); first | assumption | (refine OkS.sto ?_ (by omega); first | assumption | (refine OkS.sto ?_ (by omega); first | assumption | (refine OkS.sto ?_ (by omega); first | assumption | (refine OkS.sto ?_ (by omega); first | assumption)))))) | exact Pfx.refl _ | (apply Pfx.snoc; repeat (first | exact Pfx.refl _ | assumption | apply Pfx.snoc)) | with_unfolding_all exact of_eq_true (eq_true rfl) | (simp only [List.length_append, List.length_cons, List.length_nil]; omega)) only [↓gpre0, ↓wpre1, ↓reduceIte, Int.reduceToNat, Nat.reduceAdd, Nat.reduceMul, Nat.reduceEqDiff, wpost0, wpost1, wpost2, wpost3, wpost4, ite_self, ite_true, ite_false, if_true, if_false, bin_add, tze38, xst38, xld38, un_not, blt_real, bin_flss, blt_imag, bin_fneq, xlen44, bin_neq, xfad38_0, xld36, xlen36, bin_lss, xiad36, xld44, xiad44, xld46, bin_cneq, fr4, wrap_int, wrap_u8, iteP_yes, iteP_no, sG8, P8, ka.ld, ku.ld] | refine iteP_two (fun hc hd => ?_) (fun hc hd => ?_) | refine iteP_intro (fun hc => ?_) (fun hc => ?_))
  refine cf_rel (Mul_c xn_M0 hX1 e116 e24 ka.2 ku.2 p1 (by omega) q1 (by omega) q1 (by omega) (by omega) (fun i t j _ _ _ => okM_of (intB4 (hza i t)) (unitB_ok t j) (hza i t) (unitZ_le t j) (by decide))) (fun q => by cases q) ?_
  rintro v9 H9 ⟨xs, ev, pz, mz⟩
  simp only at ev pz mz
  subst ev
  obtain ⟨G9, hG9⟩ : ∃ G, G = H9 ++ [(⟨38, [xs]⟩ : Blk)] := ⟨_, rfl⟩
  have sG9 := hG9.symm
  have lz := pz.len
  have P9 := mat_put (ro := ro) mz (by omega)
  rw [sG9] at P9
  have ks : MK G9 H9.length xs p q (fun i j => dotB (fun t => intB (za i t)) (fun t => unitB t j) q) := by rw [hG9]; exact MK.new mz
  have c9 : Pfx G8 G9 := by rw [hG9]; exact pz.snoc
  have n9 := c9.len
  have lG9 : G9.length = H9.length + 1 := by rw [hG9]; simp
  replace ka := ka.pre c9
  replace kb := kb.pre c9
  replace kab := kab.pre c9
  replace kl := kl.pre c9
  replace kah := kah.pre c9
  replace kbh := kbh.pre c9
  replace kr := kr.pre c9
  replace ku := ku.pre c9
  replace hV := hV.pre c9
  replace hU := hU.pre c9
  have o9 : ro ≤ G9.length := by omega
  clear mz pz lz
  (repeat' first | simp -dsimp (disch := first | omega | assumption | (refine OkS.sto ?_ (by omega); first | assumption | (refine OkS.sto ?_ (by omega); first | assumption | (refine OkS.sto ?_ (by omega); first | assumption | (refine OkS.sto ?_ (by omega); first | assumption | (refine OkS.sto ?_ (by omega); first | assumption | (refine OkS.sto ?_ (by omega); first | assumption)))))) | exact Pfx.refl _ | (apply Pfx.snoc; repeat (first | exact Pfx.refl _ | assumption | apply Pfx.snoc)) | with_unfolding_all exact of_eq_true (eq_true rfl) | (simp only [List.length_append, List.length_cons, List.length_nil]; omega)) only [↓gpre0, ↓wpre1, ↓reduceIte, Int.reduceToNat, Nat.reduceAdd, Nat.reduceMul, Nat.reduceEqDiff, wpost0, wpost1, wpost2, wpost3, wpost4, ite_self, ite_true, ite_false, if_true, if_false, bin_add, tze38, xst38, xld38, un_not, blt_real, bin_flss, blt_imag, bin_fneq, xlen44, bin_neq, xfad38_0, xld36, xlen36, bin_lss, xiad36, xld44, xiad44, xld46, bin_cneq, fr4, wrap_int, wrap_u8, iteP_yes, iteP_no, sG9, P9, kah.ld] | refine iteP_two (fun hc hd => ?_) (fun hc hd => ?_) | refine iteP_intro (fun hc => ?_) (fun hc => ?_))
  refine cf_rel (AdjOf_c hX1 hX e119 kah.2 q1 (by omega) p1 (by omega) (by omega)) (fun q => by cases q) ?_
  rintro v10 H10 ⟨xt, ev, pz, mz⟩
  simp only at ev pz mz
  subst ev
  obtain ⟨G10, hG10⟩ : ∃ G, G = H10 ++ [(⟨38, [xt]⟩ : Blk)] := ⟨_, rfl⟩
  have sG10 := hG10.symm
  have lz := pz.len
  have P10 := mat_put (ro := ro) mz (by omega)
  rw [sG10] at P10
  have kt : MK G10 H10.length xt p q (fun i j => cjB (cjB (intB (za i j)))) := by rw [hG10]; exact MK.new mz
  have c10 : Pfx G9 G10 := by rw [hG10]; exact pz.snoc
  have n10 := c10.len
  have lG10 : G10.length = H10.length + 1 := by rw [hG10]; simp
  replace ka := ka.pre c10
  replace kb := kb.pre c10
  replace kab := kab.pre c10
  replace kl := kl.pre c10
  replace kah := kah.pre c10
  replace kbh := kbh.pre c10
  replace kr := kr.pre c10
  replace ku := ku.pre c10
  replace ks := ks.pre c10
  replace hV := hV.pre c10
  replace hU := hU.pre c10
  have o10 : ro ≤ G10.length := by omega
  clear mz pz lz
  (repeat' first | simp -dsimp (disch := first | omega | assumption | (refine OkS.sto ?_ (by omega); first | assumption | (refine OkS.sto ?_ (by omega); first | assumption | (refine OkS.sto ?_ (by omega); first | assumption | (refine OkS.sto ?_ (by omega); first | assumption | (refine OkS.sto ?_ (by omega); first | assumption | (refine OkS.sto ?_ (by omega); first | assumption)))))) | exact Pfx.refl _ | (apply Pfx.snoc; repeat (first | exact Pfx.refl _ | assumption | apply Pfx.snoc)) | with_unfolding_all exact of_eq_true (eq_true rfl) | (simp only [List.length_append, List.length_cons, List.length_nil]; omega)) only [↓gpre0, ↓wpre1, ↓reduceIte, Int.reduceToNat, Nat.reduceAdd, Nat.reduceMul, Nat.reduceEqDiff, wpost0, wpost1, wpost2, wpost3, wpost4, ite_self, ite_true, ite_false, if_true, if_false, bin_add, tze38, xst38, xld38, un_not, blt_real, bin_flss, blt_imag, bin_fneq, xlen44, bin_neq, xfad38_0, xld36, xlen36, bin_lss, xiad36, xld44, xiad44, xld46, bin_cneq, fr4, wrap_int, wrap_u8, iteP_yes, iteP_no, sG10, P10, ka.ld, kah.ld] | refine iteP_two (fun hc hd => ?_) (fun hc hd => ?_) | refine iteP_intro (fun hc => ?_) (fun hc => ?_))
  refine cf_rel (Mul_c xn_M0 hX1 e116 e24 ka.2 kah.2 p1 (by omega) q1 (by omega) p1 (by omega) (by omega) (fun i t j _ _ _ => okM_of (intB4 (hza i t)) (cjB_ok (intB4 (hza j t))) (hza i t) (ZC.le_conj (hza j t)) (by decide))) (fun q => by cases q) ?_
  rintro v11 H11 ⟨xq, ev, pz, mz⟩
  simp only at ev pz mz
  subst ev
  obtain ⟨G11, hG11⟩ : ∃ G, G = H11 ++ [(⟨38, [xq]⟩ : Blk)] := ⟨_, rfl⟩
  have sG11 := hG11.symm
  have lz := pz.len
  have P11 := mat_put (ro := ro) mz (by omega)
  rw [sG11] at P11
  have kq : MK G11 H11.length xq p p (fun i j => dotB (fun t => intB (za i t)) (fun t => cjB (intB (za j t))) q) := by rw [hG11]; exact MK.new mz
  have c11 : Pfx G10 G11 := by rw [hG11]; exact pz.snoc
  have n11 := c11.len
  have lG11 : G11.length = H11.length + 1 := by rw [hG11]; simp
  replace ka := ka.pre c11
  replace kb := kb.pre c11
  replace kab := kab.pre c11
  replace kl := kl.pre c11
  replace kah := kah.pre c11
  replace kbh := kbh.pre c11
  replace kr := kr.pre c11
  replace ku := ku.pre c11
  replace ks := ks.pre c11
  replace kt := kt.pre c11
  replace hV := hV.pre c11
  replace hU := hU.pre c11
  have o11 : ro ≤ G11.length := by omega
  clear mz pz lz
  (repeat' first | simp -dsimp (disch := first | omega | assumption | (refine OkS.sto ?_ (by omega); first | assumption | (refine OkS.sto ?_ (by omega); first | assumption | (refine OkS.sto ?_ (by omega); first | assumption | (refine OkS.sto ?_ (by omega); first | assumption | (refine OkS.sto ?_ (by omega); first | assumption | (refine OkS.sto ?_ (by omega); first | assumption)))))) | exact Pfx.refl _ | (apply Pfx.snoc; repeat (first | exact Pfx.refl _ | assumption | apply Pfx.snoc)) | with_unfolding_all exact of_eq_true (eq_true rfl) | (simp only [List.length_append, List.length_cons, List.length_nil]; omega)) only [↓gpre0, ↓wpre1, ↓reduceIte, Int.reduceToNat, Nat.reduceAdd, Nat.reduceMul, Nat.reduceEqDiff, wpost0, wpost1, wpost2, wpost3, wpost4, ite_self, ite_true, ite_false, if_true, if_false, bin_add, tze38, xst38, xld38, un_not, blt_real, bin_flss, blt_imag, bin_fneq, xlen44, bin_neq, xfad38_0, xld36, xlen36, bin_lss, xiad36, xld44, xiad44, xld46, bin_cneq, fr4, wrap_int, wrap_u8, iteP_yes, iteP_no, sG11, P11, wp] | refine iteP_two (fun hc hd => ?_) (fun hc hd => ?_) | refine iteP_intro (fun hc => ?_) (fun hc => ?_))
  have sq_ok : ∀ i j, cN 149 (ZC.sum q fun t => (za i t).mul (za j t).conj) (dotB (fun t => intB (za i t)) (fun t => cjB (intB (za j t))) q) := fun i j => dot_ok (k := 4) (m := 4) (fun t _ => intB4 (hza i t)) (fun t _ => cjB_ok (intB4 (hza j t))) (fun t _ => hza i t) (fun t _ => ZC.le_conj (hza j t)) (by have : q * (2 * (4 * 4)) ≤ 4 * (2 * (4 * 4)) := Nat.mul_le_mul_right _ q4; omega)
  have sq_le : ∀ i j, (ZC.sum q fun t => (za i t).mul (za j t).conj).le 128 := fun i j => (ZC.le_sum (k := 32) fun t _ => ZC.le_mul (hza i t) (ZC.le_conj (hza j t))).mono (by have : q * 32 ≤ 4 * 32 := Nat.mul_le_mul_right _ q4; omega)
  refine cf_rel (Whole_c hX (n := p) (k := 5) hU (by omega) (by omega) (by omega) (by omega) (by omega)) (fun q => by cases q) ?_
  rintro xx GX ⟨zx, hzx, cX, kx⟩
  have lX := cX.len
  replace ka := ka.pre cX
  replace kb := kb.pre cX
  replace kab := kab.pre cX
  replace kl := kl.pre cX
  replace kah := kah.pre cX
  replace kbh := kbh.pre cX
  replace kr := kr.pre cX
  replace ku := ku.pre cX
  replace ks := ks.pre cX
  replace kt := kt.pre cX
  replace kq := kq.pre cX
  replace hV := hV.pre cX
  replace hU := hU.pre cX
  have x_ok : ∀ i, cN 149 (zx i) (intB (zx i)) := fun i => intB_ok (hzx i) (by decide)
  have sx_ok : ∀ i, cN 149 (ZC.sum p fun j => (ZC.sum q fun t => (za i t).mul (za j t).conj).mul (zx j)) (dotB (fun j => dotB (fun t => intB (za i t)) (fun t => cjB (intB (za j t))) q) (fun j => intB (zx j)) p) := fun i => dot_ok (k := 128) (m := 5) (fun j _ => sq_ok i j) (fun j _ => x_ok j) (fun j _ => sq_le i j) (fun j _ => hzx j) (by have : p * (2 * (128 * 5)) ≤ 4 * (2 * (128 * 5)) := Nat.mul_le_mul_right _ p4; omega)
  have sx_le : ∀ i, (ZC.sum p fun j => (ZC.sum q fun t => (za i t).mul (za j t).conj).mul (zx j)).le 5120 := fun i => (ZC.le_sum (k := 1280) fun j _ => ZC.le_mul (sq_le i j) (hzx j)).mono (by have : p * 1280 ≤ 4 * 1280 := Nat.mul_le_mul_right _ p4; omega)
  have form := Form_r (ro := ro) hX kq.2 kx p1 (by omega) (by omega) (fun i t _ _ => okM_of (sq_ok i t) (x_ok t) (sq_le i t) (hzx t) (by decide)) (fun i _ => okM_of (cjB_ok (x_ok i)) (sx_ok i) (ZC.le_conj (hzx i)) (sx_le i) (by decide))
  have f_ok := dot_ok (q := p) (k := 5) (m := 5120) (fun i _ => cjB_ok (x_ok i)) (fun i _ => sx_ok i) (fun i _ => ZC.le_conj (hzx i)) (fun i _ => sx_le i) (by have : p * (2 * (5 * 5120)) ≤ 4 * (2 * (5 * 5120)) := Nat.mul_le_mul_right _ p4; omega)
  have f_pos := ZC.form_ok p q za zx
  generalize dotB (fun i => cjB (intB (zx i))) (fun i => dotB (fun j => dotB (fun t => intB (za i t)) (fun t => cjB (intB (za j t))) q) (fun j => intB (zx j)) p) p = fo at form f_ok
  have f_re : fcmp .lss .f32 fo.a 0 = false := by
    rw [cmp_lt f_ok.1 zero_fin]
    refine decide_eq_false ?_
    have := Int.mul_nonneg f_pos.1 (Int.le_of_lt (pow_pos 149))
    omega
  have f_im : fcmp .eql .f32 fo.b 0 = true := by
    rw [cmp_eq f_ok.2 zero_fin, f_pos.2]
    simp
  (repeat' first | simp -dsimp (disch := first | omega | assumption | (refine OkS.sto ?_ (by omega); first | assumption | (refine OkS.sto ?_ (by omega); first | assumption | (refine OkS.sto ?_ (by omega); first | assumption | (refine OkS.sto ?_ (by omega); first | assumption | (refine OkS.sto ?_ (by omega); first | assumption | (refine OkS.sto ?_ (by omega); first | assumption)))))) | exact Pfx.refl _ | (apply Pfx.snoc; repeat (first | exact Pfx.refl _ | assumption | apply Pfx.snoc)) | with_unfolding_all exact of_eq_true (eq_true rfl) | (simp only [List.length_append, List.length_cons, List.length_nil]; omega)) only [↓gpre0, ↓wpre1, ↓reduceIte, Int.reduceToNat, Nat.reduceAdd, Nat.reduceMul, Nat.reduceEqDiff, wpost0, wpost1, wpost2, wpost3, wpost4, ite_self, ite_true, ite_false, if_true, if_false, bin_add, tze38, xst38, xld38, un_not, blt_real, bin_flss, blt_imag, bin_fneq, xlen44, bin_neq, xfad38_0, xld36, xlen36, bin_lss, xiad36, xld44, xiad44, xld46, bin_cneq, fr4, wrap_int, wrap_u8, iteP_yes, iteP_no, kq.ld, form, ka.ld] | refine iteP_two (fun hc hd => ?_) (fun hc hd => ?_) | refine iteP_intro (fun hc => ?_) (fun hc => ?_))
  refine cf_rel (AddM_c hX1 e29 ka.2 ka.2 p1 (by omega) q1 (by omega) (by omega)) (fun q => by cases q) ?_
  rintro v12 H12 ⟨xsu, ev, pz, mz⟩
  simp only at ev pz mz
  subst ev
  obtain ⟨G12, hG12⟩ : ∃ G, G = H12 ++ [(⟨38, [xsu]⟩ : Blk)] := ⟨_, rfl⟩
  have sG12 := hG12.symm
  have lz := pz.len
  have P12 := mat_put (ro := ro) mz (by omega)
  rw [sG12] at P12
  have ksu : MK G12 H12.length xsu p q (fun i j => addB (intB (za i j)) (intB (za i j))) := by rw [hG12]; exact MK.new mz
  have c12 : Pfx GX G12 := by rw [hG12]; exact pz.snoc
  have n12 := c12.len
  have lG12 : G12.length = H12.length + 1 := by rw [hG12]; simp
  replace ka := ka.pre c12
  replace kb := kb.pre c12
  replace kab := kab.pre c12
  replace kl := kl.pre c12
  replace kah := kah.pre c12
  replace kbh := kbh.pre c12
  replace kr := kr.pre c12
  replace ku := ku.pre c12
  replace ks := ks.pre c12
  replace kt := kt.pre c12
  replace kq := kq.pre c12
  replace hV := hV.pre c12
  replace hU := hU.pre c12
  have o12 : ro ≤ G12.length := by omega
  clear mz pz lz
  (repeat' first | simp -dsimp (disch := first | omega | assumption | (refine OkS.sto ?_ (by omega); first | assumption | (refine OkS.sto ?_ (by omega); first | assumption | (refine OkS.sto ?_ (by omega); first | assumption | (refine OkS.sto ?_ (by omega); first | assumption | (refine OkS.sto ?_ (by omega); first | assumption | (refine OkS.sto ?_ (by omega); first | assumption)))))) | exact Pfx.refl _ | (apply Pfx.snoc; repeat (first | exact Pfx.refl _ | assumption | apply Pfx.snoc)) | with_unfolding_all exact of_eq_true (eq_true rfl) | (simp only [List.length_append, List.length_cons, List.length_nil]; omega)) only [↓gpre0, ↓wpre1, ↓reduceIte, Int.reduceToNat, Nat.reduceAdd, Nat.reduceMul, Nat.reduceEqDiff, wpost0, wpost1, wpost2, wpost3, wpost4, ite_self, ite_true, ite_false, if_true, if_false, bin_add, tze38, xst38, xld38, un_not, blt_real, bin_flss, blt_imag, bin_fneq, xlen44, bin_neq, xfad38_0, xld36, xlen36, bin_lss, xiad36, xld44, xiad44, xld46, bin_cneq, fr4, wrap_int, wrap_u8, iteP_yes, iteP_no, sG12, P12, wq] | refine iteP_two (fun hc hd => ?_) (fun hc hd => ?_) | refine iteP_intro (fun hc => ?_) (fun hc => ?_))
  refine WG_grow (c := 3) (by kernel_rfl) rfl rfl ?_
  (repeat' first | simp -dsimp (disch := first | omega | assumption | (refine OkS.sto ?_ (by omega); first | assumption | (refine OkS.sto ?_ (by omega); first | assumption | (refine OkS.sto ?_ (by omega); first | assumption | (refine OkS.sto ?_ (by omega); first | assumption | (refine OkS.sto ?_ (by omega); first | assumption | (refine OkS.sto ?_ (by omega); first | assumption)))))) | exact Pfx.refl _ | (apply Pfx.snoc; repeat (first | exact Pfx.refl _ | assumption | apply Pfx.snoc)) | with_unfolding_all exact of_eq_true (eq_true rfl) | (simp only [List.length_append, List.length_cons, List.length_nil]; omega)) only [↓gpre0, ↓wpre1, ↓reduceIte, Int.reduceToNat, Nat.reduceAdd, Nat.reduceMul, Nat.reduceEqDiff, wpost0, wpost1, wpost2, wpost3, wpost4, ite_self, ite_true, ite_false, if_true, if_false, bin_add, tze38, xst38, xld38, un_not, blt_real, bin_flss, blt_imag, bin_fneq, xlen44, bin_neq, xfad38_0, xld36, xlen36, bin_lss, xiad36, xld44, xiad44, xld46, bin_cneq, fr4, wrap_int, wrap_u8, iteP_yes, iteP_no, ka.ld, wq] | refine iteP_two (fun hc hd => ?_) (fun hc hd => ?_) | refine iteP_intro (fun hc => ?_) (fun hc => ?_))
  refine cf_rel (Whole_c hX (n := q) (k := 5) hV (by omega) (by omega) (by omega) (by omega) (by omega)) (fun q => by cases q) ?_
  rintro xv G20 ⟨zv, hzv, c20, kv⟩
  refine ⟨c20, ?_⟩
  have l20 := c20.len
  replace ka := ka.pre c20
  replace kb := kb.pre c20
  replace kab := kab.pre c20
  replace kl := kl.pre c20
  replace kah := kah.pre c20
  replace kbh := kbh.pre c20
  replace kr := kr.pre c20
  replace ku := ku.pre c20
  replace ks := ks.pre c20
  replace kt := kt.pre c20
  replace kq := kq.pre c20
  replace ksu := ksu.pre c20
  (repeat' first | simp -dsimp (disch := first | omega | assumption | (refine OkS.sto ?_ (by omega); first | assumption | (refine OkS.sto ?_ (by omega); first | assumption | (refine OkS.sto ?_ (by omega); first | assumption | (refine OkS.sto ?_ (by omega); first | assumption | (refine OkS.sto ?_ (by omega); first | assumption | (refine OkS.sto ?_ (by omega); first | assumption)))))) | exact Pfx.refl _ | (apply Pfx.snoc; repeat (first | exact Pfx.refl _ | assumption | apply Pfx.snoc)) | with_unfolding_all exact of_eq_true (eq_true rfl) | (simp only [List.length_append, List.length_cons, List.length_nil]; omega)) only [↓gpre0, ↓wpre1, ↓reduceIte, Int.reduceToNat, Nat.reduceAdd, Nat.reduceMul, Nat.reduceEqDiff, wpost0, wpost1, wpost2, wpost3, wpost4, ite_self, ite_true, ite_false, if_true, if_false, bin_add, tze38, xst38, xld38, un_not, blt_real, bin_flss, blt_imag, bin_fneq, xlen44, bin_neq, xfad38_0, xld36, xlen36, bin_lss, xiad36, xld44, xiad44, xld46, bin_cneq, fr4, wrap_int, wrap_u8, iteP_yes, iteP_no, wq] | refine iteP_two (fun hc hd => ?_) (fun hc hd => ?_) | refine iteP_intro (fun hc => ?_) (fun hc => ?_))
  refine cf_rel (MulVec_c hX ka.2 kv p1 (by omega) q1 (by omega) (by omega) (fun i t _ _ => okM_of (intB4 (hza i t)) (intB_ok (hzv t) (by decide)) (hza i t) (hzv t) (by decide))) (fun q => by cases q) ?_
  rintro _ G21 ⟨xy, rfl, c21, ky⟩
  have l21 := c21.len
  replace ka := ka.pre c21
  replace kb := kb.pre c21
  replace kab := kab.pre c21
  replace kl := kl.pre c21
  replace kah := kah.pre c21
  replace kbh := kbh.pre c21
  replace kr := kr.pre c21
  replace ku := ku.pre c21
  replace ks := ks.pre c21
  replace kt := kt.pre c21
  replace kq := kq.pre c21
  replace ksu := ksu.pre c21
  have tw : MatB 0 G21 xt p q (fun i j => intB (za i j)) := kt.2.congr fun i j _ _ => cj_cj (hza i j)
  have herm := Herm_r (ro := ro) hX kq.2 p1 (by omega) (fun i j _ _ => eqB_of (sq_ok i j) (by rw [herm_sum za i j]; exact cjB_ok (sq_ok j i)))
  have same := SameM_r (ro := ro) hX eB tw ka.2 p1 (by omega) q1 (by omega) (fun i j _ _ => okF_cN (intB4 (hza i j)))
  have valid := Valid_r (ro := ro) hX ka.2 p1 (by omega) q1 (by omega)
  obtain ⟨RL, hRL, rowL⟩ := id kl.2
  obtain ⟨RR, hRR, rowR⟩ := id kr.2
  obtain ⟨RS, hRS, rowS⟩ := id ks.2
  obtain ⟨RU, hRU, rowU⟩ := id ksu.2
  obtain ⟨RA, hRA, rowA⟩ := id ka.2
  have eqL : ∀ i j, eqB (cjB (dotB (fun t => intB (za j t)) (fun t => intB (zb t i)) q)) (dotB (fun t => cjB (intB (zb t i))) (fun t => cjB (intB (za j t))) q) = true := fun i j => eqB_of (cjB_ok (dot_ok (k := 4) (m := 4) (fun t _ => intB4 (hza j t)) (fun t _ => intB4 (hzb t i)) (fun t _ => hza j t) (fun t _ => hzb t i) (by have : q * (2 * (4 * 4)) ≤ 4 * (2 * (4 * 4)) := Nat.mul_le_mul_right _ q4; omega))) (by
    rw [adj_sum]
    exact dot_ok (k := 4) (m := 4) (fun t _ => cjB_ok (intB4 (hzb t i))) (fun t _ => cjB_ok (intB4 (hza j t))) (fun t _ => ZC.le_conj (hzb t i)) (fun t _ => ZC.le_conj (hza j t)) (by have : q * (2 * (4 * 4)) ≤ 4 * (2 * (4 * 4)) := Nat.mul_le_mul_right _ q4; omega))
  have eqS : ∀ i j, j < q → eqB (dotB (fun t => intB (za i t)) (fun t => unitB t j) q) (intB (za i j)) = true := fun i j hj => eqB_of (z := za i j) (by
    rw [← same_sum za (i := i) hj]
    exact dot_ok (k := 4) (m := 1) (fun t _ => intB4 (hza i t)) (fun t _ => unitB_ok t j) (fun t _ => hza i t) (fun t _ => unitZ_le t j) (by have : q * (2 * (4 * 1)) ≤ 4 * (2 * (4 * 1)) := Nat.mul_le_mul_right _ q4; omega)) (intB4 (hza i j))
  have eqU : ∀ i j, eqB (addB (intB (za i j)) (intB (za i j))) (scB (intB (za i j)) 1073741824) = true := fun i j => eqB_of (addB_ok (intB4 (hza i j)) (intB4 (hza i j)) (by decide) (hza i j) (hza i j) (by decide)) (twice_ok (intB4 (hza i j)) (hza i j))
  have pall : Pfx h G21 := (((((((((((((c1.trans c2).trans c3).trans c4).trans c5).trans c6).trans c7).trans c8).trans c9).trans c10).trans c11).trans cX).trans c12).trans c20).trans c21
  have ef : endH (.bool true) h G21 = h := endH_flat rfl pall
  have hfm : fcmp .eql .f32 fo.b 0 = true := f_im
  (repeat' first | simp -dsimp (disch := first | omega | assumption | (refine OkS.sto ?_ (by omega); first | assumption | (refine OkS.sto ?_ (by omega); first | assumption | (refine OkS.sto ?_ (by omega); first | assumption | (refine OkS.sto ?_ (by omega); first | assumption | (refine OkS.sto ?_ (by omega); first | assumption | (refine OkS.sto ?_ (by omega); first | assumption)))))) | exact Pfx.refl _ | (apply Pfx.snoc; repeat (first | exact Pfx.refl _ | assumption | apply Pfx.snoc)) | with_unfolding_all exact of_eq_true (eq_true rfl) | (simp only [List.length_append, List.length_cons, List.length_nil]; omega)) only [↓gpre0, ↓wpre1, ↓reduceIte, Int.reduceToNat, Nat.reduceAdd, Nat.reduceMul, Nat.reduceEqDiff, wpost0, wpost1, wpost2, wpost3, wpost4, ite_self, ite_true, ite_false, if_true, if_false, bin_add, tze38, xst38, xld38, un_not, blt_real, bin_flss, blt_imag, bin_fneq, xlen44, bin_neq, xfad38_0, xld36, xlen36, bin_lss, xiad36, xld44, xiad44, xld46, bin_cneq, fr4, wrap_int, wrap_u8, iteP_yes, iteP_no, List.append_eq, valid, herm, same, f_re, hfm, ky.len, ka.ld, kq.ld, kt.ld, kl.cell, hRL.len Try.underlying36, wp] | refine iteP_two (fun hc hd => ?_) (fun hc hd => ?_) | refine iteP_intro (fun hc => ?_) (fun hc => ?_))
  refine loopG_exit 0 (fun e h' => h' = G21 ∧ e 8 = .pointer (some ⟨H1.length, 0, none⟩) ∧ e 22 = .pointer (some ⟨H9.length, 0, none⟩) ∧ e 31 = .pointer (some ⟨H12.length, 0, none⟩)) ?_ ?_
  · refine loopG_rounds (fun mm e h' => ∃ i : Nat, mm = r - i ∧ i ≤ r ∧ h' = G21 ∧ e 8 = .pointer (some ⟨H1.length, 0, none⟩) ∧ e 12 = .pointer (some ⟨H4.length, 0, none⟩) ∧ e 18 = .pointer (some ⟨H7.length, 0, none⟩) ∧ e 22 = .pointer (some ⟨H9.length, 0, none⟩) ∧ e 31 = .pointer (some ⟨H12.length, 0, none⟩) ∧ e 211 = .int .i64 r ∧ e 212 = .int .i64 i) _ ⟨0, rfl, ?_⟩ ?_
    · simp only [updO_at, updO_not, entry_at, List.getD_cons_zero, List.getD_cons_succ, ↓reduceIte, Nat.reduceEqDiff, true_and, and_true]
      (repeat' (first | assumption | rfl | omega | refine And.intro ?_ ?_))
    · rintro mm e h' ⟨i, hmm, hle, rfl, g8, g12, g18, g22, g31, g211, g212⟩
      have hks : (i : Int) + 1 = ((i + 1 : Nat) : Int) := by omega
      by_cases hin : i < r
      · have lL := mat_ld hRL hin
        have lR := mat_ld hRR hin
        have rL : RowB 0 h' (vth RL i) p (fun j => cjB (dotB (fun t => intB (za j t)) (fun t => intB (zb t i)) q)) := rowL i hin
        have rR : RowB 0 h' (vth RR i) p (fun j => dotB (fun t => cjB (intB (zb t i))) (fun t => cjB (intB (za j t))) q) := rowR i hin
        (repeat' first | simp -dsimp (disch := first | omega | assumption | (refine OkS.sto ?_ (by omega); first | assumption | (refine OkS.sto ?_ (by omega); first | assumption | (refine OkS.sto ?_ (by omega); first | assumption | (refine OkS.sto ?_ (by omega); first | assumption | (refine OkS.sto ?_ (by omega); first | assumption | (refine OkS.sto ?_ (by omega); first | assumption)))))) | exact Pfx.refl _ | (apply Pfx.snoc; repeat (first | exact Pfx.refl _ | assumption | apply Pfx.snoc)) | with_unfolding_all exact of_eq_true (eq_true rfl) | (simp only [List.length_append, List.length_cons, List.length_nil]; omega)) only [↓gpre0, ↓wpre1, ↓reduceIte, Int.reduceToNat, Nat.reduceAdd, Nat.reduceMul, Nat.reduceEqDiff, wpost0, wpost1, wpost2, wpost3, wpost4, ite_self, ite_true, ite_false, if_true, if_false, bin_add, tze38, xst38, xld38, un_not, blt_real, bin_flss, blt_imag, bin_fneq, xlen44, bin_neq, xfad38_0, xld36, xlen36, bin_lss, xiad36, xld44, xiad44, xld46, bin_cneq, fr4, wrap_int, wrap_u8, iteP_yes, iteP_no, g8, g12, g18, g22, g31, g211, g212, kl.cell, hRL.iad Try.underlying36 tsz44, lL, rL.len] | refine iteP_two (fun hc hd => ?_) (fun hc hd => ?_) | refine iteP_intro (fun hc => ?_) (fun hc => ?_))
        refine loopG_exit 2 (fun e h2 => h2 = h' ∧ e 8 = .pointer (some ⟨H1.length, 0, none⟩) ∧ e 12 = .pointer (some ⟨H4.length, 0, none⟩) ∧ e 18 = .pointer (some ⟨H7.length, 0, none⟩) ∧ e 22 = .pointer (some ⟨H9.length, 0, none⟩) ∧ e 31 = .pointer (some ⟨H12.length, 0, none⟩) ∧ e 211 = .int .i64 r ∧ e 212 = .int .i64 i) ?_ ?_
        · refine loopG_rounds (fun mm e h2 => ∃ j : Nat, mm = p - j ∧ j ≤ p ∧ h2 = h' ∧ e 8 = .pointer (some ⟨H1.length, 0, none⟩) ∧ e 12 = .pointer (some ⟨H4.length, 0, none⟩) ∧ e 18 = .pointer (some ⟨H7.length, 0, none⟩) ∧ e 22 = .pointer (some ⟨H9.length, 0, none⟩) ∧ e 31 = .pointer (some ⟨H12.length, 0, none⟩) ∧ e 35 = .int .i64 i ∧ e 211 = .int .i64 r ∧ e 212 = .int .i64 i ∧ e 220 = .int .i64 p ∧ e 221 = .int .i64 j) _ ⟨0, rfl, ?_⟩ ?_
          · simp only [updO_at, updO_not, entry_at, List.getD_cons_zero, List.getD_cons_succ, ↓reduceIte, Nat.reduceEqDiff, true_and, and_true]
            (repeat' (first | assumption | rfl | omega | refine And.intro ?_ ?_))
          · rintro mm e h2 ⟨j, hmm, hjl, rfl, g8, g12, g18, g22, g31, g35, g211, g212, g220, g221⟩
            have hkj : (j : Int) + 1 = ((j + 1 : Nat) : Int) := by omega
            by_cases hjn : j < p
            · have hee := eqL i j
              unfold eqB at hee
              (repeat' first | simp -dsimp (disch := first | omega | assumption | (refine OkS.sto ?_ (by omega); first | assumption | (refine OkS.sto ?_ (by omega); first | assumption | (refine OkS.sto ?_ (by omega); first | assumption | (refine OkS.sto ?_ (by omega); first | assumption | (refine OkS.sto ?_ (by omega); first | assumption | (refine OkS.sto ?_ (by omega); first | assumption)))))) | exact Pfx.refl _ | (apply Pfx.snoc; repeat (first | exact Pfx.refl _ | assumption | apply Pfx.snoc)) | with_unfolding_all exact of_eq_true (eq_true rfl) | (simp only [List.length_append, List.length_cons, List.length_nil]; omega)) only [↓gpre0, ↓wpre1, ↓reduceIte, Int.reduceToNat, Nat.reduceAdd, Nat.reduceMul, Nat.reduceEqDiff, wpost0, wpost1, wpost2, wpost3, wpost4, ite_self, ite_true, ite_false, if_true, if_false, bin_add, tze38, xst38, xld38, un_not, blt_real, bin_flss, blt_imag, bin_fneq, xlen44, bin_neq, xfad38_0, xld36, xlen36, bin_lss, xiad36, xld44, xiad44, xld46, bin_cneq, fr4, wrap_int, wrap_u8, iteP_yes, iteP_no, g8, g12, g18, g22, g31, g35, g211, g212, g220, g221, kl.cell, kr.cell, hRL.iad Try.underlying36 tsz44, hRR.iad Try.underlying36 tsz44, lL, lR, rL.iad, rL.ld, rR.iad, rR.ld, hee] | refine iteP_two (fun hc hd => ?_) (fun hc hd => ?_) | refine iteP_intro (fun hc => ?_) (fun hc => ?_))
              refine ⟨p - (j + 1), by omega, j + 1, ?_⟩
              (repeat' (first | assumption | rfl | omega | (rw [hkj]) | refine And.intro ?_ ?_))
            · (repeat' first | simp -dsimp (disch := first | omega | assumption | (refine OkS.sto ?_ (by omega); first | assumption | (refine OkS.sto ?_ (by omega); first | assumption | (refine OkS.sto ?_ (by omega); first | assumption | (refine OkS.sto ?_ (by omega); first | assumption | (refine OkS.sto ?_ (by omega); first | assumption | (refine OkS.sto ?_ (by omega); first | assumption)))))) | exact Pfx.refl _ | (apply Pfx.snoc; repeat (first | exact Pfx.refl _ | assumption | apply Pfx.snoc)) | with_unfolding_all exact of_eq_true (eq_true rfl) | (simp only [List.length_append, List.length_cons, List.length_nil]; omega)) only [↓gpre0, ↓wpre1, ↓reduceIte, Int.reduceToNat, Nat.reduceAdd, Nat.reduceMul, Nat.reduceEqDiff, wpost0, wpost1, wpost2, wpost3, wpost4, ite_self, ite_true, ite_false, if_true, if_false, bin_add, tze38, xst38, xld38, un_not, blt_real, bin_flss, blt_imag, bin_fneq, xlen44, bin_neq, xfad38_0, xld36, xlen36, bin_lss, xiad36, xld44, xiad44, xld46, bin_cneq, fr4, wrap_int, wrap_u8, iteP_yes, iteP_no, g8, g12, g18, g22, g31, g35, g211, g212, g220, g221] | refine iteP_two (fun hc hd => ?_) (fun hc hd => ?_) | refine iteP_intro (fun hc => ?_) (fun hc => ?_))
              (repeat' (first | assumption | rfl | omega | refine And.intro ?_ ?_))
        · rintro e h2 ⟨rfl, g8, g12, g18, g22, g31, g211, g212⟩
          (repeat' first | simp -dsimp (disch := first | omega | assumption | (refine OkS.sto ?_ (by omega); first | assumption | (refine OkS.sto ?_ (by omega); first | assumption | (refine OkS.sto ?_ (by omega); first | assumption | (refine OkS.sto ?_ (by omega); first | assumption | (refine OkS.sto ?_ (by omega); first | assumption | (refine OkS.sto ?_ (by omega); first | assumption)))))) | exact Pfx.refl _ | (apply Pfx.snoc; repeat (first | exact Pfx.refl _ | assumption | apply Pfx.snoc)) | with_unfolding_all exact of_eq_true (eq_true rfl) | (simp only [List.length_append, List.length_cons, List.length_nil]; omega)) only [↓gpre0, ↓wpre1, ↓reduceIte, Int.reduceToNat, Nat.reduceAdd, Nat.reduceMul, Nat.reduceEqDiff, wpost0, wpost1, wpost2, wpost3, wpost4, ite_self, ite_true, ite_false, if_true, if_false, bin_add, tze38, xst38, xld38, un_not, blt_real, bin_flss, blt_imag, bin_fneq, xlen44, bin_neq, xfad38_0, xld36, xlen36, bin_lss, xiad36, xld44, xiad44, xld46, bin_cneq, fr4, wrap_int, wrap_u8, iteP_yes, iteP_no, g8, g12, g18, g22, g31, g211, g212] | refine iteP_two (fun hc hd => ?_) (fun hc hd => ?_) | refine iteP_intro (fun hc => ?_) (fun hc => ?_))
          refine ⟨r - (i + 1), by omega, i + 1, ?_⟩
          (repeat' (first | assumption | rfl | omega | (rw [hks]) | refine And.intro ?_ ?_))
      · (repeat' first | simp -dsimp (disch := first | omega | assumption | (refine OkS.sto ?_ (by omega); first | assumption | (refine OkS.sto ?_ (by omega); first | assumption | (refine OkS.sto ?_ (by omega); first | assumption | (refine OkS.sto ?_ (by omega); first | assumption | (refine OkS.sto ?_ (by omega); first | assumption | (refine OkS.sto ?_ (by omega); first | assumption)))))) | exact Pfx.refl _ | (apply Pfx.snoc; repeat (first | exact Pfx.refl _ | assumption | apply Pfx.snoc)) | with_unfolding_all exact of_eq_true (eq_true rfl) | (simp only [List.length_append, List.length_cons, List.length_nil]; omega)) only [↓gpre0, ↓wpre1, ↓reduceIte, Int.reduceToNat, Nat.reduceAdd, Nat.reduceMul, Nat.reduceEqDiff, wpost0, wpost1, wpost2, wpost3, wpost4, ite_self, ite_true, ite_false, if_true, if_false, bin_add, tze38, xst38, xld38, un_not, blt_real, bin_flss, blt_imag, bin_fneq, xlen44, bin_neq, xfad38_0, xld36, xlen36, bin_lss, xiad36, xld44, xiad44, xld46, bin_cneq, fr4, wrap_int, wrap_u8, iteP_yes, iteP_no, g8, g12, g18, g22, g31, g211, g212] | refine iteP_two (fun hc hd => ?_) (fun hc hd => ?_) | refine iteP_intro (fun hc => ?_) (fun hc => ?_))
        (repeat' (first | assumption | rfl | omega | refine And.intro ?_ ?_))
  · rintro e h' ⟨rfl, g8, g22, g31⟩
    (repeat' first | simp -dsimp (disch := first | omega | assumption | (refine OkS.sto ?_ (by omega); first | assumption | (refine OkS.sto ?_ (by omega); first | assumption | (refine OkS.sto ?_ (by omega); first | assumption | (refine OkS.sto ?_ (by omega); first | assumption | (refine OkS.sto ?_ (by omega); first | assumption | (refine OkS.sto ?_ (by omega); first | assumption)))))) | exact Pfx.refl _ | (apply Pfx.snoc; repeat (first | exact Pfx.refl _ | assumption | apply Pfx.snoc)) | with_unfolding_all exact of_eq_true (eq_true rfl) | (simp only [List.length_append, List.length_cons, List.length_nil]; omega)) only [↓gpre0, ↓wpre1, ↓reduceIte, Int.reduceToNat, Nat.reduceAdd, Nat.reduceMul, Nat.reduceEqDiff, wpost0, wpost1, wpost2, wpost3, wpost4, ite_self, ite_true, ite_false, if_true, if_false, bin_add, tze38, xst38, xld38, un_not, blt_real, bin_flss, blt_imag, bin_fneq, xlen44, bin_neq, xfad38_0, xld36, xlen36, bin_lss, xiad36, xld44, xiad44, xld46, bin_cneq, fr4, wrap_int, wrap_u8, iteP_yes, iteP_no, g8, g22, g31, ka.cell, hRA.len Try.underlying36] | refine iteP_two (fun hc hd => ?_) (fun hc hd => ?_) | refine iteP_intro (fun hc => ?_) (fun hc => ?_))
    refine loopG_rounds (fun mm e h2 => ∃ i : Nat, mm = p - i ∧ i ≤ p ∧ h2 = h' ∧ e 8 = .pointer (some ⟨H1.length, 0, none⟩) ∧ e 22 = .pointer (some ⟨H9.length, 0, none⟩) ∧ e 31 = .pointer (some ⟨H12.length, 0, none⟩) ∧ e 245 = .int .i64 p ∧ e 246 = .int .i64 i) _ ⟨0, rfl, ?_⟩ ?_
    · simp only [updO_at, updO_not, entry_at, List.getD_cons_zero, List.getD_cons_succ, ↓reduceIte, Nat.reduceEqDiff, true_and, and_true]
      (repeat' (first | assumption | rfl | omega | refine And.intro ?_ ?_))
    · rintro mm e h2 ⟨i, hmm, hle, rfl, g8, g22, g31, g245, g246⟩
      have hks : (i : Int) + 1 = ((i + 1 : Nat) : Int) := by omega
      by_cases hin : i < p
      · have lS := mat_ld hRS hin
        have lU := mat_ld hRU hin
        have lA := mat_ld hRA hin
        have rS : RowB 0 h2 (vth RS i) q (fun j => dotB (fun t => intB (za i t)) (fun t => unitB t j) q) := rowS i hin
        have rU : RowB 0 h2 (vth RU i) q (fun j => addB (intB (za i j)) (intB (za i j))) := rowU i hin
        have rA : RowB 0 h2 (vth RA i) q (fun j => intB (za i j)) := rowA i hin
        (repeat' first | simp -dsimp (disch := first | omega | assumption | (refine OkS.sto ?_ (by omega); first | assumption | (refine OkS.sto ?_ (by omega); first | assumption | (refine OkS.sto ?_ (by omega); first | assumption | (refine OkS.sto ?_ (by omega); first | assumption | (refine OkS.sto ?_ (by omega); first | assumption | (refine OkS.sto ?_ (by omega); first | assumption)))))) | exact Pfx.refl _ | (apply Pfx.snoc; repeat (first | exact Pfx.refl _ | assumption | apply Pfx.snoc)) | with_unfolding_all exact of_eq_true (eq_true rfl) | (simp only [List.length_append, List.length_cons, List.length_nil]; omega)) only [↓gpre0, ↓wpre1, ↓reduceIte, Int.reduceToNat, Nat.reduceAdd, Nat.reduceMul, Nat.reduceEqDiff, wpost0, wpost1, wpost2, wpost3, wpost4, ite_self, ite_true, ite_false, if_true, if_false, bin_add, tze38, xst38, xld38, un_not, blt_real, bin_flss, blt_imag, bin_fneq, xlen44, bin_neq, xfad38_0, xld36, xlen36, bin_lss, xiad36, xld44, xiad44, xld46, bin_cneq, fr4, wrap_int, wrap_u8, iteP_yes, iteP_no, g8, g22, g31, g245, g246, ka.cell, ks.cell, ksu.cell, hRA.iad Try.underlying36 tsz44, hRS.iad Try.underlying36 tsz44, hRU.iad Try.underlying36 tsz44, lS, lU, lA, rS.len, rU.len, rA.len] | refine iteP_two (fun hc hd => ?_) (fun hc hd => ?_) | refine iteP_intro (fun hc => ?_) (fun hc => ?_))
        refine loopG_exit 6 (fun e h3 => h3 = h2 ∧ e 8 = .pointer (some ⟨H1.length, 0, none⟩) ∧ e 22 = .pointer (some ⟨H9.length, 0, none⟩) ∧ e 31 = .pointer (some ⟨H12.length, 0, none⟩) ∧ e 245 = .int .i64 p ∧ e 246 = .int .i64 i) ?_ ?_
        · refine loopG_rounds (fun mm e h3 => ∃ j : Nat, mm = q - j ∧ j ≤ q ∧ h3 = h2 ∧ e 8 = .pointer (some ⟨H1.length, 0, none⟩) ∧ e 22 = .pointer (some ⟨H9.length, 0, none⟩) ∧ e 31 = .pointer (some ⟨H12.length, 0, none⟩) ∧ e 37 = .int .i64 i ∧ e 245 = .int .i64 p ∧ e 246 = .int .i64 i ∧ e 282 = .int .i64 q ∧ e 283 = .int .i64 j) _ ⟨0, rfl, ?_⟩ ?_
          · simp only [updO_at, updO_not, entry_at, List.getD_cons_zero, List.getD_cons_succ, ↓reduceIte, Nat.reduceEqDiff, true_and, and_true]
            (repeat' (first | assumption | rfl | omega | refine And.intro ?_ ?_))
          · rintro mm e h3 ⟨j, hmm, hjl, rfl, g8, g22, g31, g37, g245, g246, g282, g283⟩
            have hkj : (j : Int) + 1 = ((j + 1 : Nat) : Int) := by omega
            by_cases hjn : j < q
            · have heS := eqS i j hjn
              have heU := eqU i j
              unfold eqB at heS heU
              have hsc := scale_r (ro := ro) hX (intB (za i j)) 1073741824 h3
              (repeat' first | simp -dsimp (disch := first | omega | assumption | (refine OkS.sto ?_ (by omega); first | assumption | (refine OkS.sto ?_ (by omega); first | assumption | (refine OkS.sto ?_ (by omega); first | assumption | (refine OkS.sto ?_ (by omega); first | assumption | (refine OkS.sto ?_ (by omega); first | assumption | (refine OkS.sto ?_ (by omega); first | assumption)))))) | exact Pfx.refl _ | (apply Pfx.snoc; repeat (first | exact Pfx.refl _ | assumption | apply Pfx.snoc)) | with_unfolding_all exact of_eq_true (eq_true rfl) | (simp only [List.length_append, List.length_cons, List.length_nil]; omega)) only [↓gpre0, ↓wpre1, ↓reduceIte, Int.reduceToNat, Nat.reduceAdd, Nat.reduceMul, Nat.reduceEqDiff, wpost0, wpost1, wpost2, wpost3, wpost4, ite_self, ite_true, ite_false, if_true, if_false, bin_add, tze38, xst38, xld38, un_not, blt_real, bin_flss, blt_imag, bin_fneq, xlen44, bin_neq, xfad38_0, xld36, xlen36, bin_lss, xiad36, xld44, xiad44, xld46, bin_cneq, fr4, wrap_int, wrap_u8, iteP_yes, iteP_no, g282, g283] | refine iteP_two (fun hc hd => ?_) (fun hc hd => ?_) | refine iteP_intro (fun hc => ?_) (fun hc => ?_))
              refine WG_good (N := 325) (by kernel_rfl) ?_
              (repeat' first | simp -dsimp (disch := first | omega | assumption | (refine OkS.sto ?_ (by omega); first | assumption | (refine OkS.sto ?_ (by omega); first | assumption | (refine OkS.sto ?_ (by omega); first | assumption | (refine OkS.sto ?_ (by omega); first | assumption | (refine OkS.sto ?_ (by omega); first | assumption | (refine OkS.sto ?_ (by omega); first | assumption)))))) | exact Pfx.refl _ | (apply Pfx.snoc; repeat (first | exact Pfx.refl _ | assumption | apply Pfx.snoc)) | with_unfolding_all exact of_eq_true (eq_true rfl) | (simp only [List.length_append, List.length_cons, List.length_nil]; omega)) only [↓wpre0, ↓wpre1, ↓reduceIte, Int.reduceToNat, Nat.reduceAdd, Nat.reduceMul, Nat.reduceEqDiff, wpost0, wpost1, wpost2, wpost3, wpost4, ite_self, ite_true, ite_false, if_true, if_false, bin_add, tze38, xst38, xld38, un_not, blt_real, bin_flss, blt_imag, bin_fneq, xlen44, bin_neq, xfad38_0, xld36, xlen36, bin_lss, xiad36, xld44, xiad44, xld46, bin_cneq, fr4, wrap_int, wrap_u8, iteP_yes, iteP_no, g8, g22, g31, g37, g245, g246, g282, g283, ka.cell, ks.cell, ksu.cell, hRA.iad Try.underlying36 tsz44, hRS.iad Try.underlying36 tsz44, hRU.iad Try.underlying36 tsz44, lS, lU, lA, rS.iad, rS.ld, rU.iad, rU.ld, rA.iad, rA.ld, heS, heU, hsc] | refine iteP_two (fun hc hd => ?_) (fun hc hd => ?_) | refine iteP_intro (fun hc => ?_) (fun hc => ?_))
              (repeat' first | simp -dsimp (disch := first | omega | assumption | (refine OkS.sto ?_ (by omega); first | assumption | (refine OkS.sto ?_ (by omega); first | assumption | (refine OkS.sto ?_ (by omega); first | assumption | (refine OkS.sto ?_ (by omega); first | assumption | (refine OkS.sto ?_ (by omega); first | assumption | (refine OkS.sto ?_ (by omega); first | assumption)))))) | exact Pfx.refl _ | (apply Pfx.snoc; repeat (first | exact Pfx.refl _ | assumption | apply Pfx.snoc)) | with_unfolding_all exact of_eq_true (eq_true rfl) | (simp only [List.length_append, List.length_cons, List.length_nil]; omega)) only [↓gpre0, ↓wpre1, ↓reduceIte, Int.reduceToNat, Nat.reduceAdd, Nat.reduceMul, Nat.reduceEqDiff, wpost0, wpost1, wpost2, wpost3, wpost4, ite_self, ite_true, ite_false, if_true, if_false, bin_add, tze38, xst38, xld38, un_not, blt_real, bin_flss, blt_imag, bin_fneq, xlen44, bin_neq, xfad38_0, xld36, xlen36, bin_lss, xiad36, xld44, xiad44, xld46, bin_cneq, fr4, wrap_int, wrap_u8, iteP_yes, iteP_no, g8, g22, g31, g37, g245, g246, g282, g283] | refine iteP_two (fun hc hd => ?_) (fun hc hd => ?_) | refine iteP_intro (fun hc => ?_) (fun hc => ?_))
              refine ⟨q - (j + 1), by omega, j + 1, ?_⟩
              (repeat' (first | assumption | rfl | omega | (rw [hkj]) | refine And.intro ?_ ?_))
            · (repeat' first | simp -dsimp (disch := first | omega | assumption | (refine OkS.sto ?_ (by omega); first | assumption | (refine OkS.sto ?_ (by omega); first | assumption | (refine OkS.sto ?_ (by omega); first | assumption | (refine OkS.sto ?_ (by omega); first | assumption | (refine OkS.sto ?_ (by omega); first | assumption | (refine OkS.sto ?_ (by omega); first | assumption)))))) | exact Pfx.refl _ | (apply Pfx.snoc; repeat (first | exact Pfx.refl _ | assumption | apply Pfx.snoc)) | with_unfolding_all exact of_eq_true (eq_true rfl) | (simp only [List.length_append, List.length_cons, List.length_nil]; omega)) only [↓gpre0, ↓wpre1, ↓reduceIte, Int.reduceToNat, Nat.reduceAdd, Nat.reduceMul, Nat.reduceEqDiff, wpost0, wpost1, wpost2, wpost3, wpost4, ite_self, ite_true, ite_false, if_true, if_false, bin_add, tze38, xst38, xld38, un_not, blt_real, bin_flss, blt_imag, bin_fneq, xlen44, bin_neq, xfad38_0, xld36, xlen36, bin_lss, xiad36, xld44, xiad44, xld46, bin_cneq, fr4, wrap_int, wrap_u8, iteP_yes, iteP_no, g8, g22, g31, g37, g245, g246, g282, g283] | refine iteP_two (fun hc hd => ?_) (fun hc hd => ?_) | refine iteP_intro (fun hc => ?_) (fun hc => ?_))
              (repeat' (first | assumption | rfl | omega | refine And.intro ?_ ?_))
        · rintro e h3 ⟨rfl, g8, g22, g31, g245, g246⟩
          (repeat' first | simp -dsimp (disch := first | omega | assumption | (refine OkS.sto ?_ (by omega); first | assumption | (refine OkS.sto ?_ (by omega); first | assumption | (refine OkS.sto ?_ (by omega); first | assumption | (refine OkS.sto ?_ (by omega); first | assumption | (refine OkS.sto ?_ (by omega); first | assumption | (refine OkS.sto ?_ (by omega); first | assumption)))))) | exact Pfx.refl _ | (apply Pfx.snoc; repeat (first | exact Pfx.refl _ | assumption | apply Pfx.snoc)) | with_unfolding_all exact of_eq_true (eq_true rfl) | (simp only [List.length_append, List.length_cons, List.length_nil]; omega)) only [↓gpre0, ↓wpre1, ↓reduceIte, Int.reduceToNat, Nat.reduceAdd, Nat.reduceMul, Nat.reduceEqDiff, wpost0, wpost1, wpost2, wpost3, wpost4, ite_self, ite_true, ite_false, if_true, if_false, bin_add, tze38, xst38, xld38, un_not, blt_real, bin_flss, blt_imag, bin_fneq, xlen44, bin_neq, xfad38_0, xld36, xlen36, bin_lss, xiad36, xld44, xiad44, xld46, bin_cneq, fr4, wrap_int, wrap_u8, iteP_yes, iteP_no, g8, g22, g31, g245, g246] | refine iteP_two (fun hc hd => ?_) (fun hc hd => ?_) | refine iteP_intro (fun hc => ?_) (fun hc => ?_))
          refine ⟨p - (i + 1), by omega, i + 1, ?_⟩
          (repeat' (first | assumption | rfl | omega | (rw [hks]) | refine And.intro ?_ ?_))
      · (repeat' first | simp -dsimp (disch := first | omega | assumption | (refine OkS.sto ?_ (by omega); first | assumption | (refine OkS.sto ?_ (by omega); first | assumption | (refine OkS.sto ?_ (by omega); first | assumption | (refine OkS.sto ?_ (by omega); first | assumption | (refine OkS.sto ?_ (by omega); first | assumption | (refine OkS.sto ?_ (by omega); first | assumption)))))) | exact Pfx.refl _ | (apply Pfx.snoc; repeat (first | exact Pfx.refl _ | assumption | apply Pfx.snoc)) | with_unfolding_all exact of_eq_true (eq_true rfl) | (simp only [List.length_append, List.length_cons, List.length_nil]; omega)) only [↓gpre0, ↓wpre1, ↓reduceIte, Int.reduceToNat, Nat.reduceAdd, Nat.reduceMul, Nat.reduceEqDiff, wpost0, wpost1, wpost2, wpost3, wpost4, ite_self, ite_true, ite_false, if_true, if_false, bin_add, tze38, xst38, xld38, un_not, blt_real, bin_flss, blt_imag, bin_fneq, xlen44, bin_neq, xfad38_0, xld36, xlen36, bin_lss, xiad36, xld44, xiad44, xld46, bin_cneq, fr4, wrap_int, wrap_u8, iteP_yes, iteP_no, g8, g22, g31, g245, g246, ef] | refine iteP_two (fun hc hd => ?_) (fun hc hd => ?_) | refine iteP_intro (fun hc => ?_) (fun hc => ?_))
noncomputable def cLawM : Code := (Try.f4.body).get rfl
theorem cLawM_body : Try.f4.body = some cLawM := (Option.some_get _).symm
def rLawM (args : List Value) (h : Heap) (q : Value × Heap) : Prop := q.1 = .bool true
noncomputable def xM3 (ro : Nat) : Ext := orX (fun g => if g = 4 then some (fG Try.prog ro (xM2 ro) Try.f4 cLawM rLawM) else none) (xM2 ro)
theorem xok_M3 {ro : Nat} {B : Base} : XOk Try.prog ro B (xM3 ro) := orX_ok (fGX_ok mixed xok_M2 Try.func4 cLawM_body (by decide) (by kernel_rfl)) xok_M2
theorem lawM_c {cd md : List UInt8} (hV : VS lo hi 1 h x cd.length (cd.map u8v)) (hU : VS lo' hi' 1 h y md.length (md.map u8v)) (hhi : hi ≤ h.length) (hhi' : hi' ≤ h.length) (hro : ro ≤ h.length) (hl : cd.length ≤ 140737488351232) (hl' : md.length ≤ 140737488351232) :
    CallR Try.prog ro (xM3 ro) 4 [x, y] h (fun r h' => r = .bool true) :=
  fG_call (R := rLawM) (show xM3 ro 4 = _ from rfl) (Nat.le_of_ble_eq_true rfl) (lawM_w cLawM_body hV hU hhi hhi' hro hl hl')
end Go.Proofs.Ytelogajobjflfaa.Sim
