/- The law FnJournal on the abstract machine, where the desk's contract is there. Lemmas only; no condition. -/
import Derived.Test.YtikanmboimjhgaaDoorFjc
import Derived.Test.YtikanmboimjhgaaDoorDrg
import Derived.Test.YtikanmboimjhgaaDoorDsd
import Derived.Test.YtikanmboimjhgaaDoorFjd
set_option linter.unusedSimpArgs false
set_option linter.unusedVariables false
set_option maxRecDepth 8000
namespace Go.Proofs.YtikanmboimjhgaaDoor.Sim
open Go Go.RowKit
variable {ro : Nat} {X : Ext}
/-- What a desk's draw is to hand back. -/
def DeskOk (ro : Nat) (X : Ext) (y : Value) (h : Heap) : Prop := ro ≤ h.length → CallR Tryd.prog ro X 6 [y] h (fun r h' => ∃ (pa wa sa : Option Addr) (pn pc wn wc sn sc : Nat), r = .agg ⟨[.slice pa pn pc, .slice wa wn wc, .slice sa sn sc]⟩ ∧ pn ≤ 4 ∧ Pfx h h')
theorem jout_take {t : List UInt8} (ht : t.length ≤ 6000) : jgood (jrn t).1 = true ∧ jout (jrn t).1 = t.take (jrn t).2 ∧ (jrn t).2 ≤ t.length ∧ (jr 0 (jrn t).1).length ≤ 6000 := by
  have e : jrn t = recS 0 (lns (t.length + 1) t) := if_pos ht
  obtain ⟨h1, h2⟩ := rec_pre (t.length + 1) t
  have h3 := rec_good (n := t.length + 1) ht
  rw [e]
  refine ⟨h3, by rw [jout_yes h3, h2], h1, by rw [h2, List.length_take]; omega⟩
theorem jrn_wei {t : List UInt8} (ht : t.length ≤ 6000) : wei (jrn t).1 ≤ 1048576 ∧ (jrn t).1.length ≤ 1048576 := by
  obtain ⟨_, _, _, h⟩ := jout_take ht
  have := jr_ge 0 (jrn t).1
  omega
theorem cnt_yes {T : List UInt8} {i : Nat} (hi : i < T.length) (h : bth T i = 10) : (T.take (i + 1)).count 10 = (T.take i).count 10 + 1 := by
  rw [List.take_succ_eq_append_getElem hi, List.count_append]
  simp only [bth, List.getD_eq_getElem?_getD, List.getElem?_eq_getElem hi, Option.getD_some] at h
  have e : T[i] = 10 := UInt8.toNat_inj.1 (by have e : (10 : UInt8).toNat = 10 := rfl; omega)
  rw [e]
  rfl
theorem cnt_no {T : List UInt8} {i : Nat} (hi : i < T.length) (h : bth T i ≠ 10) : (T.take (i + 1)).count 10 = (T.take i).count 10 := by
  rw [List.take_succ_eq_append_getElem hi, List.count_append]
  have e : T[i] ≠ 10 := fun q => by
    apply h
    simp [bth, List.getD_eq_getElem?_getD, List.getElem?_eq_getElem hi, q]
  have e2 : [T[i]].count 10 = 0 := List.count_eq_zero.2 (fun q => by rw [List.mem_singleton] at q; exact e q.symm)
  omega
set_option maxHeartbeats 8000000 in
theorem lawFn_c (hF : XF ro X) {lo hi lo' hi' : Nat} {x y : Value} {cd md : List UInt8} {h : Heap} (hDesk : md.length ≤ 1048576 → DeskOk ro X y h) (hV : VS lo hi 1 h x cd.length (cd.map u8v)) (hU : VS lo' hi' 1 h y md.length (md.map u8v)) (hhi : hi ≤ h.length) (hc : cd.length ≤ 140737488355328) (hm : md.length ≤ 140737488355328) (hro : ro ≤ h.length) :
    CallR Tryd.prog ro X 3 [x, y] h (fun r h' => r = .bool true) := by
  have hE := hF.e
  have hx := hE.d
  have hX := hx.n
  have long := Long_r (ro := ro) (X := X) (hX _ rfl) hV hU hc hm
  refine callR_of (hX _ rfl) Tryd.func3 rfl (by kernel_rfl) (Nat.le_of_ble_eq_true rfl) ?_
  by_cases hlong : (decide (1048576 < cd.length) || decide (1048576 < md.length)) = true
  · rw [hlong] at long
    (repeat' first | simp -dsimp (disch := first | omega | assumption | (refine OkS.sto ?_ (by omega); first | assumption | (refine OkS.sto ?_ (by omega); first | assumption | (refine OkS.sto ?_ (by omega); first | assumption | (refine OkS.sto ?_ (by omega); first | assumption | (refine OkS.sto ?_ (by omega); first | assumption | (refine OkS.sto ?_ (by omega); first | assumption)))))) | exact Pfx.refl _ | (apply Pfx.snoc; repeat (first | exact Pfx.refl _ | assumption | apply Pfx.snoc)) | with_unfolding_all exact of_eq_true (eq_true rfl) | (simp only [List.length_append, List.length_cons, List.length_nil]; omega)) only [↓wpre0, ↓wpre1, ↓reduceIte, Int.reduceToNat, Nat.reduceAdd, Nat.reduceMul, Nat.reduceEqDiff, wpost0, wpost1, wpost2, wpost3, wpost4, ite_self, ite_true, ite_false, if_true, if_false, un_not, xlen9, bin_eql, xlen24, bin_mul, bin_add, bin_rem, xsl9, xslo9, xshi9, bin_lss, xidx9, bin_neq, bin_gtr, bin_sneq, xiad24, xld9, xcv2_5, xbls22_0, xbls22_1, bin_sadd, bin_geq, bin_leq, bin_seql, fr3, wrap_int, wrap_u8, iteP_yes, iteP_no, long] | refine iteP_two (fun hc hd => ?_) (fun hc hd => ?_) | refine iteP_intro (fun hc => ?_) (fun hc => ?_))
  have hlong' : (decide (1048576 < cd.length) || decide (1048576 < md.length)) = false := by simpa using hlong
  rw [hlong'] at long
  simp only [Bool.or_eq_false_iff, decide_eq_false_iff_not] at hlong'
  have hc2 := hlong'.1
  have hm2 := hlong'.2
  (repeat' first | simp -dsimp (disch := first | omega | assumption | (refine OkS.sto ?_ (by omega); first | assumption | (refine OkS.sto ?_ (by omega); first | assumption | (refine OkS.sto ?_ (by omega); first | assumption | (refine OkS.sto ?_ (by omega); first | assumption | (refine OkS.sto ?_ (by omega); first | assumption | (refine OkS.sto ?_ (by omega); first | assumption)))))) | exact Pfx.refl _ | (apply Pfx.snoc; repeat (first | exact Pfx.refl _ | assumption | apply Pfx.snoc)) | with_unfolding_all exact of_eq_true (eq_true rfl) | (simp only [List.length_append, List.length_cons, List.length_nil]; omega)) only [↓wpre0, ↓wpre1, ↓reduceIte, Int.reduceToNat, Nat.reduceAdd, Nat.reduceMul, Nat.reduceEqDiff, wpost0, wpost1, wpost2, wpost3, wpost4, ite_self, ite_true, ite_false, if_true, if_false, un_not, xlen9, bin_eql, xlen24, bin_mul, bin_add, bin_rem, xsl9, xslo9, xshi9, bin_lss, xidx9, bin_neq, bin_gtr, bin_sneq, xiad24, xld9, xcv2_5, xbls22_0, xbls22_1, bin_sadd, bin_geq, bin_leq, bin_seql, fr3, wrap_int, wrap_u8, iteP_yes, iteP_no, long] | refine iteP_two (fun hc hd => ?_) (fun hc hd => ?_) | refine iteP_intro (fun hc => ?_) (fun hc => ?_))
  refine cf_rel (hDesk (by omega) hro) (fun q => by cases q) ?_
  rintro r h1 ⟨pa, wa, sa, pn, pc, wn, wc, sn, sc, rfl, hpn, p1⟩
  have l1 := p1.len
  (repeat' first | simp -dsimp (disch := first | omega | assumption | (refine OkS.sto ?_ (by omega); first | assumption | (refine OkS.sto ?_ (by omega); first | assumption | (refine OkS.sto ?_ (by omega); first | assumption | (refine OkS.sto ?_ (by omega); first | assumption | (refine OkS.sto ?_ (by omega); first | assumption | (refine OkS.sto ?_ (by omega); first | assumption)))))) | exact Pfx.refl _ | (apply Pfx.snoc; repeat (first | exact Pfx.refl _ | assumption | apply Pfx.snoc)) | with_unfolding_all exact of_eq_true (eq_true rfl) | (simp only [List.length_append, List.length_cons, List.length_nil]; omega)) only [↓wpre0, ↓wpre1, ↓reduceIte, Int.reduceToNat, Nat.reduceAdd, Nat.reduceMul, Nat.reduceEqDiff, wpost0, wpost1, wpost2, wpost3, wpost4, ite_self, ite_true, ite_false, if_true, if_false, un_not, xlen9, bin_eql, xlen24, bin_mul, bin_add, bin_rem, xsl9, xslo9, xshi9, bin_lss, xidx9, bin_neq, bin_gtr, bin_sneq, xiad24, xld9, xcv2_5, xbls22_0, xbls22_1, bin_sadd, bin_geq, bin_leq, bin_seql, fr3, wrap_int, wrap_u8, iteP_yes, iteP_no] | refine iteP_two (fun hc hd => ?_) (fun hc hd => ?_) | refine iteP_intro (fun hc => ?_) (fun hc => ?_))
  refine cf_rel (Lines_c hF (hV.pre p1) (by omega) hpn (by omega) (by omega)) (fun q => by cases q) ?_
  rintro r h2 ⟨L, hL6, htx, p2, hVL⟩
  have l2 := p2.len
  obtain ⟨hgood, hT6⟩ := lines_good hL6 htx
  have hout := jout_yes hgood
  have hwL := wei_le htx
  have hwL2 : 250 * L.length ≤ 1500 := by omega
  have hge := jr_ge 0 L
  (repeat' first | simp -dsimp (disch := first | omega | assumption | (refine OkS.sto ?_ (by omega); first | assumption | (refine OkS.sto ?_ (by omega); first | assumption | (refine OkS.sto ?_ (by omega); first | assumption | (refine OkS.sto ?_ (by omega); first | assumption | (refine OkS.sto ?_ (by omega); first | assumption | (refine OkS.sto ?_ (by omega); first | assumption)))))) | exact Pfx.refl _ | (apply Pfx.snoc; repeat (first | exact Pfx.refl _ | assumption | apply Pfx.snoc)) | with_unfolding_all exact of_eq_true (eq_true rfl) | (simp only [List.length_append, List.length_cons, List.length_nil]; omega)) only [↓wpre0, ↓wpre1, ↓reduceIte, Int.reduceToNat, Nat.reduceAdd, Nat.reduceMul, Nat.reduceEqDiff, wpost0, wpost1, wpost2, wpost3, wpost4, ite_self, ite_true, ite_false, if_true, if_false, un_not, xlen9, bin_eql, xlen24, bin_mul, bin_add, bin_rem, xsl9, xslo9, xshi9, bin_lss, xidx9, bin_neq, bin_gtr, bin_sneq, xiad24, xld9, xcv2_5, xbls22_0, xbls22_1, bin_sadd, bin_geq, bin_leq, bin_seql, fr3, wrap_int, wrap_u8, iteP_yes, iteP_no] | refine iteP_two (fun hc hd => ?_) (fun hc hd => ?_) | refine iteP_intro (fun hc => ?_) (fun hc => ?_))
  refine cf_rel (iJournal_c (ro := ro) hE hVL.vsl (by omega) (by omega) (by omega)) (fun q => by cases q) ?_
  rintro r h3 ⟨rfl, rfl⟩
  rw [hgood, hout]
  have hnob : ∀ s ∈ L, nob 10 s := fun s hs => (htx s hs).1
  generalize hT : jr 0 L = T at *
  by_cases hL0 : L.length = 0
  · have hTl : T.length = 0 := by
      have : L = [] := List.length_eq_zero_iff.1 hL0
      subst this
      rw [← hT]
      rfl
    (repeat' first | simp -dsimp (disch := first | omega | assumption | (refine OkS.sto ?_ (by omega); first | assumption | (refine OkS.sto ?_ (by omega); first | assumption | (refine OkS.sto ?_ (by omega); first | assumption | (refine OkS.sto ?_ (by omega); first | assumption | (refine OkS.sto ?_ (by omega); first | assumption | (refine OkS.sto ?_ (by omega); first | assumption)))))) | exact Pfx.refl _ | (apply Pfx.snoc; repeat (first | exact Pfx.refl _ | assumption | apply Pfx.snoc)) | with_unfolding_all exact of_eq_true (eq_true rfl) | (simp only [List.length_append, List.length_cons, List.length_nil]; omega)) only [↓wpre0, ↓wpre1, ↓reduceIte, Int.reduceToNat, Nat.reduceAdd, Nat.reduceMul, Nat.reduceEqDiff, wpost0, wpost1, wpost2, wpost3, wpost4, ite_self, ite_true, ite_false, if_true, if_false, un_not, len_bl Tryd.underlying9, bin_eql, xlen24, bin_mul, bin_add, bin_rem, sl_bl Tryd.underlying9, slo_bl Tryd.underlying9, shi_bl Tryd.underlying9, bin_lss, idx_bl Tryd.underlying9, bin_neq, bin_gtr, sneq_bl, xiad24, xld9, xcv2_5, xbls22_0, xbls22_1, sadd_bl, bin_geq, bin_leq, seql_bl, fr3, wrap_int, wrap_u8, iteP_yes, iteP_no, Bool.not_true, hVL.vs.len Tryd.underlying24] | refine iteP_two (fun hc hd => ?_) (fun hc hd => ?_) | refine iteP_intro (fun hc => ?_) (fun hc => ?_))
    rw [decide_eq_true (show (L.length : Int) = 0 by omega)]
  · have hTl : 0 < T.length := by omega
    have hU3 := hU.pre (p1.trans p2)
    obtain ⟨v0, hv0, at0⟩ := At_r (ro := ro) (X := X) (hX _ rfl) (i := 0) (n := 256) hU3 (by omega) (by omega) (by omega) (by omega) (by omega)
    obtain ⟨v1, hv1, at1⟩ := At_r (ro := ro) (X := X) (hX _ rfl) (i := 1) (n := 256) hU3 (by omega) (by omega) (by omega) (by omega) (by omega)
    obtain ⟨a, ha⟩ : ∃ a : Nat, a = (v0 * 256 + v1) % T.length := ⟨_, rfl⟩
    have hmod : (((v0 : Int) * 256 + (v1 : Int)).tmod (T.length : Int)) = (a : Int) := by
      rw [Int.tmod_eq_emod_of_nonneg (by omega), ha]
      rfl
    have hat : a < T.length := by rw [ha]; exact Nat.mod_lt _ hTl
    (repeat' first | simp -dsimp (disch := first | omega | assumption | (refine OkS.sto ?_ (by omega); first | assumption | (refine OkS.sto ?_ (by omega); first | assumption | (refine OkS.sto ?_ (by omega); first | assumption | (refine OkS.sto ?_ (by omega); first | assumption | (refine OkS.sto ?_ (by omega); first | assumption | (refine OkS.sto ?_ (by omega); first | assumption)))))) | exact Pfx.refl _ | (apply Pfx.snoc; repeat (first | exact Pfx.refl _ | assumption | apply Pfx.snoc)) | with_unfolding_all exact of_eq_true (eq_true rfl) | (simp only [List.length_append, List.length_cons, List.length_nil]; omega)) only [↓wpre0, ↓wpre1, ↓reduceIte, Int.reduceToNat, Nat.reduceAdd, Nat.reduceMul, Nat.reduceEqDiff, wpost0, wpost1, wpost2, wpost3, wpost4, ite_self, ite_true, ite_false, if_true, if_false, un_not, len_bl Tryd.underlying9, bin_eql, xlen24, bin_mul, bin_add, bin_rem, sl_bl Tryd.underlying9, slo_bl Tryd.underlying9, shi_bl Tryd.underlying9, bin_lss, idx_bl Tryd.underlying9, bin_neq, bin_gtr, sneq_bl, xiad24, xld9, xcv2_5, xbls22_0, xbls22_1, sadd_bl, bin_geq, bin_leq, seql_bl, fr3, wrap_int, wrap_u8, iteP_yes, iteP_no, Bool.not_true, at0, at1, hmod, bin_rem, Int.toNat_natCast] | refine iteP_two (fun hc hd => ?_) (fun hc hd => ?_) | refine iteP_intro (fun hc => ?_) (fun hc => ?_))
    have ht1 : (T.take a).length ≤ 6000 := by rw [List.length_take]; omega
    obtain ⟨j1, j2, j3, j4⟩ := jout_take ht1
    obtain ⟨w1, w2⟩ := jrn_wei ht1
    have cutL := rec_cut hnob a (T.take a).length.succ (by rw [hT]; exact Nat.lt_succ_self _)
    rw [hT] at cutL
    have ej : jrn (T.take a) = recS 0 (lns ((T.take a).length + 1) (T.take a)) := if_pos ht1
    refine cf_rel (iRecover_c (ro := ro) hx (t := T.take a) (by omega) (by omega)) (fun q => by cases q) ?_
    rintro r h4 ⟨p4, y1, rfl, V1⟩
    have l4 := p4.len
    rw [decide_eq_true ht1]
    (repeat' first | simp -dsimp (disch := first | omega | assumption | (refine OkS.sto ?_ (by omega); first | assumption | (refine OkS.sto ?_ (by omega); first | assumption | (refine OkS.sto ?_ (by omega); first | assumption | (refine OkS.sto ?_ (by omega); first | assumption | (refine OkS.sto ?_ (by omega); first | assumption | (refine OkS.sto ?_ (by omega); first | assumption)))))) | exact Pfx.refl _ | (apply Pfx.snoc; repeat (first | exact Pfx.refl _ | assumption | apply Pfx.snoc)) | with_unfolding_all exact of_eq_true (eq_true rfl) | (simp only [List.length_append, List.length_cons, List.length_nil]; omega)) only [↓wpre0, ↓wpre1, ↓reduceIte, Int.reduceToNat, Nat.reduceAdd, Nat.reduceMul, Nat.reduceEqDiff, wpost0, wpost1, wpost2, wpost3, wpost4, ite_self, ite_true, ite_false, if_true, if_false, un_not, len_bl Tryd.underlying9, bin_eql, xlen24, bin_mul, bin_add, bin_rem, sl_bl Tryd.underlying9, slo_bl Tryd.underlying9, shi_bl Tryd.underlying9, bin_lss, idx_bl Tryd.underlying9, bin_neq, bin_gtr, sneq_bl, xiad24, xld9, xcv2_5, xbls22_0, xbls22_1, sadd_bl, bin_geq, bin_leq, seql_bl, fr3, wrap_int, wrap_u8, iteP_yes, iteP_no] | refine iteP_two (fun hc hd => ?_) (fun hc hd => ?_) | refine iteP_intro (fun hc => ?_) (fun hc => ?_))
    refine cf_rel (iJournal_c (ro := ro) hE V1 w2 w1 (by omega)) (fun q => by cases q) ?_
    rintro r h5 ⟨rfl, rfl⟩
    rw [j1, j2]
    have hL1 : (jrn (T.take a)).1 = L.take ((T.take a).count 10) := by rw [ej]; exact cutL.1
    have hw10 := cutL.2
    have hn1 : (jrn (T.take a)).2 ≤ a := by rw [List.length_take] at j3; omega
    have htt : (T.take a).take (jrn (T.take a)).2 = T.take (jrn (T.take a)).2 := by rw [List.take_take, Nat.min_eq_left hn1]
    rw [htt]
    generalize hq1 : (jrn (T.take a)).1 = L1 at *
    generalize hq2 : (jrn (T.take a)).2 = n1 at *
    have hL1l : L1.length = (T.take a).count 10 := by rw [hL1, List.length_take]; omega
    (repeat' first | simp -dsimp (disch := first | omega | assumption | (refine OkS.sto ?_ (by omega); first | assumption | (refine OkS.sto ?_ (by omega); first | assumption | (refine OkS.sto ?_ (by omega); first | assumption | (refine OkS.sto ?_ (by omega); first | assumption | (refine OkS.sto ?_ (by omega); first | assumption | (refine OkS.sto ?_ (by omega); first | assumption)))))) | exact Pfx.refl _ | (apply Pfx.snoc; repeat (first | exact Pfx.refl _ | assumption | apply Pfx.snoc)) | with_unfolding_all exact of_eq_true (eq_true rfl) | (simp only [List.length_append, List.length_cons, List.length_nil]; omega)) only [↓wpre0, ↓wpre1, ↓reduceIte, Int.reduceToNat, Nat.reduceAdd, Nat.reduceMul, Nat.reduceEqDiff, wpost0, wpost1, wpost2, wpost3, wpost4, ite_self, ite_true, ite_false, if_true, if_false, un_not, len_bl Tryd.underlying9, bin_eql, xlen24, bin_mul, bin_add, bin_rem, sl_bl Tryd.underlying9, slo_bl Tryd.underlying9, shi_bl Tryd.underlying9, bin_lss, idx_bl Tryd.underlying9, bin_neq, bin_gtr, sneq_bl, xiad24, xld9, xcv2_5, xbls22_0, xbls22_1, sadd_bl, bin_geq, bin_leq, seql_bl, fr3, wrap_int, wrap_u8, iteP_yes, iteP_no] | refine iteP_two (fun hc hd => ?_) (fun hc hd => ?_) | refine iteP_intro (fun hc => ?_) (fun hc => ?_))
    refine loop_exit 0 (fun e2 h' => h' = h5 ∧ e2 1 = y ∧ e2 5 = r ∧ e2 6 = .string ⟨⟨T⟩⟩ ∧ e2 8 = .int .i64 a ∧ e2 9 = y1 ∧ e2 10 = .int .i64 n1 ∧ e2 11 = .bool true ∧ e2 12 = .string ⟨⟨T.take n1⟩⟩ ∧ e2 13 = .bool true ∧ e2 14 = .int .i64 ((T.take a).count 10 : Nat)) ?_ ?_
    · refine loop_rounds (fun m e h' => ∃ i : Nat, m = a - i ∧ i ≤ a ∧ h' = h5 ∧ e 1 = y ∧ e 5 = r ∧ e 6 = .string ⟨⟨T⟩⟩ ∧ e 8 = .int .i64 a ∧ e 9 = y1 ∧ e 10 = .int .i64 n1 ∧ e 11 = .bool true ∧ e 12 = .string ⟨⟨T.take n1⟩⟩ ∧ e 13 = .bool true ∧ e 14 = .int .i64 ((T.take i).count 10 : Nat) ∧ e 15 = .int .i64 i) _ ⟨0, rfl, ?_⟩ ?_
      · simp only [updO_at, updO_not, entry_at, List.getD_cons_zero, List.getD_cons_succ, ↓reduceIte, Nat.reduceEqDiff, true_and, and_true]
        exact ⟨by omega, rfl, rfl⟩
      · rintro m e h' ⟨i, hm, hi, rfl, g1, g5, g6, g8, g9, g10, g11, g12, g13, g14, g15⟩
        by_cases hin : i < a
        · by_cases hb : bth T i = 10
          · (repeat' first | simp -dsimp (disch := first | omega | assumption | (refine OkS.sto ?_ (by omega); first | assumption | (refine OkS.sto ?_ (by omega); first | assumption | (refine OkS.sto ?_ (by omega); first | assumption | (refine OkS.sto ?_ (by omega); first | assumption | (refine OkS.sto ?_ (by omega); first | assumption | (refine OkS.sto ?_ (by omega); first | assumption)))))) | exact Pfx.refl _ | (apply Pfx.snoc; repeat (first | exact Pfx.refl _ | assumption | apply Pfx.snoc)) | with_unfolding_all exact of_eq_true (eq_true rfl) | (simp only [List.length_append, List.length_cons, List.length_nil]; omega)) only [↓wpre0, ↓wpre1, ↓reduceIte, Int.reduceToNat, Nat.reduceAdd, Nat.reduceMul, Nat.reduceEqDiff, wpost0, wpost1, wpost2, wpost3, wpost4, ite_self, ite_true, ite_false, if_true, if_false, un_not, len_bl Tryd.underlying9, bin_eql, xlen24, bin_mul, bin_add, bin_rem, sl_bl Tryd.underlying9, slo_bl Tryd.underlying9, shi_bl Tryd.underlying9, bin_lss, idx_bl Tryd.underlying9, bin_neq, bin_gtr, sneq_bl, xiad24, xld9, xcv2_5, xbls22_0, xbls22_1, sadd_bl, bin_geq, bin_leq, seql_bl, fr3, wrap_int, wrap_u8, iteP_yes, iteP_no, g1, g5, g6, g8, g9, g10, g11, g12, g13, g14, g15, Int.toNat_natCast, hb] | refine iteP_two (fun hc hd => ?_) (fun hc hd => ?_) | refine iteP_intro (fun hc => ?_) (fun hc => ?_))
            have hc1 := cnt_yes (by omega) hb
            refine ⟨_, by omega, i + 1, rfl, by omega, ?_, rfl⟩
            have hcb : (T.take i).count 10 ≤ i := Nat.le_trans List.count_le_length (by rw [List.length_take]; omega)
            rw [wrap_int (by omega) (by omega), hc1]
            rfl
          · (repeat' first | simp -dsimp (disch := first | omega | assumption | (refine OkS.sto ?_ (by omega); first | assumption | (refine OkS.sto ?_ (by omega); first | assumption | (refine OkS.sto ?_ (by omega); first | assumption | (refine OkS.sto ?_ (by omega); first | assumption | (refine OkS.sto ?_ (by omega); first | assumption | (refine OkS.sto ?_ (by omega); first | assumption)))))) | exact Pfx.refl _ | (apply Pfx.snoc; repeat (first | exact Pfx.refl _ | assumption | apply Pfx.snoc)) | with_unfolding_all exact of_eq_true (eq_true rfl) | (simp only [List.length_append, List.length_cons, List.length_nil]; omega)) only [↓wpre0, ↓wpre1, ↓reduceIte, Int.reduceToNat, Nat.reduceAdd, Nat.reduceMul, Nat.reduceEqDiff, wpost0, wpost1, wpost2, wpost3, wpost4, ite_self, ite_true, ite_false, if_true, if_false, un_not, len_bl Tryd.underlying9, bin_eql, xlen24, bin_mul, bin_add, bin_rem, sl_bl Tryd.underlying9, slo_bl Tryd.underlying9, shi_bl Tryd.underlying9, bin_lss, idx_bl Tryd.underlying9, bin_neq, bin_gtr, sneq_bl, xiad24, xld9, xcv2_5, xbls22_0, xbls22_1, sadd_bl, bin_geq, bin_leq, seql_bl, fr3, wrap_int, wrap_u8, iteP_yes, iteP_no, g1, g5, g6, g8, g9, g10, g11, g12, g13, g14, g15, Int.toNat_natCast, hb] | refine iteP_two (fun hc hd => ?_) (fun hc hd => ?_) | refine iteP_intro (fun hc => ?_) (fun hc => ?_))
            have hc1 := cnt_no (by omega) hb
            exact ⟨_, by omega, i + 1, rfl, by omega, by rw [hc1], rfl⟩
        · have ei : i = a := by omega
          subst ei
          (repeat' first | simp -dsimp (disch := first | omega | assumption | (refine OkS.sto ?_ (by omega); first | assumption | (refine OkS.sto ?_ (by omega); first | assumption | (refine OkS.sto ?_ (by omega); first | assumption | (refine OkS.sto ?_ (by omega); first | assumption | (refine OkS.sto ?_ (by omega); first | assumption | (refine OkS.sto ?_ (by omega); first | assumption)))))) | exact Pfx.refl _ | (apply Pfx.snoc; repeat (first | exact Pfx.refl _ | assumption | apply Pfx.snoc)) | with_unfolding_all exact of_eq_true (eq_true rfl) | (simp only [List.length_append, List.length_cons, List.length_nil]; omega)) only [↓wpre0, ↓wpre1, ↓reduceIte, Int.reduceToNat, Nat.reduceAdd, Nat.reduceMul, Nat.reduceEqDiff, wpost0, wpost1, wpost2, wpost3, wpost4, ite_self, ite_true, ite_false, if_true, if_false, un_not, len_bl Tryd.underlying9, bin_eql, xlen24, bin_mul, bin_add, bin_rem, sl_bl Tryd.underlying9, slo_bl Tryd.underlying9, shi_bl Tryd.underlying9, bin_lss, idx_bl Tryd.underlying9, bin_neq, bin_gtr, sneq_bl, xiad24, xld9, xcv2_5, xbls22_0, xbls22_1, sadd_bl, bin_geq, bin_leq, seql_bl, fr3, wrap_int, wrap_u8, iteP_yes, iteP_no, g1, g5, g6, g8, g9, g10, g11, g12, g13, g14, g15] | refine iteP_two (fun hc hd => ?_) (fun hc hd => ?_) | refine iteP_intro (fun hc => ?_) (fun hc => ?_))
    · rintro e2 h' ⟨rfl, g1, g5, g6, g8, g9, g10, g11, g12, g13, g14⟩
      (repeat' first | simp -dsimp (disch := first | omega | assumption | (refine OkS.sto ?_ (by omega); first | assumption | (refine OkS.sto ?_ (by omega); first | assumption | (refine OkS.sto ?_ (by omega); first | assumption | (refine OkS.sto ?_ (by omega); first | assumption | (refine OkS.sto ?_ (by omega); first | assumption | (refine OkS.sto ?_ (by omega); first | assumption)))))) | exact Pfx.refl _ | (apply Pfx.snoc; repeat (first | exact Pfx.refl _ | assumption | apply Pfx.snoc)) | with_unfolding_all exact of_eq_true (eq_true rfl) | (simp only [List.length_append, List.length_cons, List.length_nil]; omega)) only [↓wpre0, ↓wpre1, ↓reduceIte, Int.reduceToNat, Nat.reduceAdd, Nat.reduceMul, Nat.reduceEqDiff, wpost0, wpost1, wpost2, wpost3, wpost4, ite_self, ite_true, ite_false, if_true, if_false, un_not, len_bl Tryd.underlying9, bin_eql, xlen24, bin_mul, bin_add, bin_rem, sl_bl Tryd.underlying9, slo_bl Tryd.underlying9, shi_bl Tryd.underlying9, bin_lss, idx_bl Tryd.underlying9, bin_neq, bin_gtr, sneq_bl, xiad24, xld9, xcv2_5, xbls22_0, xbls22_1, sadd_bl, bin_geq, bin_leq, seql_bl, fr3, wrap_int, wrap_u8, iteP_yes, iteP_no, g1, g5, g6, g8, g9, g10, g11, g12, g13, g14, Int.toNat_natCast, V1.len Tryd.underlying24, hL1l, beq_self_eq_true, Bool.not_true] | refine iteP_two (fun hc hd => ?_) (fun hc hd => ?_) | refine iteP_intro (fun hc => ?_) (fun hc => ?_))
      have hV5 := hVL.vs.pre p4
      have hU5 := hU3.pre p4
      have hLi : ∀ i, i < (T.take a).count 10 → sth L1 i = sth L i := by
        intro i hi
        rw [hL1]
        simp [sth, List.getD_eq_getElem?_getD, List.getElem?_take, hi]
      obtain ⟨v2, hv2, at2⟩ := At_r (ro := ro) (X := X) (hX _ rfl) (i := 2) (n := 256) hU5 (by omega) (by omega) (by omega) (by omega) (by omega)
      obtain ⟨c, rfl⟩ : ∃ c : UInt8, v2 = c.toNat := ⟨UInt8.ofNat v2, by rw [UInt8.toNat_ofNat']; omega⟩
      refine loop_rounds (fun m e h'' => ∃ i : Nat, m = (T.take a).count 10 - i ∧ i ≤ (T.take a).count 10 ∧ h'' = h' ∧ e 1 = y ∧ e 5 = r ∧ e 6 = .string ⟨⟨T⟩⟩ ∧ e 8 = .int .i64 a ∧ e 9 = y1 ∧ e 10 = .int .i64 n1 ∧ e 14 = .int .i64 ((T.take a).count 10 : Nat) ∧ e 16 = .int .i64 i) _ ⟨0, rfl, ?_⟩ ?_
      · simp only [updO_at, updO_not, entry_at, List.getD_cons_zero, List.getD_cons_succ, ↓reduceIte, Nat.reduceEqDiff, true_and, and_true]
        exact ⟨by omega, g1, g5, g6, g8, g9, g10, g14, rfl⟩
      · rintro m e h'' ⟨i, hm, hi, rfl, k1, k5, k6, k8, k9, k10, k14, k16⟩
        by_cases hin : i < (T.take a).count 10
        · have ld1 := ss_ld V1 tsz9 tag9 (c := i) (by omega)
          have ld2 := ss_ld hV5 tsz9 tag9 (c := i) (by omega)
          rw [hLi i hin] at ld1
          (repeat' first | simp -dsimp (disch := first | omega | assumption | (refine OkS.sto ?_ (by omega); first | assumption | (refine OkS.sto ?_ (by omega); first | assumption | (refine OkS.sto ?_ (by omega); first | assumption | (refine OkS.sto ?_ (by omega); first | assumption | (refine OkS.sto ?_ (by omega); first | assumption | (refine OkS.sto ?_ (by omega); first | assumption)))))) | exact Pfx.refl _ | (apply Pfx.snoc; repeat (first | exact Pfx.refl _ | assumption | apply Pfx.snoc)) | with_unfolding_all exact of_eq_true (eq_true rfl) | (simp only [List.length_append, List.length_cons, List.length_nil]; omega)) only [↓wpre0, ↓wpre1, ↓reduceIte, Int.reduceToNat, Nat.reduceAdd, Nat.reduceMul, Nat.reduceEqDiff, wpost0, wpost1, wpost2, wpost3, wpost4, ite_self, ite_true, ite_false, if_true, if_false, un_not, len_bl Tryd.underlying9, bin_eql, xlen24, bin_mul, bin_add, bin_rem, sl_bl Tryd.underlying9, slo_bl Tryd.underlying9, shi_bl Tryd.underlying9, bin_lss, idx_bl Tryd.underlying9, bin_neq, bin_gtr, sneq_bl, xiad24, xld9, xcv2_5, xbls22_0, xbls22_1, sadd_bl, bin_geq, bin_leq, seql_bl, fr3, wrap_int, wrap_u8, iteP_yes, iteP_no, k1, k5, k6, k8, k9, k10, k14, k16, V1.iad Tryd.underlying24 tsz9, hV5.iad Tryd.underlying24 tsz9, Int.toNat_natCast, Nat.mul_one, ld1, ld2, beq_self_eq_true, Bool.not_true] | refine iteP_two (fun hc hd => ?_) (fun hc hd => ?_) | refine iteP_intro (fun hc => ?_) (fun hc => ?_))
          exact ⟨_, by omega, i + 1, rfl, by omega, rfl⟩
        · have ea : ((a : Int) + 1).toNat = a + 1 := by omega
          have hw8 : IntKind.u8.wrap (c.toNat : Int) = (c.toNat : Int) := by
            have := c.toNat_lt
            simp only [IntKind.wrap, IntKind.bits, IntKind.signed, Bool.false_and, Bool.false_eq_true, if_false]
            omega
          have cv : aconv Tryd.prog (h'' ++ [(⟨5, [.int .u8 c.toNat]⟩ : Blk)]) 22 9 (.slice (some ⟨h''.length, 0, none⟩) 1 1) = some (.string ⟨⟨[c]⟩⟩) := conv_bytes (l := [c]) Tryd.underlying22 Tryd.underlying9 tbt5 (vg_lit (t := 5) (k := 1) (n := 1) (L := [u8v c]) h'' (Nat.le_refl _) rfl).vs
          obtain ⟨bent, hbent⟩ : ∃ bent, bent = T.take a ++ [c] ++ T.drop (a + 1) := ⟨_, rfl⟩
          have hbl : bent.length = T.length := by rw [hbent]; simp; omega
          have a5 : ∀ t, abin Tryd.prog .add t (.string ⟨⟨T.take a ++ [c]⟩⟩) (.string ⟨⟨T.drop (a + 1)⟩⟩) = some (.string ⟨⟨bent⟩⟩) := fun t => by rw [hbent]; exact sadd_bl (by simp; omega)
          have ht2 : bent.length ≤ 6000 := by omega
          obtain ⟨b1, b2, b3, b4⟩ := jout_take ht2
          obtain ⟨u1, u2⟩ := jrn_wei ht2
          have hmore : n1 ≤ (jrn bent).2 := by
            have e2 : jrn bent = recS 0 (lns (bent.length + 1) bent) := if_pos ht2
            have hm := rec_more (a := T.take a) (c := [c] ++ T.drop (a + 1)) (n := (T.take a).length + 1) (m := bent.length + 1) (by omega) (by rw [hbl]; simp; omega)
            rw [← List.append_assoc, ← hbent, ← e2, ← ej, hq2] at hm
            exact hm
          (repeat' first | simp -dsimp (disch := first | omega | assumption | (refine OkS.sto ?_ (by omega); first | assumption | (refine OkS.sto ?_ (by omega); first | assumption | (refine OkS.sto ?_ (by omega); first | assumption | (refine OkS.sto ?_ (by omega); first | assumption | (refine OkS.sto ?_ (by omega); first | assumption | (refine OkS.sto ?_ (by omega); first | assumption)))))) | exact Pfx.refl _ | (apply Pfx.snoc; repeat (first | exact Pfx.refl _ | assumption | apply Pfx.snoc)) | with_unfolding_all exact of_eq_true (eq_true rfl) | (simp only [List.length_append, List.length_cons, List.length_nil]; omega)) only [↓wpre0, ↓wpre1, ↓reduceIte, Int.reduceToNat, Nat.reduceAdd, Nat.reduceMul, Nat.reduceEqDiff, wpost0, wpost1, wpost2, wpost3, wpost4, ite_self, ite_true, ite_false, if_true, if_false, un_not, len_bl Tryd.underlying9, bin_eql, xlen24, bin_mul, bin_add, bin_rem, sl_bl Tryd.underlying9, slo_bl Tryd.underlying9, shi_bl Tryd.underlying9, bin_lss, idx_bl Tryd.underlying9, bin_neq, bin_gtr, sneq_bl, xiad24, xld9, xcv2_5, xbls22_0, xbls22_1, sadd_bl, bin_geq, bin_leq, seql_bl, fr3, wrap_int, wrap_u8, iteP_yes, iteP_no, k1, k5, k6, k8, k9, k10, k14, k16, Int.toNat_natCast, at2, ea, hw8, cv, a5] | refine iteP_two (fun hc hd => ?_) (fun hc hd => ?_) | refine iteP_intro (fun hc => ?_) (fun hc => ?_))
          refine cf_rel (iRecover_c (ro := ro) hx (t := bent) (by omega) (by first | omega | (simp; omega))) (fun q => by cases q) ?_
          rintro r6 h6 ⟨p6, y6, rfl, V6⟩
          have l6 := p6.len
          rw [decide_eq_true ht2]
          (repeat' first | simp -dsimp (disch := first | omega | assumption | (refine OkS.sto ?_ (by omega); first | assumption | (refine OkS.sto ?_ (by omega); first | assumption | (refine OkS.sto ?_ (by omega); first | assumption | (refine OkS.sto ?_ (by omega); first | assumption | (refine OkS.sto ?_ (by omega); first | assumption | (refine OkS.sto ?_ (by omega); first | assumption)))))) | exact Pfx.refl _ | (apply Pfx.snoc; repeat (first | exact Pfx.refl _ | assumption | apply Pfx.snoc)) | with_unfolding_all exact of_eq_true (eq_true rfl) | (simp only [List.length_append, List.length_cons, List.length_nil]; omega)) only [↓wpre0, ↓wpre1, ↓reduceIte, Int.reduceToNat, Nat.reduceAdd, Nat.reduceMul, Nat.reduceEqDiff, wpost0, wpost1, wpost2, wpost3, wpost4, ite_self, ite_true, ite_false, if_true, if_false, un_not, len_bl Tryd.underlying9, bin_eql, xlen24, bin_mul, bin_add, bin_rem, sl_bl Tryd.underlying9, slo_bl Tryd.underlying9, shi_bl Tryd.underlying9, bin_lss, idx_bl Tryd.underlying9, bin_neq, bin_gtr, sneq_bl, xiad24, xld9, xcv2_5, xbls22_0, xbls22_1, sadd_bl, bin_geq, bin_leq, seql_bl, fr3, wrap_int, wrap_u8, iteP_yes, iteP_no, k1, k5, k6, k8, k9, k10, k14, k16] | refine iteP_two (fun hc hd => ?_) (fun hc hd => ?_) | refine iteP_intro (fun hc => ?_) (fun hc => ?_))
          refine cf_rel (iJournal_c (ro := ro) hE V6 u2 u1 (by first | omega | (simp at l6; omega))) (fun q => by cases q) ?_
          rintro r7 h7 ⟨rfl, rfl⟩
          rw [b1, b2]
          have f1 : decide ((n1 : Int) ≤ ((jrn bent).2 : Int)) = true := decide_eq_true (by omega)
          have f2 : decide (((jrn bent).2 : Int) ≤ (bent.length : Int)) = true := decide_eq_true (by omega)
          generalize (jrn bent).2 = n6 at *
          (repeat' first | simp -dsimp (disch := first | omega | assumption | (refine OkS.sto ?_ (by omega); first | assumption | (refine OkS.sto ?_ (by omega); first | assumption | (refine OkS.sto ?_ (by omega); first | assumption | (refine OkS.sto ?_ (by omega); first | assumption | (refine OkS.sto ?_ (by omega); first | assumption | (refine OkS.sto ?_ (by omega); first | assumption)))))) | exact Pfx.refl _ | (apply Pfx.snoc; repeat (first | exact Pfx.refl _ | assumption | apply Pfx.snoc)) | with_unfolding_all exact of_eq_true (eq_true rfl) | (simp only [List.length_append, List.length_cons, List.length_nil]; omega)) only [↓wpre0, ↓wpre1, ↓reduceIte, Int.reduceToNat, Nat.reduceAdd, Nat.reduceMul, Nat.reduceEqDiff, wpost0, wpost1, wpost2, wpost3, wpost4, ite_self, ite_true, ite_false, if_true, if_false, un_not, len_bl Tryd.underlying9, bin_eql, xlen24, bin_mul, bin_add, bin_rem, sl_bl Tryd.underlying9, slo_bl Tryd.underlying9, shi_bl Tryd.underlying9, bin_lss, idx_bl Tryd.underlying9, bin_neq, bin_gtr, sneq_bl, xiad24, xld9, xcv2_5, xbls22_0, xbls22_1, sadd_bl, bin_geq, bin_leq, seql_bl, fr3, wrap_int, wrap_u8, iteP_yes, iteP_no, k1, k5, k6, k8, k9, k10, k14, k16, Int.toNat_natCast, beq_self_eq_true] | refine iteP_two (fun hc hd => ?_) (fun hc hd => ?_) | refine iteP_intro (fun hc => ?_) (fun hc => ?_))
end Go.Proofs.YtikanmboimjhgaaDoor.Sim

/- A desk, as it is drawn: the drawing as an extern, and B10Desk. Lemmas only; no condition. -/
set_option linter.unusedSimpArgs false
set_option linter.unusedVariables false
set_option maxRecDepth 8000
namespace Go.Proofs.YtikanmboimjhgaaDoor.Sim
open Go Go.RowKit
variable {ro : Nat} {X : Ext}
noncomputable def cDraw : Code := (Tryd.f13.body).get rfl
theorem cDraw_body : Tryd.f13.body = some cDraw := (Option.some_get _).symm
noncomputable def extH (ro : Nat) : Ext := fun f => if f = 13 then some (fG Tryd.prog ro (extF ro) Tryd.f13 cDraw RDesk) else extF ro f
theorem extH_ok {ro : Nat} {B : Base} (ht : TabB B) : XOk Tryd.prog ro B (extH ro) := by
  intro f F hF args h r h' hr ρ w args' hs hB hargs
  unfold extH at hF
  split at hF
  · rename_i e
    subst e
    cases hF
    exact fG_ok rfl (extF_ok ht) Tryd.func13 cDraw_body (by decide) (by kernel_rfl) hr hs hB hargs
  · exact extF_ok ht f F hF args h r h' hr ρ w args' hs hB hargs
theorem xf_extH (ro : Nat) : XF ro (extH ro) := by
  refine ⟨⟨⟨fun f hf => ?_, rfl, rfl, rfl⟩, rfl, rfl⟩, rfl, rfl⟩
  unfold extH
  split
  · rename_i e; subst e; exact absurd hf (by decide)
  · exact (xf_extF ro).e.d.n f hf
theorem draw_c {lo hi b : Nat} {x : Value} {cd : List UInt8} {h : Heap} (hS : SRC lo hi b 0 x cd h) (hro : ro ≤ b) (hq : hi ≤ b) (hl : cd.length ≤ 1099511627776) :
    CallR Tryd.prog ro (extH ro) 13 [.pointer (some ⟨b, 0, none⟩)] h (fun r h' => RDesk [.pointer (some ⟨b, 0, none⟩)] h (r, h')) := by
  obtain ⟨n, r, h', h1, h2⟩ := deskG (xf_extF ro) cDraw_body hS hro hq (by omega) hl
  obtain ⟨⟨r2, h3⟩, h4, h5⟩ := fG_of (P := Tryd.prog) (ro := ro) (X := extF ro) (fn := Tryd.f13) (c := cDraw) (R := RDesk) ⟨(r, h'), ⟨n, h1⟩, h2, Nat.le_of_ble_eq_true rfl⟩
  exact ⟨r2, h3, call_ext (F := fG Tryd.prog ro (extF ro) Tryd.f13 cDraw RDesk) rfl h4, h5⟩
theorem Desk_c {lo hi : Nat} {y : Value} {md : List UInt8} {h : Heap} (hV : VS lo hi 1 h y md.length (md.map u8v)) (hhi : hi ≤ h.length) (hl : md.length ≤ 1099511627776) : DeskOk ro (extH ro) y h := by
  intro hro
  have hX := (xf_extH ro).e.d.n
  refine callR_of (hX _ rfl) Tryd.func6 rfl (by kernel_rfl) (Nat.le_of_ble_eq_true rfl) ?_
  (repeat' first | simp -dsimp (disch := first | omega | assumption | (refine OkS.sto ?_ (by omega); first | assumption | (refine OkS.sto ?_ (by omega); first | assumption | (refine OkS.sto ?_ (by omega); first | assumption | (refine OkS.sto ?_ (by omega); first | assumption | (refine OkS.sto ?_ (by omega); first | assumption | (refine OkS.sto ?_ (by omega); first | assumption)))))) | exact Pfx.refl _ | (apply Pfx.snoc; repeat (first | exact Pfx.refl _ | assumption | apply Pfx.snoc)) | with_unfolding_all exact of_eq_true (eq_true rfl) | (simp only [List.length_append, List.length_cons, List.length_nil]; omega)) only [↓wpre0, ↓wpre1, ↓reduceIte, Int.reduceToNat, Nat.reduceAdd, Nat.reduceMul, Nat.reduceEqDiff, wpost0, wpost1, wpost2, wpost3, wpost4, ite_self, ite_true, ite_false, if_true, if_false, tze30, xst30, xld30, fr6, wrap_int, wrap_u8, iteP_yes, iteP_no] | refine iteP_two (fun hc hd => ?_) (fun hc hd => ?_) | refine iteP_intro (fun hc => ?_) (fun hc => ?_))
  refine cf_rel (From_c (hX _ rfl) (hV.pre (Pfx.refl h).snoc) (by simp; omega)) (fun q => by cases q) ?_
  rintro r h2 ⟨rfl, p2, l2, S2⟩
  (repeat' first | simp -dsimp (disch := first | omega | assumption | (refine OkS.sto ?_ (by omega); first | assumption | (refine OkS.sto ?_ (by omega); first | assumption | (refine OkS.sto ?_ (by omega); first | assumption | (refine OkS.sto ?_ (by omega); first | assumption | (refine OkS.sto ?_ (by omega); first | assumption | (refine OkS.sto ?_ (by omega); first | assumption)))))) | exact Pfx.refl _ | (apply Pfx.snoc; repeat (first | exact Pfx.refl _ | assumption | apply Pfx.snoc)) | with_unfolding_all exact of_eq_true (eq_true rfl) | (simp only [List.length_append, List.length_cons, List.length_nil]; omega)) only [↓wpre0, ↓wpre1, ↓reduceIte, Int.reduceToNat, Nat.reduceAdd, Nat.reduceMul, Nat.reduceEqDiff, wpost0, wpost1, wpost2, wpost3, wpost4, ite_self, ite_true, ite_false, if_true, if_false, tze30, xst30, xld30, fr6, wrap_int, wrap_u8, iteP_yes, iteP_no] | refine iteP_two (fun hc hd => ?_) (fun hc hd => ?_) | refine iteP_intro (fun hc => ?_) (fun hc => ?_))
  refine cf_rel (draw_c S2 (by simp; omega) (by simp; omega) hl) (fun q => by cases q) ?_
  rintro r h3 ⟨b, pa, wa, sa, pn, pc, wn, wc, sn, sc, hb, rfl, hpn, d3⟩
  simp only [List.cons.injEq, Value.pointer.injEq, Option.some.injEq, Addr.mk.injEq, and_true] at hb
  replace d3 : Dst b h2 h3 := d3
  have hb2 : h.length ≤ b := by rw [← hb, List.length_append, List.length_singleton]; omega
  have hR : h3[h.length]? = some ⟨30, [.slice none 0 0, .slice none 0 0, .slice none 0 0]⟩ := by
    rw [d3.2 _ (by rw [l2, List.length_append]; omega) (by rw [← hb, List.length_append, List.length_singleton]; omega), p2.get (by rw [List.length_append, List.length_singleton]; omega), List.getElem?_append_right (Nat.le_refl _), Nat.sub_self]; rfl
  have l3 := d3.1
  rw [l2, List.length_append, List.length_singleton] at l3
  have pR : put ro h3 h.length 0 3 (.agg ⟨[.slice pa pn pc, .slice wa wn wc, .slice sa sn sc]⟩) = some (h3.set h.length ⟨30, [.slice pa pn pc, .slice wa wn wc, .slice sa sn sc]⟩) := putb (ro := ro) (n := 3) (o := 0) (v := .agg ⟨[.slice pa pn pc, .slice wa wn wc, .slice sa sn sc]⟩) hR (by omega) rfl (by simp [cellsOf]) rfl
  have cR : cells (h3.set h.length ⟨30, [.slice pa pn pc, .slice wa wn wc, .slice sa sn sc]⟩) h.length 0 3 = some (.agg ⟨[.slice pa pn pc, .slice wa wn wc, .slice sa sn sc]⟩) := cellsb (List.getElem?_set_self (by omega)) (by simp)
  have hnf : ∀ h1 h2, endH (.agg ⟨[.slice pa pn pc, .slice wa wn wc, .slice sa sn sc]⟩) h1 h2 = h2 := fun h1 h2 => endH_not rfl
  (repeat' first | simp -dsimp (disch := first | omega | assumption | (refine OkS.sto ?_ (by omega); first | assumption | (refine OkS.sto ?_ (by omega); first | assumption | (refine OkS.sto ?_ (by omega); first | assumption | (refine OkS.sto ?_ (by omega); first | assumption | (refine OkS.sto ?_ (by omega); first | assumption | (refine OkS.sto ?_ (by omega); first | assumption)))))) | exact Pfx.refl _ | (apply Pfx.snoc; repeat (first | exact Pfx.refl _ | assumption | apply Pfx.snoc)) | with_unfolding_all exact of_eq_true (eq_true rfl) | (simp only [List.length_append, List.length_cons, List.length_nil]; omega)) only [↓wpre0, ↓wpre1, ↓reduceIte, Int.reduceToNat, Nat.reduceAdd, Nat.reduceMul, Nat.reduceEqDiff, wpost0, wpost1, wpost2, wpost3, wpost4, ite_self, ite_true, ite_false, if_true, if_false, tze30, xst30, xld30, fr6, wrap_int, wrap_u8, iteP_yes, iteP_no, pR, cR, hnf] | refine iteP_two (fun hc hd => ?_) (fun hc hd => ?_) | refine iteP_intro (fun hc => ?_) (fun hc => ?_))
  exact ⟨_, _, _, _, _, _, _, _, _, rfl, hpn, Dst.pfx (Pfx.refl h) (((((Pfx.refl h).snoc.trans p2).dst (b := b)).trans d3).set (Nat.le_refl _)) hb2⟩
end Go.Proofs.YtikanmboimjhgaaDoor.Sim
