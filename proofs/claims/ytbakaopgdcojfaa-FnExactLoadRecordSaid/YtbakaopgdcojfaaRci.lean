/- Rows of frames: what the functions that compare, mark and hold them come to. Lemmas only; no condition. -/
import Derived.Test.YtbakaopgdcojfaaRch
set_option linter.unusedSimpArgs false
set_option linter.unusedVariables false
set_option maxRecDepth 8000
namespace Go.Proofs.Ytbakaopgdcojfaa.Sim
open Go Go.RowKit
variable {ro : Nat} {X : Ext}
theorem VS.ld2 {P : Program} {lo hi n : Nat} {h : Heap} {x : Value} {L : List Value} {t : TypeId} (s : VS lo hi 2 h x n L) (hs : szT P t = some 2) (ha : aggT P t = true) {i : Nat} (hi : i < n) : ld P h t (ea x (i * 2)) = some (.agg ⟨[vth L (i * 2), vth L (i * 2 + 1)]⟩) := by
  rw [s.ldm hs ha (by omega) (by omega), vals_2]
theorem eqFrameS_r (hX : XN X) {lo hi lo' hi' l1 t1 b1 l2 t2 b2 n m : Nat} {L L' : List Value} {ix : Nat → Int} {zs : Nat → List (Nat × Nat)} {x y : Value} {h : Heap} (hI : VS lo hi 2 h x m L) (hG : NF l1 t1 h b1 n m L ix (fun j => (zs j).map cpx))
    (hJ : VS lo' hi' 2 h y m L') (hG' : NF l2 t2 h b2 n m L' ix (fun j => (zs j).map cpx)) (hm : m ≤ 64) (hn : n ≤ 1000) (hro : ro ≤ h.length) : Ret Try.prog ro X 96 [x, y] h (.bool true) := by
  refine ret_of (callR_of (hX _ rfl) Try.func96 rfl (by kernel_rfl) (Nat.le_of_ble_eq_true rfl) ?_)
  (repeat' first | simp -dsimp (disch := first | omega | assumption | (refine OkS.sto ?_ (by omega); first | assumption | (refine OkS.sto ?_ (by omega); first | assumption | (refine OkS.sto ?_ (by omega); first | assumption | (refine OkS.sto ?_ (by omega); first | assumption | (refine OkS.sto ?_ (by omega); first | assumption | (refine OkS.sto ?_ (by omega); first | assumption)))))) | exact Pfx.refl _ | (apply Pfx.snoc; repeat (first | exact Pfx.refl _ | assumption | apply Pfx.snoc)) | with_unfolding_all exact of_eq_true (eq_true rfl) | (simp only [List.length_append, List.length_cons, List.length_nil]; omega)) only [↓wpre0, ↓wpre1, ↓reduceIte, Int.reduceToNat, Nat.reduceAdd, Nat.reduceMul, Nat.reduceEqDiff, wpost0, wpost1, wpost2, wpost3, wpost4, ite_self, ite_true, ite_false, if_true, if_false, xlen72, bin_neq, bin_lss, xiad72, xld50, un_not, bin_add, fr96, wrap_int, wrap_u8, iteP_yes, iteP_no, hI.len Try.underlying72, hJ.len Try.underlying72] | refine iteP_two (fun hc hd => ?_) (fun hc hd => ?_) | refine iteP_intro (fun hc => ?_) (fun hc => ?_))
  refine loop_rounds (fun k e h' => ∃ i : Nat, k = m - i ∧ i ≤ m ∧ h' = h ∧ e 0 = x ∧ e 1 = y ∧ e 5 = .int .i64 i) _ ⟨0, rfl, ?_⟩ ?_
  · simp only [updO_at, updO_not, entry_at, List.getD_cons_zero, List.getD_cons_succ, ↓reduceIte, Nat.reduceEqDiff, true_and, and_true]
    exact ⟨by omega, rfl⟩
  · rintro k e h' ⟨i, hk, hle, rfl, g0, g1, g5⟩
    by_cases hin : i < m
    · have q1 := hI.ld2 (P := Try.prog) tsz50 tag50 hin
      have q2 := hJ.ld2 (P := Try.prog) tsz50 tag50 hin
      rw [hG.idx i hin] at q1
      rw [hG'.idx i hin] at q2
      have q3 := eqFrame_r (ro := ro) (idx := ix i) hX (hG.row i hin) (hG'.row i hin) (by omega) hro
      (repeat' first | simp -dsimp (disch := first | omega | assumption | (refine OkS.sto ?_ (by omega); first | assumption | (refine OkS.sto ?_ (by omega); first | assumption | (refine OkS.sto ?_ (by omega); first | assumption | (refine OkS.sto ?_ (by omega); first | assumption | (refine OkS.sto ?_ (by omega); first | assumption | (refine OkS.sto ?_ (by omega); first | assumption)))))) | exact Pfx.refl _ | (apply Pfx.snoc; repeat (first | exact Pfx.refl _ | assumption | apply Pfx.snoc)) | with_unfolding_all exact of_eq_true (eq_true rfl) | (simp only [List.length_append, List.length_cons, List.length_nil]; omega)) only [↓wpre0, ↓wpre1, ↓reduceIte, Int.reduceToNat, Nat.reduceAdd, Nat.reduceMul, Nat.reduceEqDiff, wpost0, wpost1, wpost2, wpost3, wpost4, ite_self, ite_true, ite_false, if_true, if_false, xlen72, bin_neq, bin_lss, xiad72, xld50, un_not, bin_add, fr96, wrap_int, wrap_u8, iteP_yes, iteP_no, g0, g1, g5, hI.len Try.underlying72, hJ.len Try.underlying72, VS.iad hI Try.underlying72 tsz50, VS.iad hJ Try.underlying72 tsz50, q1, q2, q3] | refine iteP_two (fun hc hd => ?_) (fun hc hd => ?_) | refine iteP_intro (fun hc => ?_) (fun hc => ?_))
      exact ⟨_, by omega, i + 1, rfl, by omega, by simp⟩
    · have : i = m := by omega
      subst this
      (repeat' first | simp -dsimp (disch := first | omega | assumption | (refine OkS.sto ?_ (by omega); first | assumption | (refine OkS.sto ?_ (by omega); first | assumption | (refine OkS.sto ?_ (by omega); first | assumption | (refine OkS.sto ?_ (by omega); first | assumption | (refine OkS.sto ?_ (by omega); first | assumption | (refine OkS.sto ?_ (by omega); first | assumption)))))) | exact Pfx.refl _ | (apply Pfx.snoc; repeat (first | exact Pfx.refl _ | assumption | apply Pfx.snoc)) | with_unfolding_all exact of_eq_true (eq_true rfl) | (simp only [List.length_append, List.length_cons, List.length_nil]; omega)) only [↓wpre0, ↓wpre1, ↓reduceIte, Int.reduceToNat, Nat.reduceAdd, Nat.reduceMul, Nat.reduceEqDiff, wpost0, wpost1, wpost2, wpost3, wpost4, ite_self, ite_true, ite_false, if_true, if_false, xlen72, bin_neq, bin_lss, xiad72, xld50, un_not, bin_add, fr96, wrap_int, wrap_u8, iteP_yes, iteP_no, g0, g1, g5, hI.len Try.underlying72, hJ.len Try.underlying72] | refine iteP_two (fun hc hd => ?_) (fun hc hd => ?_) | refine iteP_intro (fun hc => ?_) (fun hc => ?_))
/-- The mark of a frame's index, and of its numbers, up to a frame. -/
def mkI (c : Int) (n i : Nat) (ix : Nat → Int) (j : Nat) : Int := if j < i then c + (j * (n + 1) : Nat) else ix j
def mkZ (c : Int) (n i : Nat) (zs : Nat → List Value) (j : Nat) : List Value := if j < i then mkc (c + (j * (n + 1) : Nat) + 1) n (zs j) else zs j
theorem mkI_zero (c : Int) (n : Nat) (ix : Nat → Int) : mkI c n 0 ix = ix := funext fun j => by simp [mkI]
theorem mkZ_zero (c : Int) (n : Nat) (zs : Nat → List Value) : mkZ c n 0 zs = zs := funext fun j => by simp [mkZ]
/-- One more frame is marked. -/
theorem NF.mark {lo hi bx n m i : Nat} {h h' : Heap} {L : List Value} {ix : Nat → Int} {zs : Nat → List Value} {c : Int} (g : NF lo hi h bx n m L (mkI c n i ix) (mkZ c n i zs)) (hi' : i < m)
    (hy : VS (bOf (vth L (i * 2 + 1))) (bOf (vth L (i * 2 + 1)) + 1) 1 h' (vth L (i * 2 + 1)) n (mkc (c + (i * (n + 1) : Nat) + 1) n (zs i))) (hh : ∀ b, b ≠ bx → b ≠ bOf (vth L (i * 2 + 1)) → h'[b]? = h[b]?) :
    NF lo hi h' bx n m (L.set (i * 2) (.int .i64 (c + (i * (n + 1) : Nat)))) (mkI c n (i + 1) ix) (mkZ c n (i + 1) zs) := by
  have hl := g.len
  have e1 : ∀ j, vth (L.set (i * 2) (.int .i64 (c + (i * (n + 1) : Nat)))) (j * 2 + 1) = vth L (j * 2 + 1) := fun j => by
    rw [vth_set (by omega), if_neg (by omega)]
  refine ⟨by rw [List.length_set]; exact hl, fun j hj => ?_, fun j hj => ?_, fun j hj => ?_, fun j hj => ?_, fun a j haj ha hj => ?_⟩
  · rw [vth_set (by omega)]
    by_cases q : j = i
    · subst q; rw [if_pos rfl, mkI, if_pos (by omega)]
    · rw [if_neg (by omega), g.idx j hj]
      unfold mkI
      by_cases w : j < i
      · rw [if_pos w, if_pos (by omega)]
      · rw [if_neg w, if_neg (by omega)]
  · rw [e1]
    by_cases q : j = i
    · subst q
      rw [mkZ, if_pos (by omega)]; exact hy
    · have hz : mkZ c n (i + 1) zs j = mkZ c n i zs j := by
        unfold mkZ
        by_cases w : j < i
        · rw [if_pos w, if_pos (by omega)]
        · rw [if_neg w, if_neg (by omega)]
      rw [hz]
      refine (g.row j hj).frame fun b h1 h2 => ?_
      obtain rfl : b = bOf (vth L (j * 2 + 1)) := by omega
      exact hh _ (g.out j hj) (g.sep j i q hj hi')
  · rw [e1]; exact g.rng j hj
  · rw [e1]; exact g.out j hj
  · rw [e1, e1]; exact g.sep a j haj ha hj
theorem mul_le64 {i m n : Nat} (hi : i ≤ m) (hm : m ≤ 64) (hn : n ≤ 16) : i * (n + 1) ≤ 1088 := by
  have : i * (n + 1) ≤ 64 * 17 := Nat.mul_le_mul (by omega) (by omega)
  omega
theorem mul_succ1 (i n : Nat) : (i + 1) * (n + 1) = i * (n + 1) + 1 + n := by
  rw [Nat.add_mul]; omega
theorem markFrameS_c (hX : XN X) {lo hi l1 t1 n m : Nat} {L : List Value} {ix : Nat → Int} {zs : Nat → List Value} {x : Value} {h : Heap} {c : Int} (hI : VS lo hi 2 h x m L) (hG : NF l1 t1 h (bOf x) n m L ix zs) (hb : l1 ≤ lo ∧ hi ≤ t1) (hm : m ≤ 64) (hn : n ≤ 16) (hro : ro ≤ l1) (hc0 : 0 ≤ c) (hc1 : c ≤ 100) :
    CallR Try.prog ro X 97 [x, .int .i64 c] h (fun r h' => r = .int .i64 (c + (m * (n + 1) : Nat)) ∧ (∃ L', VS lo hi 2 h' x m L' ∧ NF l1 t1 h' (bOf x) n m L' (mkI c n m ix) (mkZ c n m zs)) ∧ Rng l1 t1 h h') := by
  refine callR_of (hX _ rfl) Try.func97 rfl (by kernel_rfl) (Nat.le_of_ble_eq_true rfl) ?_
  (repeat' first | simp -dsimp (disch := first | omega | assumption | (refine OkS.sto ?_ (by omega); first | assumption | (refine OkS.sto ?_ (by omega); first | assumption | (refine OkS.sto ?_ (by omega); first | assumption | (refine OkS.sto ?_ (by omega); first | assumption | (refine OkS.sto ?_ (by omega); first | assumption | (refine OkS.sto ?_ (by omega); first | assumption)))))) | exact Pfx.refl _ | (apply Pfx.snoc; repeat (first | exact Pfx.refl _ | assumption | apply Pfx.snoc)) | with_unfolding_all exact of_eq_true (eq_true rfl) | (simp only [List.length_append, List.length_cons, List.length_nil]; omega)) only [↓wpre0, ↓wpre1, ↓reduceIte, Int.reduceToNat, Nat.reduceAdd, Nat.reduceMul, Nat.reduceEqDiff, wpost0, wpost1, wpost2, wpost3, wpost4, ite_self, ite_true, ite_false, if_true, if_false, xlen72, bin_lss, xiad72, xfad50_0, xst2, bin_add, xfad50_1, xld29, fr97, wrap_int, wrap_u8, iteP_yes, iteP_no] | refine iteP_two (fun hc hd => ?_) (fun hc hd => ?_) | refine iteP_intro (fun hc => ?_) (fun hc => ?_))
  refine loop_rounds (fun k e h' => ∃ (i : Nat) (L' : List Value), k = m - i ∧ i ≤ m ∧ VS lo hi 2 h' x m L' ∧ NF l1 t1 h' (bOf x) n m L' (mkI c n i ix) (mkZ c n i zs) ∧ Rng l1 t1 h h' ∧ e 0 = x ∧ e 1 = .int .i64 (c + (i * (n + 1) : Nat)) ∧ e 5 = .int .i64 i) _ ⟨0, L, rfl, ?_⟩ ?_
  · simp only [updO_at, updO_not, entry_at, List.getD_cons_zero, List.getD_cons_succ, ↓reduceIte, Nat.reduceEqDiff, true_and, and_true]
    refine ⟨by omega, hI, ?_, .refl _ _ _, by simp, rfl⟩
    rw [mkI_zero, mkZ_zero]; exact hG
  · rintro k e h' ⟨i, L', hk, hle, hI', hG', ho, g0, g1, g5⟩
    have hlen := ho.1
    by_cases hin : i < m
    · have b1 := mul_le64 (n := n) (show i + 1 ≤ m by omega) hm hn
      rw [mul_succ1] at b1
      have hrow := hG'.row i hin
      rw [show mkZ c n i zs i = zs i by unfold mkZ; rw [if_neg (by omega)]] at hrow
      have hrr := hG'.rng i hin
      have hout := hG'.out i hin
      have hxb := hI'.bof (by omega)
      have hst := hI'.stv (P := Try.prog) (ro := ro) (c := i * 2) (v := .int .i64 (c + (i * (n + 1) : Nat))) tsz2 (by omega) rfl rfl (by omega)
      have hon := only_sto h' x (i * 2) (.int .i64 (c + (i * (n + 1) : Nat)))
      have hI2 := hI'.sto (c := i * 2) (by omega) (.int .i64 (c + (i * (n + 1) : Nat)))
      have hl2 := hI'.1
      obtain ⟨h2, hh2⟩ : ∃ h2, h2 = Sim.sto h' x (i * 2) (.int .i64 (c + (i * (n + 1) : Nat))) := ⟨_, rfl⟩
      rw [← hh2] at hst hon hI2
      have q1 := VS.ld1 (P := Try.prog) hI2 tsz29 tag29 (c := i * 2 + 1) (by omega)
      rw [vth_set (by omega), if_neg (by omega)] at q1
      have hrow2 := hrow.frame (h' := h2) fun b h1 h3 => hon.2 b (by omega)
      have hn2 : h2.length = h'.length := hon.1
      (repeat' first | simp -dsimp (disch := first | omega | assumption | (refine OkS.sto ?_ (by omega); first | assumption | (refine OkS.sto ?_ (by omega); first | assumption | (refine OkS.sto ?_ (by omega); first | assumption | (refine OkS.sto ?_ (by omega); first | assumption | (refine OkS.sto ?_ (by omega); first | assumption | (refine OkS.sto ?_ (by omega); first | assumption)))))) | exact Pfx.refl _ | (apply Pfx.snoc; repeat (first | exact Pfx.refl _ | assumption | apply Pfx.snoc)) | with_unfolding_all exact of_eq_true (eq_true rfl) | (simp only [List.length_append, List.length_cons, List.length_nil]; omega)) only [↓wpre0, ↓wpre1, ↓reduceIte, Int.reduceToNat, Nat.reduceAdd, Nat.reduceMul, Nat.reduceEqDiff, wpost0, wpost1, wpost2, wpost3, wpost4, ite_self, ite_true, ite_false, if_true, if_false, xlen72, bin_lss, xiad72, xfad50_0, xst2, bin_add, xfad50_1, xld29, fr97, wrap_int, wrap_u8, iteP_yes, iteP_no, g0, g1, g5, hI'.len Try.underlying72, VS.iad hI' Try.underlying72 tsz50, VS.iad hI2 Try.underlying72 tsz50, VS.fad hI' tfi50_0 (by decide), VS.fad hI' tfi50_1 (by decide), VS.fad hI2 tfi50_1 (by decide), Nat.add_zero, hst, q1] | refine iteP_two (fun hc hd => ?_) (fun hc hd => ?_) | refine iteP_intro (fun hc => ?_) (fun hc => ?_))
      refine cf_rel (markComplex64S_c (ro := ro) (c := c + (i * (n + 1) : Nat) + 1) hX hrow2 (by omega) (by omega) (by omega) (by omega)) (fun q => by cases q) ?_
      rintro r h3 ⟨rfl, m1, m2, _⟩
      (repeat' first | simp -dsimp (disch := first | omega | assumption | (refine OkS.sto ?_ (by omega); first | assumption | (refine OkS.sto ?_ (by omega); first | assumption | (refine OkS.sto ?_ (by omega); first | assumption | (refine OkS.sto ?_ (by omega); first | assumption | (refine OkS.sto ?_ (by omega); first | assumption | (refine OkS.sto ?_ (by omega); first | assumption)))))) | exact Pfx.refl _ | (apply Pfx.snoc; repeat (first | exact Pfx.refl _ | assumption | apply Pfx.snoc)) | with_unfolding_all exact of_eq_true (eq_true rfl) | (simp only [List.length_append, List.length_cons, List.length_nil]; omega)) only [↓wpre0, ↓wpre1, ↓reduceIte, Int.reduceToNat, Nat.reduceAdd, Nat.reduceMul, Nat.reduceEqDiff, wpost0, wpost1, wpost2, wpost3, wpost4, ite_self, ite_true, ite_false, if_true, if_false, xlen72, bin_lss, xiad72, xfad50_0, xst2, bin_add, xfad50_1, xld29, fr97, wrap_int, wrap_u8, iteP_yes, iteP_no, g0, g1, g5] | refine iteP_two (fun hc hd => ?_) (fun hc hd => ?_) | refine iteP_intro (fun hc => ?_) (fun hc => ?_))
      refine ⟨_, by omega, i + 1, L'.set (i * 2) (.int .i64 (c + (i * (n + 1) : Nat))), rfl, by omega, hI2.frb (m2.2 _ (by omega)), ?_, ?_, ?_, by simp⟩
      · refine hG'.mark hin m1 fun b n1 n2 => ?_
        rw [m2.2 b (by omega), hon.2 b n1]
      · exact ho.trans ⟨by rw [m2.1, hn2], fun b hb' => by rw [m2.2 b (by omega), hon.2 b (by omega)]⟩
      · rw [mul_succ1]; congr 1; omega
    · have : i = m := by omega
      subst this
      (repeat' first | simp -dsimp (disch := first | omega | assumption | (refine OkS.sto ?_ (by omega); first | assumption | (refine OkS.sto ?_ (by omega); first | assumption | (refine OkS.sto ?_ (by omega); first | assumption | (refine OkS.sto ?_ (by omega); first | assumption | (refine OkS.sto ?_ (by omega); first | assumption | (refine OkS.sto ?_ (by omega); first | assumption)))))) | exact Pfx.refl _ | (apply Pfx.snoc; repeat (first | exact Pfx.refl _ | assumption | apply Pfx.snoc)) | with_unfolding_all exact of_eq_true (eq_true rfl) | (simp only [List.length_append, List.length_cons, List.length_nil]; omega)) only [↓wpre0, ↓wpre1, ↓reduceIte, Int.reduceToNat, Nat.reduceAdd, Nat.reduceMul, Nat.reduceEqDiff, wpost0, wpost1, wpost2, wpost3, wpost4, ite_self, ite_true, ite_false, if_true, if_false, xlen72, bin_lss, xiad72, xfad50_0, xst2, bin_add, xfad50_1, xld29, fr97, wrap_int, wrap_u8, iteP_yes, iteP_no, g0, g1, g5, hI'.len Try.underlying72, endH_len hlen] | refine iteP_two (fun hc hd => ?_) (fun hc hd => ?_) | refine iteP_intro (fun hc => ?_) (fun hc => ?_))
      exact ⟨⟨L', hI', hG'⟩, ho⟩
theorem heldFrameS_r (hX : XN X) {lo hi l1 t1 bx n m : Nat} {L : List Value} {ix : Nat → Int} {zs : Nat → List Value} {x : Value} {h : Heap} {c : Int} (hI : VS lo hi 2 h x m L) (hG : NF l1 t1 h bx n m L (mkI c n m ix) (mkZ c n m zs)) (hm : m ≤ 64) (hn : n ≤ 16) (hc0 : 0 ≤ c) (hc1 : c ≤ 100) :
    Ret Try.prog ro X 98 [x, .int .i64 c] h (.int .i64 (c + (m * (n + 1) : Nat))) := by
  refine ret_of (callR_of (hX _ rfl) Try.func98 rfl (by kernel_rfl) (Nat.le_of_ble_eq_true rfl) ?_)
  (repeat' first | simp -dsimp (disch := first | omega | assumption | (refine OkS.sto ?_ (by omega); first | assumption | (refine OkS.sto ?_ (by omega); first | assumption | (refine OkS.sto ?_ (by omega); first | assumption | (refine OkS.sto ?_ (by omega); first | assumption | (refine OkS.sto ?_ (by omega); first | assumption | (refine OkS.sto ?_ (by omega); first | assumption)))))) | exact Pfx.refl _ | (apply Pfx.snoc; repeat (first | exact Pfx.refl _ | assumption | apply Pfx.snoc)) | with_unfolding_all exact of_eq_true (eq_true rfl) | (simp only [List.length_append, List.length_cons, List.length_nil]; omega)) only [↓wpre0, ↓wpre1, ↓reduceIte, Int.reduceToNat, Nat.reduceAdd, Nat.reduceMul, Nat.reduceEqDiff, wpost0, wpost1, wpost2, wpost3, wpost4, ite_self, ite_true, ite_false, if_true, if_false, xlen72, bin_lss, xiad72, xfad50_0, xld2, bin_neq, bin_add, xfad50_1, xld29, fr98, wrap_int, wrap_u8, iteP_yes, iteP_no] | refine iteP_two (fun hc hd => ?_) (fun hc hd => ?_) | refine iteP_intro (fun hc => ?_) (fun hc => ?_))
  refine loop_rounds (fun k e h' => ∃ i : Nat, k = m - i ∧ i ≤ m ∧ h' = h ∧ e 0 = x ∧ e 1 = .int .i64 (c + (i * (n + 1) : Nat)) ∧ e 5 = .int .i64 i) _ ⟨0, rfl, ?_⟩ ?_
  · simp only [updO_at, updO_not, entry_at, List.getD_cons_zero, List.getD_cons_succ, ↓reduceIte, Nat.reduceEqDiff, true_and, and_true]
    exact ⟨by omega, by simp⟩
  · rintro k e h' ⟨i, hk, hle, rfl, g0, g1, g5⟩
    by_cases hin : i < m
    · have b1 := mul_le64 (n := n) (show i + 1 ≤ m by omega) hm hn
      rw [mul_succ1] at b1
      have hrow := hG.row i hin
      rw [show mkZ c n m zs i = mkc (c + (i * (n + 1) : Nat) + 1) n (zs i) by unfold mkZ; rw [if_pos hin]] at hrow
      have q0 := VS.ld1 (P := Try.prog) hI tsz2 tag2 (c := i * 2) (by omega)
      rw [hG.idx i hin, show mkI c n m ix i = c + (i * (n + 1) : Nat) by unfold mkI; rw [if_pos hin]] at q0
      have q1 := VS.ld1 (P := Try.prog) hI tsz29 tag29 (c := i * 2 + 1) (by omega)
      have q2 := heldComplex64S_r (ro := ro) (c := c + (i * (n + 1) : Nat) + 1) hX hrow (fun j hj => mkc_vth hj) (by omega) (by omega) (by omega)
      (repeat' first | simp -dsimp (disch := first | omega | assumption | (refine OkS.sto ?_ (by omega); first | assumption | (refine OkS.sto ?_ (by omega); first | assumption | (refine OkS.sto ?_ (by omega); first | assumption | (refine OkS.sto ?_ (by omega); first | assumption | (refine OkS.sto ?_ (by omega); first | assumption | (refine OkS.sto ?_ (by omega); first | assumption)))))) | exact Pfx.refl _ | (apply Pfx.snoc; repeat (first | exact Pfx.refl _ | assumption | apply Pfx.snoc)) | with_unfolding_all exact of_eq_true (eq_true rfl) | (simp only [List.length_append, List.length_cons, List.length_nil]; omega)) only [↓wpre0, ↓wpre1, ↓reduceIte, Int.reduceToNat, Nat.reduceAdd, Nat.reduceMul, Nat.reduceEqDiff, wpost0, wpost1, wpost2, wpost3, wpost4, ite_self, ite_true, ite_false, if_true, if_false, xlen72, bin_lss, xiad72, xfad50_0, xld2, bin_neq, bin_add, xfad50_1, xld29, fr98, wrap_int, wrap_u8, iteP_yes, iteP_no, g0, g1, g5, hI.len Try.underlying72, VS.iad hI Try.underlying72 tsz50, VS.fad hI tfi50_0 (by decide), VS.fad hI tfi50_1 (by decide), Nat.add_zero, q0, q1, q2] | refine iteP_two (fun hc hd => ?_) (fun hc hd => ?_) | refine iteP_intro (fun hc => ?_) (fun hc => ?_))
      refine ⟨_, by omega, i + 1, rfl, by omega, ?_, by simp⟩
      rw [mul_succ1]; congr 1; omega
    · have : i = m := by omega
      subst this
      (repeat' first | simp -dsimp (disch := first | omega | assumption | (refine OkS.sto ?_ (by omega); first | assumption | (refine OkS.sto ?_ (by omega); first | assumption | (refine OkS.sto ?_ (by omega); first | assumption | (refine OkS.sto ?_ (by omega); first | assumption | (refine OkS.sto ?_ (by omega); first | assumption | (refine OkS.sto ?_ (by omega); first | assumption)))))) | exact Pfx.refl _ | (apply Pfx.snoc; repeat (first | exact Pfx.refl _ | assumption | apply Pfx.snoc)) | with_unfolding_all exact of_eq_true (eq_true rfl) | (simp only [List.length_append, List.length_cons, List.length_nil]; omega)) only [↓wpre0, ↓wpre1, ↓reduceIte, Int.reduceToNat, Nat.reduceAdd, Nat.reduceMul, Nat.reduceEqDiff, wpost0, wpost1, wpost2, wpost3, wpost4, ite_self, ite_true, ite_false, if_true, if_false, xlen72, bin_lss, xiad72, xfad50_0, xld2, bin_neq, bin_add, xfad50_1, xld29, fr98, wrap_int, wrap_u8, iteP_yes, iteP_no, g0, g1, g5, hI.len Try.underlying72] | refine iteP_two (fun hc hd => ?_) (fun hc hd => ?_) | refine iteP_intro (fun hc => ?_) (fun hc => ?_))
end Go.Proofs.Ytbakaopgdcojfaa.Sim
