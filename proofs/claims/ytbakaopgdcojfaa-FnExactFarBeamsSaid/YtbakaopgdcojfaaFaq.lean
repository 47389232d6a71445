/- Rows of whole numbers: what the functions that compare, mark and hold them come to. Lemmas only; no condition. -/
import Derived.Test.YtbakaopgdcojfaaFab
import Derived.Test.YtbakaopgdcojfaaFlat
set_option linter.unusedSimpArgs false
set_option linter.unusedVariables false
set_option maxRecDepth 8000
namespace Go.Proofs.Ytbakaopgdcojfaa.Sim
open Go Go.RowKit
variable {ro : Nat} {X : Ext}
/-- Rows of whole numbers, each in another block, and none in the block 'bx'. -/
structure NI (lo hi : Nat) (h : Heap) (bx : Nat) (xs : List Value) (gs : List (List Int)) : Prop where
  len : xs.length = gs.length
  row : ∀ i, i < gs.length → IS (bOf (vth xs i)) (bOf (vth xs i) + 1) 1 h (vth xs i) (rowI gs i).length (rowI gs i)
  rng : ∀ i, i < gs.length → lo ≤ bOf (vth xs i) ∧ bOf (vth xs i) < hi
  out : ∀ i, i < gs.length → bOf (vth xs i) ≠ bx
  sep : ∀ i j, i ≠ j → i < gs.length → j < gs.length → bOf (vth xs i) ≠ bOf (vth xs j)
theorem NG.ni {lo t bx : Nat} {h : Heap} {xs : List Value} {gs : List (List Int)} (g : NG lo t h bx xs gs) : NI lo h.length h bx xs gs :=
  ⟨g.len, fun i hi => (g.row i hi).vs.is, fun i hi => (g.row i hi).bof, g.out, fun i j hij hi hj => by
    rcases Nat.lt_or_ge i j with w | w
    · exact g.sep i j w hj
    · exact (g.sep j i (by omega) hi).symm⟩
theorem NI.frame {lo hi bx : Nat} {h h' : Heap} {xs : List Value} {gs : List (List Int)} (g : NI lo hi h bx xs gs) (hh : ∀ b, lo ≤ b → b < hi → b ≠ bx → h'[b]? = h[b]?) : NI lo hi h' bx xs gs :=
  ⟨g.len, fun i hi => (g.row i hi).frame fun b h1 h2 => by
    obtain rfl : b = bOf (vth xs i) := by omega
    exact hh _ (g.rng i hi).1 (g.rng i hi).2 (g.out i hi), g.rng, g.out, g.sep⟩
theorem NI.pre {lo hi bx : Nat} {h h' : Heap} {xs : List Value} {gs : List (List Int)} (g : NI lo hi h bx xs gs) (p : Pfx h h') : NI lo hi h' bx xs gs :=
  ⟨g.len, fun i hi => (g.row i hi).pre p, g.rng, g.out, g.sep⟩
theorem NI.put {lo hi bx a : Nat} {h h' : Heap} {xs : List Value} {gs : List (List Int)} {g : List Int} (q : NI lo hi h bx xs gs) (ha : a < gs.length) (hh : ∀ b, b ≠ bOf (vth xs a) → h'[b]? = h[b]?) (hx : IS (bOf (vth xs a)) (bOf (vth xs a) + 1) 1 h' (vth xs a) g.length g) : NI lo hi h' bx xs (gs.set a g) := by
  refine ⟨by simp [q.len], fun i hi => ?_, fun i hi => q.rng i (by simpa using hi), fun i hi => q.out i (by simpa using hi), fun i j hij hi hj => q.sep i j hij (by simpa using hi) (by simpa using hj)⟩
  simp only [List.length_set] at hi
  rw [rowI_set ha]
  by_cases e : a = i
  · subst e; rw [if_pos rfl]; exact hx
  · rw [if_neg e]
    refine (q.row i hi).frame fun b h1 h2 => ?_
    obtain rfl : b = bOf (vth xs i) := by omega
    exact hh _ (q.sep i a (fun w => e w.symm) hi ha)
theorem rows_ext {gs ms : List (List Int)} (hl : gs.length = ms.length) (h : ∀ j, j < gs.length → rowI gs j = rowI ms j) : gs = ms := by
  refine List.ext_getElem hl fun j h1 h2 => ?_
  rw [rowI_get h1, rowI_get h2]; exact h j h1
theorem eqInt64SS_r (hX : ∀ f, X f = none) {lo hi lo' hi' l1 l2 t1 t2 b1 b2 n n' : Nat} {gs gs' : List (List Int)} {xs ys : List Value} {x y : Value} {h : Heap} (hI : VS lo hi 1 h x n xs) (hG : NI l1 t1 h b1 xs gs) (hJ : VS lo' hi' 1 h y n' ys) (hG' : NI l2 t2 h b2 ys gs') (hn : n ≤ 1099511627776) (hn' : n' ≤ 1099511627776)
    (hr : ∀ i, i < n → (rowI gs i).length ≤ 1099511627776) (hr' : ∀ i, i < n' → (rowI gs' i).length ≤ 1099511627776) (hro : ro ≤ h.length) : Ret Try.prog ro X 26 [x, y] h (.bool (decide (gs = gs'))) := by
  have hl : gs.length = n := by rw [← hG.len, hI.1, Nat.mul_one]
  have hl' : gs'.length = n' := by rw [← hG'.len, hJ.1, Nat.mul_one]
  refine ret_of (callR_of (hX _) Try.func26 rfl (by kernel_rfl) (Nat.le_of_ble_eq_true rfl) ?_)
  (repeat' first | simp -dsimp (disch := first | omega | assumption | (refine OkS.sto ?_ (by omega); first | assumption | (refine OkS.sto ?_ (by omega); first | assumption | (refine OkS.sto ?_ (by omega); first | assumption | (refine OkS.sto ?_ (by omega); first | assumption | (refine OkS.sto ?_ (by omega); first | assumption | (refine OkS.sto ?_ (by omega); first | assumption)))))) | exact Pfx.refl _ | (apply Pfx.snoc; repeat (first | exact Pfx.refl _ | assumption | apply Pfx.snoc)) | with_unfolding_all exact of_eq_true (eq_true rfl) | (simp only [List.length_append, List.length_cons, List.length_nil]; omega)) only [↓wpre0, ↓wpre1, ↓reduceIte, Int.reduceToNat, Nat.reduceAdd, Nat.reduceMul, Nat.reduceEqDiff, wpost0, wpost1, wpost2, wpost3, wpost4, ite_self, ite_true, ite_false, if_true, if_false, xlen39, bin_neq, bin_lss, xiad39, xld63, un_not, bin_add, fr26, wrap_int, wrap_u8, iteP_yes, iteP_no, hI.len Try.underlying39, hJ.len Try.underlying39] | refine iteP_two (fun hc hd => ?_) (fun hc hd => ?_) | refine iteP_intro (fun hc => ?_) (fun hc => ?_))
  · rw [decide_eq_false (fun e => by rw [e] at hl; omega)]
  refine loop_rounds (fun m e h' => ∃ i : Nat, m = n - i ∧ i ≤ n ∧ h' = h ∧ e 0 = x ∧ e 1 = y ∧ e 5 = .int .i64 i ∧ ∀ j, j < i → rowI gs j = rowI gs' j) _ ⟨0, rfl, ?_⟩ ?_
  · simp only [updO_at, updO_not, entry_at, List.getD_cons_zero, List.getD_cons_succ, ↓reduceIte, Nat.reduceEqDiff, true_and, and_true]
    exact ⟨by omega, rfl, fun j hj => by omega⟩
  · rintro m e h' ⟨i, hm, hle, rfl, g0, g1, g5, hall⟩
    by_cases hin : i < n
    · have e1 := eqInt64S_r (ro := ro) hX (hG.row i (by omega)) (hG'.row i (by omega)) (hr i hin) (hr' i (by omega)) hro
      (repeat' first | simp -dsimp (disch := first | omega | assumption | (refine OkS.sto ?_ (by omega); first | assumption | (refine OkS.sto ?_ (by omega); first | assumption | (refine OkS.sto ?_ (by omega); first | assumption | (refine OkS.sto ?_ (by omega); first | assumption | (refine OkS.sto ?_ (by omega); first | assumption | (refine OkS.sto ?_ (by omega); first | assumption)))))) | exact Pfx.refl _ | (apply Pfx.snoc; repeat (first | exact Pfx.refl _ | assumption | apply Pfx.snoc)) | with_unfolding_all exact of_eq_true (eq_true rfl) | (simp only [List.length_append, List.length_cons, List.length_nil]; omega)) only [↓wpre0, ↓wpre1, ↓reduceIte, Int.reduceToNat, Nat.reduceAdd, Nat.reduceMul, Nat.reduceEqDiff, wpost0, wpost1, wpost2, wpost3, wpost4, ite_self, ite_true, ite_false, if_true, if_false, xlen39, bin_neq, bin_lss, xiad39, xld63, un_not, bin_add, fr26, wrap_int, wrap_u8, iteP_yes, iteP_no, g0, g1, g5, hI.len Try.underlying39, VS.iad hI Try.underlying39 tsz63, VS.ld1 hI tsz63 tag63, VS.iad hJ Try.underlying39 tsz63, VS.ld1 hJ tsz63 tag63, Nat.mul_one, e1] | refine iteP_two (fun hc hd => ?_) (fun hc hd => ?_) | refine iteP_intro (fun hc => ?_) (fun hc => ?_))
      · refine ⟨_, by omega, i + 1, rfl, by omega, by simp, fun j hj => ?_⟩
        rcases Nat.lt_or_eq_of_le (show j ≤ i by omega) with q | q
        · exact hall j q
        · rw [q]; assumption
      · rw [decide_eq_false (fun e => by rw [e] at hc; exact hc rfl)]
    · have : i = n := by omega
      subst this
      (repeat' first | simp -dsimp (disch := first | omega | assumption | (refine OkS.sto ?_ (by omega); first | assumption | (refine OkS.sto ?_ (by omega); first | assumption | (refine OkS.sto ?_ (by omega); first | assumption | (refine OkS.sto ?_ (by omega); first | assumption | (refine OkS.sto ?_ (by omega); first | assumption | (refine OkS.sto ?_ (by omega); first | assumption)))))) | exact Pfx.refl _ | (apply Pfx.snoc; repeat (first | exact Pfx.refl _ | assumption | apply Pfx.snoc)) | with_unfolding_all exact of_eq_true (eq_true rfl) | (simp only [List.length_append, List.length_cons, List.length_nil]; omega)) only [↓wpre0, ↓wpre1, ↓reduceIte, Int.reduceToNat, Nat.reduceAdd, Nat.reduceMul, Nat.reduceEqDiff, wpost0, wpost1, wpost2, wpost3, wpost4, ite_self, ite_true, ite_false, if_true, if_false, xlen39, bin_neq, bin_lss, xiad39, xld63, un_not, bin_add, fr26, wrap_int, wrap_u8, iteP_yes, iteP_no, g0, g1, g5, hI.len Try.underlying39] | refine iteP_two (fun hc hd => ?_) (fun hc hd => ?_) | refine iteP_intro (fun hc => ?_) (fun hc => ?_))
      rw [decide_eq_true (rows_ext (by omega) (fun j hj => hall j (by omega)))]
/-- So many numbers in the first rows. -/
def offs (gs : List (List Int)) (i : Nat) : Nat := ((gs.take i).map List.length).sum
theorem offs_zero (gs : List (List Int)) : offs gs 0 = 0 := by simp [offs]
theorem offs_succ {gs : List (List Int)} {i : Nat} (h : i < gs.length) : offs gs (i + 1) = offs gs i + (rowI gs i).length := by
  unfold offs
  rw [List.take_succ_eq_append_getElem h, List.map_append, List.sum_append]
  simp [rowI_get h]
theorem offs_le {gs : List (List Int)} {i j : Nat} (h : i ≤ j) (hj : j ≤ gs.length) : offs gs i ≤ offs gs j := by
  induction j with
  | zero => rw [Nat.le_zero.1 h]; exact Nat.le_refl _
  | succ j ih =>
    rcases Nat.lt_or_eq_of_le h with q | q
    · rw [offs_succ (by omega)]
      have := ih (by omega) (by omega)
      omega
    · rw [q]; exact Nat.le_refl _
/-- Rows of which the first ones are marked. -/
def mks (c : Int) (m : Nat) (gs : List (List Int)) : List (List Int) := (List.range gs.length).map fun j => if j < m then mrk (c + (offs gs j : Nat)) (rowI gs j).length (rowI gs j) else rowI gs j
theorem mks_len (c : Int) (m : Nat) (gs : List (List Int)) : (mks c m gs).length = gs.length := by simp [mks]
theorem row_mks {c : Int} {m j : Nat} {gs : List (List Int)} (hj : j < gs.length) : rowI (mks c m gs) j = if j < m then mrk (c + (offs gs j : Nat)) (rowI gs j).length (rowI gs j) else rowI gs j := by
  simp only [mks]
  rw [← rowI_get (by simpa using hj)]
  simp
theorem mks_zero (c : Int) (gs : List (List Int)) : mks c 0 gs = gs := rows_ext (mks_len _ _ _) fun j hj => by rw [row_mks (by rw [mks_len] at hj; exact hj), if_neg (by omega)]
theorem mks_set {c : Int} {m : Nat} {gs : List (List Int)} (hm : m < gs.length) : (mks c m gs).set m (mrk (c + (offs gs m : Nat)) (rowI gs m).length (rowI gs m)) = mks c (m + 1) gs := by
  refine rows_ext (by simp [mks_len]) fun j hj => ?_
  rw [List.length_set, mks_len] at hj
  rw [rowI_set (by rw [mks_len]; exact hm), row_mks hj, row_mks hj]
  by_cases e : m = j
  · subst e; rw [if_pos rfl, if_pos (by omega)]
  · rw [if_neg e]
    by_cases q : j < m
    · rw [if_pos q, if_pos (by omega)]
    · rw [if_neg q, if_neg (by omega)]
theorem markInt64SS_c (hX : ∀ f, X f = none) {lo hi l1 t1 n : Nat} {gs : List (List Int)} {xs : List Value} {x : Value} {h : Heap} {c : Int} (hI : VS lo hi 1 h x n xs) (hG : NI l1 t1 h (bOf x) xs gs) (hb : n = 0 ∨ lo = bOf x ∧ hi = bOf x + 1) (hn : n ≤ 1099511627776)
    (hr : offs gs n ≤ 1099511627776) (hro : ro ≤ l1) (hc0 : 0 ≤ c) (hc1 : c ≤ 1099511627776) :
    CallR Try.prog ro X 29 [x, .int .i64 c] h (fun r h' => r = .int .i64 (c + (offs gs n : Nat)) ∧ VS lo hi 1 h' x n xs ∧ NI l1 t1 h' (bOf x) xs (mks c n gs) ∧ Rng l1 t1 h h') := by
  have hl : gs.length = n := by rw [← hG.len, hI.1, Nat.mul_one]
  refine callR_of (hX _) Try.func29 rfl (by kernel_rfl) (Nat.le_of_ble_eq_true rfl) ?_
  (repeat' first | simp -dsimp (disch := first | omega | assumption | (refine OkS.sto ?_ (by omega); first | assumption | (refine OkS.sto ?_ (by omega); first | assumption | (refine OkS.sto ?_ (by omega); first | assumption | (refine OkS.sto ?_ (by omega); first | assumption | (refine OkS.sto ?_ (by omega); first | assumption | (refine OkS.sto ?_ (by omega); first | assumption)))))) | exact Pfx.refl _ | (apply Pfx.snoc; repeat (first | exact Pfx.refl _ | assumption | apply Pfx.snoc)) | with_unfolding_all exact of_eq_true (eq_true rfl) | (simp only [List.length_append, List.length_cons, List.length_nil]; omega)) only [↓wpre0, ↓wpre1, ↓reduceIte, Int.reduceToNat, Nat.reduceAdd, Nat.reduceMul, Nat.reduceEqDiff, wpost0, wpost1, wpost2, wpost3, wpost4, ite_self, ite_true, ite_false, if_true, if_false, xlen39, bin_lss, xiad39, xld63, bin_add, fr29, wrap_int, wrap_u8, iteP_yes, iteP_no] | refine iteP_two (fun hc hd => ?_) (fun hc hd => ?_) | refine iteP_intro (fun hc => ?_) (fun hc => ?_))
  refine loop_rounds (fun m e h' => ∃ i : Nat, m = n - i ∧ i ≤ n ∧ VS lo hi 1 h' x n xs ∧ NI l1 t1 h' (bOf x) xs (mks c i gs) ∧ Rng l1 t1 h h' ∧ e 0 = x ∧ e 1 = .int .i64 (c + (offs gs i : Nat)) ∧ e 5 = .int .i64 i) _ ⟨0, rfl, ?_⟩ ?_
  · simp only [updO_at, updO_not, entry_at, List.getD_cons_zero, List.getD_cons_succ, ↓reduceIte, Nat.reduceEqDiff, true_and, and_true]
    refine ⟨by omega, hI, ?_, .refl _ _ _, ?_, rfl⟩
    · rw [mks_zero]; exact hG
    · simp [offs_zero]
  · rintro m e h' ⟨i, hm, hle, hI', hG', ho, g0, g1, g5⟩
    have hlen := ho.1
    by_cases hin : i < n
    · have hrow := hG'.row i (by rw [mks_len]; omega)
      have hrb := hG'.rng i (by rw [mks_len]; omega)
      have hrx := hG'.out i (by rw [mks_len]; omega)
      rw [row_mks (by omega), if_neg (by omega)] at hrow
      have ho1 := offs_le (gs := gs) (i := i + 1) (j := n) (by omega) (by omega)
      rw [offs_succ (by omega)] at ho1
      (repeat' first | simp -dsimp (disch := first | omega | assumption | (refine OkS.sto ?_ (by omega); first | assumption | (refine OkS.sto ?_ (by omega); first | assumption | (refine OkS.sto ?_ (by omega); first | assumption | (refine OkS.sto ?_ (by omega); first | assumption | (refine OkS.sto ?_ (by omega); first | assumption | (refine OkS.sto ?_ (by omega); first | assumption)))))) | exact Pfx.refl _ | (apply Pfx.snoc; repeat (first | exact Pfx.refl _ | assumption | apply Pfx.snoc)) | with_unfolding_all exact of_eq_true (eq_true rfl) | (simp only [List.length_append, List.length_cons, List.length_nil]; omega)) only [↓wpre0, ↓wpre1, ↓reduceIte, Int.reduceToNat, Nat.reduceAdd, Nat.reduceMul, Nat.reduceEqDiff, wpost0, wpost1, wpost2, wpost3, wpost4, ite_self, ite_true, ite_false, if_true, if_false, xlen39, bin_lss, xiad39, xld63, bin_add, fr29, wrap_int, wrap_u8, iteP_yes, iteP_no, g0, g1, g5, hI'.len Try.underlying39, VS.iad hI' Try.underlying39 tsz63, VS.ld1 hI' tsz63 tag63, Nat.mul_one] | refine iteP_two (fun hc hd => ?_) (fun hc hd => ?_) | refine iteP_intro (fun hc => ?_) (fun hc => ?_))
      refine cf_rel (markInt64S_c (ro := ro) (c := c + (offs gs i : Nat)) hX hrow (by omega) (by omega) (by omega) (by omega)) (fun q => by cases q) ?_
      rintro r h2 ⟨rfl, hm2, hr2⟩
      (repeat' first | simp -dsimp (disch := first | omega | assumption | (refine OkS.sto ?_ (by omega); first | assumption | (refine OkS.sto ?_ (by omega); first | assumption | (refine OkS.sto ?_ (by omega); first | assumption | (refine OkS.sto ?_ (by omega); first | assumption | (refine OkS.sto ?_ (by omega); first | assumption | (refine OkS.sto ?_ (by omega); first | assumption)))))) | exact Pfx.refl _ | (apply Pfx.snoc; repeat (first | exact Pfx.refl _ | assumption | apply Pfx.snoc)) | with_unfolding_all exact of_eq_true (eq_true rfl) | (simp only [List.length_append, List.length_cons, List.length_nil]; omega)) only [↓wpre0, ↓wpre1, ↓reduceIte, Int.reduceToNat, Nat.reduceAdd, Nat.reduceMul, Nat.reduceEqDiff, wpost0, wpost1, wpost2, wpost3, wpost4, ite_self, ite_true, ite_false, if_true, if_false, xlen39, bin_lss, xiad39, xld63, bin_add, fr29, wrap_int, wrap_u8, iteP_yes, iteP_no, g0, g1, g5] | refine iteP_two (fun hc hd => ?_) (fun hc hd => ?_) | refine iteP_intro (fun hc => ?_) (fun hc => ?_))
      refine ⟨_, by omega, i + 1, rfl, by omega, hI'.frame (fun b h1 h2 => hr2.2 b (by omega)), ?_, ho.trans ⟨hr2.1, fun b hb => hr2.2 b (by omega)⟩, ?_, by simp⟩
      · rw [← mks_set (by omega)]
        refine hG'.put (by rw [mks_len]; omega) (fun b hb => hr2.2 b (by omega)) ?_
        rw [mrk_len]
        rw [Nat.mul_one] at hm2
        exact hm2
      · rw [offs_succ (by omega)]; congr 1; push_cast; omega
    · have : i = n := by omega
      subst this
      (repeat' first | simp -dsimp (disch := first | omega | assumption | (refine OkS.sto ?_ (by omega); first | assumption | (refine OkS.sto ?_ (by omega); first | assumption | (refine OkS.sto ?_ (by omega); first | assumption | (refine OkS.sto ?_ (by omega); first | assumption | (refine OkS.sto ?_ (by omega); first | assumption | (refine OkS.sto ?_ (by omega); first | assumption)))))) | exact Pfx.refl _ | (apply Pfx.snoc; repeat (first | exact Pfx.refl _ | assumption | apply Pfx.snoc)) | with_unfolding_all exact of_eq_true (eq_true rfl) | (simp only [List.length_append, List.length_cons, List.length_nil]; omega)) only [↓wpre0, ↓wpre1, ↓reduceIte, Int.reduceToNat, Nat.reduceAdd, Nat.reduceMul, Nat.reduceEqDiff, wpost0, wpost1, wpost2, wpost3, wpost4, ite_self, ite_true, ite_false, if_true, if_false, xlen39, bin_lss, xiad39, xld63, bin_add, fr29, wrap_int, wrap_u8, iteP_yes, iteP_no, g0, g1, g5, hI'.len Try.underlying39, endH_len hlen] | refine iteP_two (fun hc hd => ?_) (fun hc hd => ?_) | refine iteP_intro (fun hc => ?_) (fun hc => ?_))
      exact ⟨hI', hG', ho⟩
/-- That the rows' numbers are the marks from 'c' on. -/
def Mkds (c : Int) (gs : List (List Int)) : Prop := ∀ j, j < gs.length → Mrkd (c + (offs gs j : Nat)) (rowI gs j)
theorem offs_mks {c : Int} {m : Nat} {gs : List (List Int)} : ∀ (i : Nat), i ≤ gs.length → offs (mks c m gs) i = offs gs i
  | 0, _ => by rw [offs_zero, offs_zero]
  | i + 1, h => by
    rw [offs_succ (by rw [mks_len]; omega), offs_succ (by omega), offs_mks i (by omega), row_mks (by omega)]
    split
    · rw [mrk_len]
    · rfl
theorem mkds {c : Int} {gs : List (List Int)} : Mkds c (mks c gs.length gs) := fun j hj => by
  rw [mks_len] at hj
  rw [row_mks hj, if_pos hj, offs_mks j (by omega)]
  exact mrkd
theorem heldInt64SS_r (hX : ∀ f, X f = none) {lo hi l1 t1 bx n : Nat} {gs : List (List Int)} {xs : List Value} {x : Value} {h : Heap} {c : Int} (hI : VS lo hi 1 h x n xs) (hG : NI l1 t1 h bx xs gs) (hM : Mkds c gs) (hn : n ≤ 1099511627776)
    (hr : offs gs n ≤ 1099511627776) (hc0 : 0 ≤ c) (hc1 : c ≤ 1099511627776) : Ret Try.prog ro X 30 [x, .int .i64 c] h (.int .i64 (c + (offs gs n : Nat))) := by
  have hl : gs.length = n := by rw [← hG.len, hI.1, Nat.mul_one]
  refine ret_of (callR_of (hX _) Try.func30 rfl (by kernel_rfl) (Nat.le_of_ble_eq_true rfl) ?_)
  (repeat' first | simp -dsimp (disch := first | omega | assumption | (refine OkS.sto ?_ (by omega); first | assumption | (refine OkS.sto ?_ (by omega); first | assumption | (refine OkS.sto ?_ (by omega); first | assumption | (refine OkS.sto ?_ (by omega); first | assumption | (refine OkS.sto ?_ (by omega); first | assumption | (refine OkS.sto ?_ (by omega); first | assumption)))))) | exact Pfx.refl _ | (apply Pfx.snoc; repeat (first | exact Pfx.refl _ | assumption | apply Pfx.snoc)) | with_unfolding_all exact of_eq_true (eq_true rfl) | (simp only [List.length_append, List.length_cons, List.length_nil]; omega)) only [↓wpre0, ↓wpre1, ↓reduceIte, Int.reduceToNat, Nat.reduceAdd, Nat.reduceMul, Nat.reduceEqDiff, wpost0, wpost1, wpost2, wpost3, wpost4, ite_self, ite_true, ite_false, if_true, if_false, xlen39, bin_lss, xiad39, xld63, bin_add, fr30, wrap_int, wrap_u8, iteP_yes, iteP_no] | refine iteP_two (fun hc hd => ?_) (fun hc hd => ?_) | refine iteP_intro (fun hc => ?_) (fun hc => ?_))
  refine loop_rounds (fun m e h' => ∃ i : Nat, m = n - i ∧ i ≤ n ∧ h' = h ∧ e 0 = x ∧ e 1 = .int .i64 (c + (offs gs i : Nat)) ∧ e 5 = .int .i64 i) _ ⟨0, rfl, ?_⟩ ?_
  · simp only [updO_at, updO_not, entry_at, List.getD_cons_zero, List.getD_cons_succ, ↓reduceIte, Nat.reduceEqDiff, true_and, and_true]
    exact ⟨by omega, by simp [offs_zero]⟩
  · rintro m e h' ⟨i, hm, hle, rfl, g0, g1, g5⟩
    by_cases hin : i < n
    · have ho1 := offs_le (gs := gs) (i := i + 1) (j := n) (by omega) (by omega)
      rw [offs_succ (by omega)] at ho1
      have e1 := heldInt64S_r (ro := ro) (c := c + (offs gs i : Nat)) hX (hG.row i (by omega)) (hM i (by omega)) (by omega) (by omega) (by omega)
      (repeat' first | simp -dsimp (disch := first | omega | assumption | (refine OkS.sto ?_ (by omega); first | assumption | (refine OkS.sto ?_ (by omega); first | assumption | (refine OkS.sto ?_ (by omega); first | assumption | (refine OkS.sto ?_ (by omega); first | assumption | (refine OkS.sto ?_ (by omega); first | assumption | (refine OkS.sto ?_ (by omega); first | assumption)))))) | exact Pfx.refl _ | (apply Pfx.snoc; repeat (first | exact Pfx.refl _ | assumption | apply Pfx.snoc)) | with_unfolding_all exact of_eq_true (eq_true rfl) | (simp only [List.length_append, List.length_cons, List.length_nil]; omega)) only [↓wpre0, ↓wpre1, ↓reduceIte, Int.reduceToNat, Nat.reduceAdd, Nat.reduceMul, Nat.reduceEqDiff, wpost0, wpost1, wpost2, wpost3, wpost4, ite_self, ite_true, ite_false, if_true, if_false, xlen39, bin_lss, xiad39, xld63, bin_add, fr30, wrap_int, wrap_u8, iteP_yes, iteP_no, g0, g1, g5, hI.len Try.underlying39, VS.iad hI Try.underlying39 tsz63, VS.ld1 hI tsz63 tag63, Nat.mul_one, e1] | refine iteP_two (fun hc hd => ?_) (fun hc hd => ?_) | refine iteP_intro (fun hc => ?_) (fun hc => ?_))
      refine ⟨_, by omega, i + 1, rfl, by omega, ?_, by simp⟩
      rw [offs_succ (by omega)]; congr 1; push_cast; omega
    · have : i = n := by omega
      subst this
      (repeat' first | simp -dsimp (disch := first | omega | assumption | (refine OkS.sto ?_ (by omega); first | assumption | (refine OkS.sto ?_ (by omega); first | assumption | (refine OkS.sto ?_ (by omega); first | assumption | (refine OkS.sto ?_ (by omega); first | assumption | (refine OkS.sto ?_ (by omega); first | assumption | (refine OkS.sto ?_ (by omega); first | assumption)))))) | exact Pfx.refl _ | (apply Pfx.snoc; repeat (first | exact Pfx.refl _ | assumption | apply Pfx.snoc)) | with_unfolding_all exact of_eq_true (eq_true rfl) | (simp only [List.length_append, List.length_cons, List.length_nil]; omega)) only [↓wpre0, ↓wpre1, ↓reduceIte, Int.reduceToNat, Nat.reduceAdd, Nat.reduceMul, Nat.reduceEqDiff, wpost0, wpost1, wpost2, wpost3, wpost4, ite_self, ite_true, ite_false, if_true, if_false, xlen39, bin_lss, xiad39, xld63, bin_add, fr30, wrap_int, wrap_u8, iteP_yes, iteP_no, g0, g1, g5, hI.len Try.underlying39] | refine iteP_two (fun hc hd => ?_) (fun hc hd => ?_) | refine iteP_intro (fun hc => ?_) (fun hc => ?_))
end Go.Proofs.Ytbakaopgdcojfaa.Sim
