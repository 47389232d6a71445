/- Sorting of a few whole numbers, by insertion. Lemmas only; no condition. -/
import Derived.Test.YtelogajobjflfaaVs
import Derived.Test.YtelogajobjflfaaSimU
import Derived.Test.YtelogajobjflfaaAcc
set_option linter.unusedSimpArgs false
set_option linter.unusedVariables false
set_option maxRecDepth 8000
namespace Go.Proofs.Ytelogajobjflfaa.Sim
open Go Go.RowKit
variable {ro : Nat} {X : Ext}
/-- The first numbers are in order by a key. -/
def srtd (k : Int → Int) (l : List Int) (i : Nat) : Prop := ∀ p q, p < q → q < i → k (nth l p) ≤ k (nth l q)
/-- .. but for the number at a place, and that is not greater than those behind it. -/
def srtB (k : Int → Int) (l : List Int) (i j : Nat) : Prop := (∀ p q, p < q → q ≤ i → p ≠ j → q ≠ j → k (nth l p) ≤ k (nth l q)) ∧ ∀ q, j < q → q ≤ i → k (nth l j) ≤ k (nth l q)
theorem srtB_start {k : Int → Int} {l : List Int} {i : Nat} (h : srtd k l i) : srtB k l i i := ⟨fun p q h1 h2 h3 h4 => h p q h1 (by omega), fun q h1 h2 => by omega⟩
theorem srtB_zero {k : Int → Int} {l : List Int} {i : Nat} (h : srtB k l i 0) : srtd k l (i + 1) := fun p q h1 h2 => by
  by_cases e : p = 0
  · subst e; exact h.2 q h1 (by omega)
  · exact h.1 p q h1 (by omega) e (by omega)
theorem srtB_stop {k : Int → Int} {l : List Int} {i j : Nat} (h : srtB k l i (j + 1)) (hj : j + 1 ≤ i) (hk : k (nth l j) ≤ k (nth l (j + 1))) : srtd k l (i + 1) := fun p q h1 h2 => by
  by_cases e : p = j + 1
  · subst e; exact h.2 q h1 (by omega)
  · by_cases e2 : q = j + 1
    · subst e2
      by_cases e3 : p = j
      · rw [e3]; exact hk
      · exact Int.le_trans (h.1 p j (by omega) (by omega) e (by omega)) hk
    · exact h.1 p q h1 (by omega) e e2
def swp (l : List Int) (j : Nat) : List Int := (l.set (j + 1) (nth l j)).set j (nth l (j + 1))
theorem swp_len (l : List Int) (j : Nat) : (swp l j).length = l.length := by simp [swp]
theorem nth_get {l : List Int} {j : Nat} (h : j < l.length) : nth l j = l[j] := by simp [nth, h]
theorem swp_perm {l : List Int} {j : Nat} (h : j + 1 < l.length) : (swp l j).Perm l := by
  unfold swp
  rw [nth_get h, nth_get (show j < l.length by omega)]
  exact List.set_set_perm h (by omega)
theorem nth_swp {l : List Int} {j : Nat} (h : j + 1 < l.length) (q : Nat) : nth (swp l j) q = if q = j then nth l (j + 1) else if q = j + 1 then nth l j else nth l q := by
  unfold swp
  rw [nth_set (by rw [List.length_set]; omega)]
  by_cases e : j = q
  · rw [if_pos e, if_pos e.symm]
  · rw [if_neg e, if_neg (fun z => e z.symm), nth_set h]
    by_cases e2 : j + 1 = q
    · rw [if_pos e2, if_pos e2.symm]
    · rw [if_neg e2, if_neg (fun z => e2 z.symm)]
theorem srtB_swap {k : Int → Int} {l : List Int} {i j : Nat} (h : srtB k l i (j + 1)) (hj : j + 1 ≤ i) (hi : i < l.length) (hk : k (nth l (j + 1)) < k (nth l j)) : srtB k (swp l j) i j := by
  have hl : j + 1 < l.length := by omega
  refine ⟨fun p q h1 h2 h3 h4 => ?_, fun q h1 h2 => ?_⟩
  · rw [nth_swp hl p, nth_swp hl q, if_neg h3, if_neg h4]
    by_cases ep : p = j + 1
    · rw [if_pos ep]
      rw [if_neg (by omega)]
      exact h.1 j q (by omega) h2 (by omega) (by omega)
    · rw [if_neg ep]
      by_cases eq : q = j + 1
      · rw [if_pos eq]
        exact h.1 p j (by omega) (by omega) ep (by omega)
      · rw [if_neg eq]
        exact h.1 p q h1 h2 ep eq
  · rw [nth_swp hl j, if_pos rfl, nth_swp hl q, if_neg (by omega)]
    by_cases eq : q = j + 1
    · rw [if_pos eq]; omega
    · rw [if_neg eq]
      exact h.2 q (by omega) h2
theorem srtd_pair {k : Int → Int} {l : List Int} (h : srtd k l l.length) : l.Pairwise fun a b => k a ≤ k b := by
  rw [List.pairwise_iff_getElem]
  intro p q hp hq hpq
  have := h p q hpq hq
  rwa [nth_get hp, nth_get hq] at this
variable {lo hi n : Nat} {x : Value} {h : Heap} {l : List Int}
/-- The kinds of all blocks are as they were. -/
def TyE (h h' : Heap) : Prop := ∀ b : Nat, (h'[b]?).map Blk.ty = (h[b]?).map Blk.ty
theorem TyE.refl (h : Heap) : TyE h h := fun _ => rfl
theorem TyE.trans {a b c : Heap} (x : TyE a b) (y : TyE b c) : TyE a c := fun k => (y k).trans (x k)
theorem TyE.sto (h : Heap) (x : Value) (c : Nat) (v : Value) : TyE h (Sim.sto h x c v) := by
  intro b
  unfold Sim.sto
  split
  · rename_i b' o n cap
    split
    · rename_i Bk hb
      rw [List.getElem?_set]
      split
      · rename_i e
        subst e
        rw [if_pos (lt_of_some hb), hb]; rfl
      · rfl
    · rfl
  · rfl
/-- What a sort leaves. -/
def SRT (k : Int → Int) (lo hi n : Nat) (x : Value) (h : Heap) (l : List Int) (h' : Heap) : Prop := ∃ l', IS lo hi 1 h' x n l' ∧ l'.Perm l ∧ srtd k l' n ∧ Rng lo hi h h' ∧ TyE h h'
theorem toNat_p (k : Nat) : ((k + 1 : Nat) : Int) - 1 = (k : Int) := by omega
theorem toNat_s (k : Nat) : (k : Int) + 1 = ((k + 1 : Nat) : Int) := by omega
set_option maxHeartbeats 2000000 in
theorem insCmp_c (hX : XN X) (k : Int → Int) (f : FuncId) (cap : List Value) (hI : IS lo hi 1 h x n l) (hro : ro ≤ lo) (hn : n ≤ 1048576)
    (hf : ∀ (H : Heap) (a b : Int), Rng lo hi h H → a ∈ l → b ∈ l → ∃ c : Int, (c < 0 ↔ k a < k b) ∧ Ret Try.prog ro X f (.int .i64 a :: .int .i64 b :: cap) H (.int .i64 c)) :
    CallR Try.prog ro X 242 [x, .int .i64 0, .int .i64 n, .func (.func f) ⟨[]⟩ ⟨cap⟩] h (fun r h' => SRT k lo hi n x h l h') := by
  have hl : l.length = n := by rw [hI.1, Nat.mul_one]
  refine callR_of (hX _ rfl) Try.func242 rfl (by kernel_rfl) (Nat.le_of_ble_eq_true rfl) ?_
  (repeat' first | simp -dsimp (disch := first | omega | assumption | (refine OkS.sto ?_ (by omega); first | assumption | (refine OkS.sto ?_ (by omega); first | assumption | (refine OkS.sto ?_ (by omega); first | assumption | (refine OkS.sto ?_ (by omega); first | assumption | (refine OkS.sto ?_ (by omega); first | assumption | (refine OkS.sto ?_ (by omega); first | assumption)))))) | exact Pfx.refl _ | (apply Pfx.snoc; repeat (first | exact Pfx.refl _ | assumption | apply Pfx.snoc)) | with_unfolding_all exact of_eq_true (eq_true rfl) | (simp only [List.length_append, List.length_cons, List.length_nil]; omega)) only [↓wpre0, ↓wpre1, ↓reduceIte, Int.reduceToNat, Nat.reduceAdd, Nat.reduceMul, Nat.reduceEqDiff, wpost0, wpost1, wpost2, wpost3, wpost4, ite_self, ite_true, ite_false, if_true, if_false, bin_add, bin_lss, bin_gtr, xiad32, xld2, bin_sub, xst2, fr242, wrap_int, wrap_u8, iteP_yes, iteP_no] | refine iteP_two (fun hc hd => ?_) (fun hc hd => ?_) | refine iteP_intro (fun hc => ?_) (fun hc => ?_))
  refine loop_rounds (fun m e h' => ∃ (i : Nat) (l' : List Int), m = n - i ∧ 1 ≤ i ∧ (i ≤ n ∨ i = 1) ∧ e 0 = x ∧ e 1 = .int .i64 0 ∧ e 2 = .int .i64 n ∧ e 3 = .func (.func f) ⟨[]⟩ ⟨cap⟩ ∧ e 8 = .int .i64 i ∧ IS lo hi 1 h' x n l' ∧ l'.Perm l ∧ srtd k l' i ∧ Rng lo hi h h' ∧ TyE h h') _ ⟨1, l, rfl, ?_⟩ ?_
  · simp only [updO_at, updO_not, entry_at, List.getD_cons_zero, List.getD_cons_succ, ↓reduceIte, Nat.reduceEqDiff, true_and, and_true]
    (repeat' (first | assumption | rfl | omega | exact trivial | exact Or.inr trivial | exact List.Perm.refl _ | exact fun p q h1 h2 => by omega | exact Rng.refl _ _ _ | exact TyE.refl _ | refine And.intro ?_ ?_))
  · rintro m e h' ⟨i, l', hm, hi1, hin', g0, g1, g2, g3, g8, hI', hp, hs, hr, ht⟩
    have hl' : l'.length = n := by rw [hI'.1, Nat.mul_one]
    have hks := toNat_s i
    by_cases hin : i < n
    · (repeat' first | simp -dsimp (disch := first | omega | assumption | (refine OkS.sto ?_ (by omega); first | assumption | (refine OkS.sto ?_ (by omega); first | assumption | (refine OkS.sto ?_ (by omega); first | assumption | (refine OkS.sto ?_ (by omega); first | assumption | (refine OkS.sto ?_ (by omega); first | assumption | (refine OkS.sto ?_ (by omega); first | assumption)))))) | exact Pfx.refl _ | (apply Pfx.snoc; repeat (first | exact Pfx.refl _ | assumption | apply Pfx.snoc)) | with_unfolding_all exact of_eq_true (eq_true rfl) | (simp only [List.length_append, List.length_cons, List.length_nil]; omega)) only [↓wpre0, ↓wpre1, ↓reduceIte, Int.reduceToNat, Nat.reduceAdd, Nat.reduceMul, Nat.reduceEqDiff, wpost0, wpost1, wpost2, wpost3, wpost4, ite_self, ite_true, ite_false, if_true, if_false, bin_add, bin_lss, bin_gtr, xiad32, xld2, bin_sub, xst2, fr242, wrap_int, wrap_u8, iteP_yes, iteP_no, g0, g1, g2, g3, g8] | refine iteP_two (fun hc hd => ?_) (fun hc hd => ?_) | refine iteP_intro (fun hc => ?_) (fun hc => ?_))
      refine loop_exit 2 (fun e h2 => ∃ l2, e 0 = x ∧ e 1 = .int .i64 0 ∧ e 2 = .int .i64 n ∧ e 3 = .func (.func f) ⟨[]⟩ ⟨cap⟩ ∧ e 8 = .int .i64 i ∧ IS lo hi 1 h2 x n l2 ∧ l2.Perm l ∧ srtd k l2 (i + 1) ∧ Rng lo hi h h2 ∧ TyE h h2) ?_ ?_
      · refine loop_rounds (fun m e h2 => ∃ (j : Nat) (l2 : List Int), m = j ∧ j ≤ i ∧ e 0 = x ∧ e 1 = .int .i64 0 ∧ e 2 = .int .i64 n ∧ e 3 = .func (.func f) ⟨[]⟩ ⟨cap⟩ ∧ e 8 = .int .i64 i ∧ e 9 = .int .i64 j ∧ IS lo hi 1 h2 x n l2 ∧ l2.Perm l ∧ srtB k l2 i j ∧ Rng lo hi h h2 ∧ TyE h h2) _ ⟨i, l', rfl, ?_⟩ ?_
        · simp only [updO_at, updO_not, entry_at, List.getD_cons_zero, List.getD_cons_succ, ↓reduceIte, Nat.reduceEqDiff, true_and, and_true]
          (repeat' (first | assumption | rfl | omega | exact srtB_start hs | refine And.intro ?_ ?_))
        · rintro m e h2 ⟨j, l2, hm, hji, g0, g1, g2, g3, g8, g9, hI2, hp2, hs2, hr2, ht2⟩
          have hl2 : l2.length = n := by rw [hI2.1, Nat.mul_one]
          cases j with
          | zero =>
            (repeat' first | simp -dsimp (disch := first | omega | assumption | (refine OkS.sto ?_ (by omega); first | assumption | (refine OkS.sto ?_ (by omega); first | assumption | (refine OkS.sto ?_ (by omega); first | assumption | (refine OkS.sto ?_ (by omega); first | assumption | (refine OkS.sto ?_ (by omega); first | assumption | (refine OkS.sto ?_ (by omega); first | assumption)))))) | exact Pfx.refl _ | (apply Pfx.snoc; repeat (first | exact Pfx.refl _ | assumption | apply Pfx.snoc)) | with_unfolding_all exact of_eq_true (eq_true rfl) | (simp only [List.length_append, List.length_cons, List.length_nil]; omega)) only [↓wpre0, ↓wpre1, ↓reduceIte, Int.reduceToNat, Nat.reduceAdd, Nat.reduceMul, Nat.reduceEqDiff, wpost0, wpost1, wpost2, wpost3, wpost4, ite_self, ite_true, ite_false, if_true, if_false, bin_add, bin_lss, bin_gtr, xiad32, xld2, bin_sub, xst2, fr242, wrap_int, wrap_u8, iteP_yes, iteP_no, g0, g1, g2, g3, g8, g9] | refine iteP_two (fun hc hd => ?_) (fun hc hd => ?_) | refine iteP_intro (fun hc => ?_) (fun hc => ?_))
            exact ⟨l2, by (repeat' (first | assumption | rfl | omega | exact srtB_zero hs2 | refine And.intro ?_ ?_))⟩
          | succ j =>
            have hk := toNat_p j
            have m1 : nth l2 (j + 1) ∈ l := hp2.mem_iff.1 (by rw [nth_get (show j + 1 < l2.length by omega)]; exact List.getElem_mem _)
            have m0 : nth l2 j ∈ l := hp2.mem_iff.1 (by rw [nth_get (show j < l2.length by omega)]; exact List.getElem_mem _)
            obtain ⟨c, hc, hcf⟩ := hf h2 _ _ hr2 m1 m0
            by_cases hlt : k (nth l2 (j + 1)) < k (nth l2 j)
            · have hc0 := hc.2 hlt
              have ok2 := hI2.ok
              (repeat' first | simp -dsimp (disch := first | omega | assumption | (refine OkS.sto ?_ (by omega); first | assumption | (refine OkS.sto ?_ (by omega); first | assumption | (refine OkS.sto ?_ (by omega); first | assumption | (refine OkS.sto ?_ (by omega); first | assumption | (refine OkS.sto ?_ (by omega); first | assumption | (refine OkS.sto ?_ (by omega); first | assumption)))))) | exact Pfx.refl _ | (apply Pfx.snoc; repeat (first | exact Pfx.refl _ | assumption | apply Pfx.snoc)) | with_unfolding_all exact of_eq_true (eq_true rfl) | (simp only [List.length_append, List.length_cons, List.length_nil]; omega)) only [↓wpre0, ↓wpre1, ↓reduceIte, Int.reduceToNat, Nat.reduceAdd, Nat.reduceMul, Nat.reduceEqDiff, wpost0, wpost1, wpost2, wpost3, wpost4, ite_self, ite_true, ite_false, if_true, if_false, bin_add, bin_lss, bin_gtr, xiad32, xld2, bin_sub, xst2, fr242, wrap_int, wrap_u8, iteP_yes, iteP_no, g0, g1, g2, g3, g8, g9, hk, IS.iad hI2 Try.underlying32 tsz2, IS.ld1 hI2 tsz2 tag2, Nat.mul_one, hcf, stv_sto (lo := lo) (hi := hi) (k := 1) (n := n) (x := x) tsz2 hro] | refine iteP_two (fun hc hd => ?_) (fun hc hd => ?_) | refine iteP_intro (fun hc => ?_) (fun hc => ?_))
              have q1 := (hI2.sto (c := j + 1) (by omega) (nth l2 j)).sto (c := j) (by omega) (nth l2 (j + 1))
              have q2 := (hr2.trans (hI2.rsto (by omega) (j + 1) (.int .i64 (nth l2 j)))).trans (IS.rsto (hI2.sto (c := j + 1) (by omega) (nth l2 j)) (by omega) j (.int .i64 (nth l2 (j + 1))))
              have q3 := (ht2.trans (TyE.sto h2 x (j + 1) (.int .i64 (nth l2 j)))).trans (TyE.sto _ x j (.int .i64 (nth l2 (j + 1))))
              refine ⟨j, by omega, j, swp l2 j, ?_⟩
              (repeat' (first | assumption | rfl | omega | exact (swp_perm (by omega)).trans hp2 | exact srtB_swap hs2 (by omega) (by omega) hlt | refine And.intro ?_ ?_))
            · have hc0 : ¬ c < 0 := fun z => hlt (hc.1 z)
              (repeat' first | simp -dsimp (disch := first | omega | assumption | (refine OkS.sto ?_ (by omega); first | assumption | (refine OkS.sto ?_ (by omega); first | assumption | (refine OkS.sto ?_ (by omega); first | assumption | (refine OkS.sto ?_ (by omega); first | assumption | (refine OkS.sto ?_ (by omega); first | assumption | (refine OkS.sto ?_ (by omega); first | assumption)))))) | exact Pfx.refl _ | (apply Pfx.snoc; repeat (first | exact Pfx.refl _ | assumption | apply Pfx.snoc)) | with_unfolding_all exact of_eq_true (eq_true rfl) | (simp only [List.length_append, List.length_cons, List.length_nil]; omega)) only [↓wpre0, ↓wpre1, ↓reduceIte, Int.reduceToNat, Nat.reduceAdd, Nat.reduceMul, Nat.reduceEqDiff, wpost0, wpost1, wpost2, wpost3, wpost4, ite_self, ite_true, ite_false, if_true, if_false, bin_add, bin_lss, bin_gtr, xiad32, xld2, bin_sub, xst2, fr242, wrap_int, wrap_u8, iteP_yes, iteP_no, g0, g1, g2, g3, g8, g9, hk, IS.iad hI2 Try.underlying32 tsz2, IS.ld1 hI2 tsz2 tag2, Nat.mul_one, hcf] | refine iteP_two (fun hc hd => ?_) (fun hc hd => ?_) | refine iteP_intro (fun hc => ?_) (fun hc => ?_))
              exact ⟨l2, by (repeat' (first | assumption | rfl | omega | exact srtB_stop hs2 (by omega) (by omega) | refine And.intro ?_ ?_))⟩
      · rintro e h2 ⟨l2, g0, g1, g2, g3, g8, hI2, hp2, hs2, hr2, ht2⟩
        (repeat' first | simp -dsimp (disch := first | omega | assumption | (refine OkS.sto ?_ (by omega); first | assumption | (refine OkS.sto ?_ (by omega); first | assumption | (refine OkS.sto ?_ (by omega); first | assumption | (refine OkS.sto ?_ (by omega); first | assumption | (refine OkS.sto ?_ (by omega); first | assumption | (refine OkS.sto ?_ (by omega); first | assumption)))))) | exact Pfx.refl _ | (apply Pfx.snoc; repeat (first | exact Pfx.refl _ | assumption | apply Pfx.snoc)) | with_unfolding_all exact of_eq_true (eq_true rfl) | (simp only [List.length_append, List.length_cons, List.length_nil]; omega)) only [↓wpre0, ↓wpre1, ↓reduceIte, Int.reduceToNat, Nat.reduceAdd, Nat.reduceMul, Nat.reduceEqDiff, wpost0, wpost1, wpost2, wpost3, wpost4, ite_self, ite_true, ite_false, if_true, if_false, bin_add, bin_lss, bin_gtr, xiad32, xld2, bin_sub, xst2, fr242, wrap_int, wrap_u8, iteP_yes, iteP_no, g0, g1, g2, g3, g8] | refine iteP_two (fun hc hd => ?_) (fun hc hd => ?_) | refine iteP_intro (fun hc => ?_) (fun hc => ?_))
        refine ⟨n - (i + 1), by omega, i + 1, l2, ?_⟩
        (repeat' (first | assumption | rfl | omega | exact Or.inl (by omega) | (rw [hks]) | refine And.intro ?_ ?_))
    · have ef : ∀ v, endH v h h' = h' := fun v => endH_len hr.1
      (repeat' first | simp -dsimp (disch := first | omega | assumption | (refine OkS.sto ?_ (by omega); first | assumption | (refine OkS.sto ?_ (by omega); first | assumption | (refine OkS.sto ?_ (by omega); first | assumption | (refine OkS.sto ?_ (by omega); first | assumption | (refine OkS.sto ?_ (by omega); first | assumption | (refine OkS.sto ?_ (by omega); first | assumption)))))) | exact Pfx.refl _ | (apply Pfx.snoc; repeat (first | exact Pfx.refl _ | assumption | apply Pfx.snoc)) | with_unfolding_all exact of_eq_true (eq_true rfl) | (simp only [List.length_append, List.length_cons, List.length_nil]; omega)) only [↓wpre0, ↓wpre1, ↓reduceIte, Int.reduceToNat, Nat.reduceAdd, Nat.reduceMul, Nat.reduceEqDiff, wpost0, wpost1, wpost2, wpost3, wpost4, ite_self, ite_true, ite_false, if_true, if_false, bin_add, bin_lss, bin_gtr, xiad32, xld2, bin_sub, xst2, fr242, wrap_int, wrap_u8, iteP_yes, iteP_no, g0, g1, g2, g3, g8, ef] | refine iteP_two (fun hc hd => ?_) (fun hc hd => ?_) | refine iteP_intro (fun hc => ?_) (fun hc => ?_))
      have hsn : srtd k l' n := fun p q h1 h2 => hs p q h1 (by omega)
      exact ⟨l', hI', hp, hsn, hr, ht⟩
theorem isNaNI_r (hX : XN X) (a : Int) (h : Heap) : Ret Try.prog ro X 286 [.int .i64 a] h (.bool false) := by
  refine ret_of (callR_of (hX _ rfl) Try.func286 rfl (by kernel_rfl) (Nat.le_of_ble_eq_true rfl) ?_)
  (repeat' first | simp -dsimp (disch := first | omega | assumption | (refine OkS.sto ?_ (by omega); first | assumption | (refine OkS.sto ?_ (by omega); first | assumption | (refine OkS.sto ?_ (by omega); first | assumption | (refine OkS.sto ?_ (by omega); first | assumption | (refine OkS.sto ?_ (by omega); first | assumption | (refine OkS.sto ?_ (by omega); first | assumption)))))) | exact Pfx.refl _ | (apply Pfx.snoc; repeat (first | exact Pfx.refl _ | assumption | apply Pfx.snoc)) | with_unfolding_all exact of_eq_true (eq_true rfl) | (simp only [List.length_append, List.length_cons, List.length_nil]; omega)) only [↓wpre0, ↓wpre1, ↓reduceIte, Int.reduceToNat, Nat.reduceAdd, Nat.reduceMul, Nat.reduceEqDiff, wpost0, wpost1, wpost2, wpost3, wpost4, ite_self, ite_true, ite_false, if_true, if_false, bin_neq, fr286, wrap_int, wrap_u8, iteP_yes, iteP_no] | refine iteP_two (fun hc hd => ?_) (fun hc hd => ?_) | refine iteP_intro (fun hc => ?_) (fun hc => ?_))
  simp
theorem less_r (hX : XN X) (a b : Int) (h : Heap) : Ret Try.prog ro X 250 [.int .i64 a, .int .i64 b] h (.bool (decide (a < b))) := by
  refine ret_of (callR_of (hX _ rfl) Try.func250 rfl (by kernel_rfl) (Nat.le_of_ble_eq_true rfl) ?_)
  (repeat' first | simp -dsimp (disch := first | omega | assumption | (refine OkS.sto ?_ (by omega); first | assumption | (refine OkS.sto ?_ (by omega); first | assumption | (refine OkS.sto ?_ (by omega); first | assumption | (refine OkS.sto ?_ (by omega); first | assumption | (refine OkS.sto ?_ (by omega); first | assumption | (refine OkS.sto ?_ (by omega); first | assumption)))))) | exact Pfx.refl _ | (apply Pfx.snoc; repeat (first | exact Pfx.refl _ | assumption | apply Pfx.snoc)) | with_unfolding_all exact of_eq_true (eq_true rfl) | (simp only [List.length_append, List.length_cons, List.length_nil]; omega)) only [↓wpre0, ↓wpre1, ↓reduceIte, Int.reduceToNat, Nat.reduceAdd, Nat.reduceMul, Nat.reduceEqDiff, wpost0, wpost1, wpost2, wpost3, wpost4, ite_self, ite_true, ite_false, if_true, if_false, un_not, bin_lss, fr250, wrap_int, wrap_u8, iteP_yes, iteP_no, isNaNI_r hX] | refine iteP_two (fun hc hd => ?_) (fun hc hd => ?_) | refine iteP_intro (fun hc => ?_) (fun hc => ?_))
set_option maxHeartbeats 2000000 in
theorem insOrd_c (hX : XN X) (hI : IS lo hi 1 h x n l) (hro : ro ≤ lo) (hn : n ≤ 1048576)
    : 
    CallR Try.prog ro X 244 [x, .int .i64 0, .int .i64 n] h (fun r h' => SRT id lo hi n x h l h') := by
  have hl : l.length = n := by rw [hI.1, Nat.mul_one]
  refine callR_of (hX _ rfl) Try.func244 rfl (by kernel_rfl) (Nat.le_of_ble_eq_true rfl) ?_
  (repeat' first | simp -dsimp (disch := first | omega | assumption | (refine OkS.sto ?_ (by omega); first | assumption | (refine OkS.sto ?_ (by omega); first | assumption | (refine OkS.sto ?_ (by omega); first | assumption | (refine OkS.sto ?_ (by omega); first | assumption | (refine OkS.sto ?_ (by omega); first | assumption | (refine OkS.sto ?_ (by omega); first | assumption)))))) | exact Pfx.refl _ | (apply Pfx.snoc; repeat (first | exact Pfx.refl _ | assumption | apply Pfx.snoc)) | with_unfolding_all exact of_eq_true (eq_true rfl) | (simp only [List.length_append, List.length_cons, List.length_nil]; omega)) only [↓wpre0, ↓wpre1, ↓reduceIte, Int.reduceToNat, Nat.reduceAdd, Nat.reduceMul, Nat.reduceEqDiff, wpost0, wpost1, wpost2, wpost3, wpost4, ite_self, ite_true, ite_false, if_true, if_false, bin_add, bin_lss, bin_gtr, xiad32, xld2, bin_sub, xst2, fr244, wrap_int, wrap_u8, iteP_yes, iteP_no] | refine iteP_two (fun hc hd => ?_) (fun hc hd => ?_) | refine iteP_intro (fun hc => ?_) (fun hc => ?_))
  refine loop_rounds (fun m e h' => ∃ (i : Nat) (l' : List Int), m = n - i ∧ 1 ≤ i ∧ (i ≤ n ∨ i = 1) ∧ e 0 = x ∧ e 1 = .int .i64 0 ∧ e 2 = .int .i64 n ∧ e 6 = .int .i64 i ∧ IS lo hi 1 h' x n l' ∧ l'.Perm l ∧ srtd id l' i ∧ Rng lo hi h h' ∧ TyE h h') _ ⟨1, l, rfl, ?_⟩ ?_
  · simp only [updO_at, updO_not, entry_at, List.getD_cons_zero, List.getD_cons_succ, ↓reduceIte, Nat.reduceEqDiff, true_and, and_true]
    (repeat' (first | assumption | rfl | omega | exact trivial | exact Or.inr trivial | exact List.Perm.refl _ | exact fun p q h1 h2 => by omega | exact Rng.refl _ _ _ | exact TyE.refl _ | refine And.intro ?_ ?_))
  · rintro m e h' ⟨i, l', hm, hi1, hin', g0, g1, g2, g6, hI', hp, hs, hr, ht⟩
    have hl' : l'.length = n := by rw [hI'.1, Nat.mul_one]
    have hks := toNat_s i
    by_cases hin : i < n
    · (repeat' first | simp -dsimp (disch := first | omega | assumption | (refine OkS.sto ?_ (by omega); first | assumption | (refine OkS.sto ?_ (by omega); first | assumption | (refine OkS.sto ?_ (by omega); first | assumption | (refine OkS.sto ?_ (by omega); first | assumption | (refine OkS.sto ?_ (by omega); first | assumption | (refine OkS.sto ?_ (by omega); first | assumption)))))) | exact Pfx.refl _ | (apply Pfx.snoc; repeat (first | exact Pfx.refl _ | assumption | apply Pfx.snoc)) | with_unfolding_all exact of_eq_true (eq_true rfl) | (simp only [List.length_append, List.length_cons, List.length_nil]; omega)) only [↓wpre0, ↓wpre1, ↓reduceIte, Int.reduceToNat, Nat.reduceAdd, Nat.reduceMul, Nat.reduceEqDiff, wpost0, wpost1, wpost2, wpost3, wpost4, ite_self, ite_true, ite_false, if_true, if_false, bin_add, bin_lss, bin_gtr, xiad32, xld2, bin_sub, xst2, fr244, wrap_int, wrap_u8, iteP_yes, iteP_no, g0, g1, g2, g6] | refine iteP_two (fun hc hd => ?_) (fun hc hd => ?_) | refine iteP_intro (fun hc => ?_) (fun hc => ?_))
      refine loop_exit 2 (fun e h2 => ∃ l2, e 0 = x ∧ e 1 = .int .i64 0 ∧ e 2 = .int .i64 n ∧ e 6 = .int .i64 i ∧ IS lo hi 1 h2 x n l2 ∧ l2.Perm l ∧ srtd id l2 (i + 1) ∧ Rng lo hi h h2 ∧ TyE h h2) ?_ ?_
      · refine loop_rounds (fun m e h2 => ∃ (j : Nat) (l2 : List Int), m = j ∧ j ≤ i ∧ e 0 = x ∧ e 1 = .int .i64 0 ∧ e 2 = .int .i64 n ∧ e 6 = .int .i64 i ∧ e 7 = .int .i64 j ∧ IS lo hi 1 h2 x n l2 ∧ l2.Perm l ∧ srtB id l2 i j ∧ Rng lo hi h h2 ∧ TyE h h2) _ ⟨i, l', rfl, ?_⟩ ?_
        · simp only [updO_at, updO_not, entry_at, List.getD_cons_zero, List.getD_cons_succ, ↓reduceIte, Nat.reduceEqDiff, true_and, and_true]
          (repeat' (first | assumption | rfl | omega | exact srtB_start hs | refine And.intro ?_ ?_))
        · rintro m e h2 ⟨j, l2, hm, hji, g0, g1, g2, g6, g7, hI2, hp2, hs2, hr2, ht2⟩
          have hl2 : l2.length = n := by rw [hI2.1, Nat.mul_one]
          cases j with
          | zero =>
            (repeat' first | simp -dsimp (disch := first | omega | assumption | (refine OkS.sto ?_ (by omega); first | assumption | (refine OkS.sto ?_ (by omega); first | assumption | (refine OkS.sto ?_ (by omega); first | assumption | (refine OkS.sto ?_ (by omega); first | assumption | (refine OkS.sto ?_ (by omega); first | assumption | (refine OkS.sto ?_ (by omega); first | assumption)))))) | exact Pfx.refl _ | (apply Pfx.snoc; repeat (first | exact Pfx.refl _ | assumption | apply Pfx.snoc)) | with_unfolding_all exact of_eq_true (eq_true rfl) | (simp only [List.length_append, List.length_cons, List.length_nil]; omega)) only [↓wpre0, ↓wpre1, ↓reduceIte, Int.reduceToNat, Nat.reduceAdd, Nat.reduceMul, Nat.reduceEqDiff, wpost0, wpost1, wpost2, wpost3, wpost4, ite_self, ite_true, ite_false, if_true, if_false, bin_add, bin_lss, bin_gtr, xiad32, xld2, bin_sub, xst2, fr244, wrap_int, wrap_u8, iteP_yes, iteP_no, g0, g1, g2, g6, g7] | refine iteP_two (fun hc hd => ?_) (fun hc hd => ?_) | refine iteP_intro (fun hc => ?_) (fun hc => ?_))
            exact ⟨l2, by (repeat' (first | assumption | rfl | omega | exact srtB_zero hs2 | refine And.intro ?_ ?_))⟩
          | succ j =>
            have hk := toNat_p j
            have m1 : nth l2 (j + 1) ∈ l := hp2.mem_iff.1 (by rw [nth_get (show j + 1 < l2.length by omega)]; exact List.getElem_mem _)
            have m0 : nth l2 j ∈ l := hp2.mem_iff.1 (by rw [nth_get (show j < l2.length by omega)]; exact List.getElem_mem _)
            have hcf := less_r (ro := ro) hX (nth l2 (j + 1)) (nth l2 j) h2
            by_cases hlt : nth l2 (j + 1) < nth l2 j
            · have ok2 := hI2.ok
              (repeat' first | simp -dsimp (disch := first | omega | assumption | (refine OkS.sto ?_ (by omega); first | assumption | (refine OkS.sto ?_ (by omega); first | assumption | (refine OkS.sto ?_ (by omega); first | assumption | (refine OkS.sto ?_ (by omega); first | assumption | (refine OkS.sto ?_ (by omega); first | assumption | (refine OkS.sto ?_ (by omega); first | assumption)))))) | exact Pfx.refl _ | (apply Pfx.snoc; repeat (first | exact Pfx.refl _ | assumption | apply Pfx.snoc)) | with_unfolding_all exact of_eq_true (eq_true rfl) | (simp only [List.length_append, List.length_cons, List.length_nil]; omega)) only [↓wpre0, ↓wpre1, ↓reduceIte, Int.reduceToNat, Nat.reduceAdd, Nat.reduceMul, Nat.reduceEqDiff, wpost0, wpost1, wpost2, wpost3, wpost4, ite_self, ite_true, ite_false, if_true, if_false, bin_add, bin_lss, bin_gtr, xiad32, xld2, bin_sub, xst2, fr244, wrap_int, wrap_u8, iteP_yes, iteP_no, g0, g1, g2, g6, g7, hk, IS.iad hI2 Try.underlying32 tsz2, IS.ld1 hI2 tsz2 tag2, Nat.mul_one, hcf, stv_sto (lo := lo) (hi := hi) (k := 1) (n := n) (x := x) tsz2 hro] | refine iteP_two (fun hc hd => ?_) (fun hc hd => ?_) | refine iteP_intro (fun hc => ?_) (fun hc => ?_))
              have q1 := (hI2.sto (c := j + 1) (by omega) (nth l2 j)).sto (c := j) (by omega) (nth l2 (j + 1))
              have q2 := (hr2.trans (hI2.rsto (by omega) (j + 1) (.int .i64 (nth l2 j)))).trans (IS.rsto (hI2.sto (c := j + 1) (by omega) (nth l2 j)) (by omega) j (.int .i64 (nth l2 (j + 1))))
              have q3 := (ht2.trans (TyE.sto h2 x (j + 1) (.int .i64 (nth l2 j)))).trans (TyE.sto _ x j (.int .i64 (nth l2 (j + 1))))
              refine ⟨j, by omega, j, swp l2 j, ?_⟩
              (repeat' (first | assumption | rfl | omega | exact (swp_perm (by omega)).trans hp2 | exact srtB_swap hs2 (by omega) (by omega) hlt | refine And.intro ?_ ?_))
            · (repeat' first | simp -dsimp (disch := first | omega | assumption | (refine OkS.sto ?_ (by omega); first | assumption | (refine OkS.sto ?_ (by omega); first | assumption | (refine OkS.sto ?_ (by omega); first | assumption | (refine OkS.sto ?_ (by omega); first | assumption | (refine OkS.sto ?_ (by omega); first | assumption | (refine OkS.sto ?_ (by omega); first | assumption)))))) | exact Pfx.refl _ | (apply Pfx.snoc; repeat (first | exact Pfx.refl _ | assumption | apply Pfx.snoc)) | with_unfolding_all exact of_eq_true (eq_true rfl) | (simp only [List.length_append, List.length_cons, List.length_nil]; omega)) only [↓wpre0, ↓wpre1, ↓reduceIte, Int.reduceToNat, Nat.reduceAdd, Nat.reduceMul, Nat.reduceEqDiff, wpost0, wpost1, wpost2, wpost3, wpost4, ite_self, ite_true, ite_false, if_true, if_false, bin_add, bin_lss, bin_gtr, xiad32, xld2, bin_sub, xst2, fr244, wrap_int, wrap_u8, iteP_yes, iteP_no, g0, g1, g2, g6, g7, hk, IS.iad hI2 Try.underlying32 tsz2, IS.ld1 hI2 tsz2 tag2, Nat.mul_one, hcf] | refine iteP_two (fun hc hd => ?_) (fun hc hd => ?_) | refine iteP_intro (fun hc => ?_) (fun hc => ?_))
              exact ⟨l2, by (repeat' (first | assumption | rfl | omega | exact srtB_stop hs2 (by omega) (show nth l2 j ≤ nth l2 (j + 1) by omega) | refine And.intro ?_ ?_))⟩
      · rintro e h2 ⟨l2, g0, g1, g2, g6, hI2, hp2, hs2, hr2, ht2⟩
        (repeat' first | simp -dsimp (disch := first | omega | assumption | (refine OkS.sto ?_ (by omega); first | assumption | (refine OkS.sto ?_ (by omega); first | assumption | (refine OkS.sto ?_ (by omega); first | assumption | (refine OkS.sto ?_ (by omega); first | assumption | (refine OkS.sto ?_ (by omega); first | assumption | (refine OkS.sto ?_ (by omega); first | assumption)))))) | exact Pfx.refl _ | (apply Pfx.snoc; repeat (first | exact Pfx.refl _ | assumption | apply Pfx.snoc)) | with_unfolding_all exact of_eq_true (eq_true rfl) | (simp only [List.length_append, List.length_cons, List.length_nil]; omega)) only [↓wpre0, ↓wpre1, ↓reduceIte, Int.reduceToNat, Nat.reduceAdd, Nat.reduceMul, Nat.reduceEqDiff, wpost0, wpost1, wpost2, wpost3, wpost4, ite_self, ite_true, ite_false, if_true, if_false, bin_add, bin_lss, bin_gtr, xiad32, xld2, bin_sub, xst2, fr244, wrap_int, wrap_u8, iteP_yes, iteP_no, g0, g1, g2, g6] | refine iteP_two (fun hc hd => ?_) (fun hc hd => ?_) | refine iteP_intro (fun hc => ?_) (fun hc => ?_))
        refine ⟨n - (i + 1), by omega, i + 1, l2, ?_⟩
        (repeat' (first | assumption | rfl | omega | exact Or.inl (by omega) | (rw [hks]) | refine And.intro ?_ ?_))
    · have ef : ∀ v, endH v h h' = h' := fun v => endH_len hr.1
      (repeat' first | simp -dsimp (disch := first | omega | assumption | (refine OkS.sto ?_ (by omega); first | assumption | (refine OkS.sto ?_ (by omega); first | assumption | (refine OkS.sto ?_ (by omega); first | assumption | (refine OkS.sto ?_ (by omega); first | assumption | (refine OkS.sto ?_ (by omega); first | assumption | (refine OkS.sto ?_ (by omega); first | assumption)))))) | exact Pfx.refl _ | (apply Pfx.snoc; repeat (first | exact Pfx.refl _ | assumption | apply Pfx.snoc)) | with_unfolding_all exact of_eq_true (eq_true rfl) | (simp only [List.length_append, List.length_cons, List.length_nil]; omega)) only [↓wpre0, ↓wpre1, ↓reduceIte, Int.reduceToNat, Nat.reduceAdd, Nat.reduceMul, Nat.reduceEqDiff, wpost0, wpost1, wpost2, wpost3, wpost4, ite_self, ite_true, ite_false, if_true, if_false, bin_add, bin_lss, bin_gtr, xiad32, xld2, bin_sub, xst2, fr244, wrap_int, wrap_u8, iteP_yes, iteP_no, g0, g1, g2, g6, ef] | refine iteP_two (fun hc hd => ?_) (fun hc hd => ?_) | refine iteP_intro (fun hc => ?_) (fun hc => ?_))
      have hsn : srtd id l' n := fun p q h1 h2 => hs p q h1 (by omega)
      exact ⟨l', hI', hp, hsn, hr, ht⟩
theorem ret_ex {P : Program} {f : FuncId} {args : List Value} {h : Heap} (hc : CallR P ro X f args h fun r h' => (∃ v, r = .int .i64 v) ∧ h' = h) : ∃ v, Ret P ro X f args h (.int .i64 v) := by
  obtain ⟨r, h', h1, ⟨v, rfl⟩, rfl⟩ := hc
  exact ⟨v, fun _ _ => cf_eq h1⟩
theorem bindO_idx {S : ByteArray} {m : Nat} {K : Value → Prop} (hS : S.size = 256) (hm : m ≤ 255) (k : ∀ w : Int, 0 ≤ w → w ≤ 255 → K (.int .u8 w)) : bindO (idx Try.prog 9 (.string S) (.int .u8 m)) K := by
  rw [idx_str Try.underlying9 (by omega) (by omega)]
  rw [bindO_some]
  exact k _ (bt_range _ _).1 (bt_range _ _).2
theorem len64_r (hX : XN X) {m : Nat} (hm : m ≤ 255) (h : Heap) : ∃ v, Ret Try.prog ro X 254 [.int .u64 m] h (.int .i64 v) := by
  refine ret_ex ?_
  refine callR_of (hX _ rfl) Try.func254 rfl (by kernel_rfl) (Nat.le_of_ble_eq_true rfl) ?_
  (repeat' first | simp -dsimp (disch := first | omega | assumption | (refine OkS.sto ?_ (by omega); first | assumption | (refine OkS.sto ?_ (by omega); first | assumption | (refine OkS.sto ?_ (by omega); first | assumption | (refine OkS.sto ?_ (by omega); first | assumption | (refine OkS.sto ?_ (by omega); first | assumption | (refine OkS.sto ?_ (by omega); first | assumption)))))) | exact Pfx.refl _ | (apply Pfx.snoc; repeat (first | exact Pfx.refl _ | assumption | apply Pfx.snoc)) | with_unfolding_all exact of_eq_true (eq_true rfl) | (simp only [List.length_append, List.length_cons, List.length_nil]; omega)) only [↓wpre0, ↓wpre1, ↓reduceIte, Int.reduceToNat, Nat.reduceAdd, Nat.reduceMul, Nat.reduceEqDiff, wpost0, wpost1, wpost2, wpost3, wpost4, ite_self, ite_true, ite_false, if_true, if_false, bin_geq, bin_add, xcv205_5, xidx9, xcv5_3, fr254, wrap_int, wrap_u8, iteP_yes, iteP_no] | refine iteP_two (fun hc hd => ?_) (fun hc hd => ?_) | refine iteP_intro (fun hc => ?_) (fun hc => ?_))
  refine bindO_idx (by rfl) hm fun w w0 w1 => ?_
  (repeat' first | simp -dsimp (disch := first | omega | assumption | (refine OkS.sto ?_ (by omega); first | assumption | (refine OkS.sto ?_ (by omega); first | assumption | (refine OkS.sto ?_ (by omega); first | assumption | (refine OkS.sto ?_ (by omega); first | assumption | (refine OkS.sto ?_ (by omega); first | assumption | (refine OkS.sto ?_ (by omega); first | assumption)))))) | exact Pfx.refl _ | (apply Pfx.snoc; repeat (first | exact Pfx.refl _ | assumption | apply Pfx.snoc)) | with_unfolding_all exact of_eq_true (eq_true rfl) | (simp only [List.length_append, List.length_cons, List.length_nil]; omega)) only [↓wpre0, ↓wpre1, ↓reduceIte, Int.reduceToNat, Nat.reduceAdd, Nat.reduceMul, Nat.reduceEqDiff, wpost0, wpost1, wpost2, wpost3, wpost4, ite_self, ite_true, ite_false, if_true, if_false, bin_geq, bin_add, xcv205_5, xidx9, xcv5_3, fr254, wrap_int, wrap_u8, iteP_yes, iteP_no] | refine iteP_two (fun hc hd => ?_) (fun hc hd => ?_) | refine iteP_intro (fun hc => ?_) (fun hc => ?_))
  exact ⟨_, rfl⟩
theorem len_r (hX : XN X) {m : Nat} (hm : m ≤ 255) (h : Heap) : ∃ v, Ret Try.prog ro X 192 [.int .u64 m] h (.int .i64 v) := by
  obtain ⟨v, hv⟩ := len64_r (ro := ro) hX hm h
  refine ⟨v, ?_⟩
  refine ret_of (callR_of (hX _ rfl) Try.func192 rfl (by kernel_rfl) (Nat.le_of_ble_eq_true rfl) ?_)
  (repeat' first | simp -dsimp (disch := first | omega | assumption | (refine OkS.sto ?_ (by omega); first | assumption | (refine OkS.sto ?_ (by omega); first | assumption | (refine OkS.sto ?_ (by omega); first | assumption | (refine OkS.sto ?_ (by omega); first | assumption | (refine OkS.sto ?_ (by omega); first | assumption | (refine OkS.sto ?_ (by omega); first | assumption)))))) | exact Pfx.refl _ | (apply Pfx.snoc; repeat (first | exact Pfx.refl _ | assumption | apply Pfx.snoc)) | with_unfolding_all exact of_eq_true (eq_true rfl) | (simp only [List.length_append, List.length_cons, List.length_nil]; omega)) only [↓wpre0, ↓wpre1, ↓reduceIte, Int.reduceToNat, Nat.reduceAdd, Nat.reduceMul, Nat.reduceEqDiff, wpost0, wpost1, wpost2, wpost3, wpost4, ite_self, ite_true, ite_false, if_true, if_false, xcv227_208, fr192, wrap_int, wrap_u8, iteP_yes, iteP_no, hv] | refine iteP_two (fun hc hd => ?_) (fun hc hd => ?_) | refine iteP_intro (fun hc => ?_) (fun hc => ?_))
theorem pdq_c (hX : XN X) (lim : Int) (hI : IS lo hi 1 h x n l) (hro : ro ≤ lo) (hn : n ≤ 12) : CallR Try.prog ro X 191 [x, .int .i64 0, .int .i64 n, .int .i64 lim] h (fun r h' => SRT id lo hi n x h l h') := by
  refine callR_of (hX _ rfl) Try.func191 rfl (by kernel_rfl) (Nat.le_of_ble_eq_true rfl) ?_
  (repeat' first | simp -dsimp (disch := first | omega | assumption | (refine OkS.sto ?_ (by omega); first | assumption | (refine OkS.sto ?_ (by omega); first | assumption | (refine OkS.sto ?_ (by omega); first | assumption | (refine OkS.sto ?_ (by omega); first | assumption | (refine OkS.sto ?_ (by omega); first | assumption | (refine OkS.sto ?_ (by omega); first | assumption)))))) | exact Pfx.refl _ | (apply Pfx.snoc; repeat (first | exact Pfx.refl _ | assumption | apply Pfx.snoc)) | with_unfolding_all exact of_eq_true (eq_true rfl) | (simp only [List.length_append, List.length_cons, List.length_nil]; omega)) only [↓wpre0, ↓wpre1, ↓reduceIte, Int.reduceToNat, Nat.reduceAdd, Nat.reduceMul, Nat.reduceEqDiff, wpost0, wpost1, wpost2, wpost3, wpost4, ite_self, ite_true, ite_false, if_true, if_false, bin_sub, bin_leq, bin_eql, un_not, bin_gtr, xiad32, xld2, bin_quo, bin_lss, bin_geq, bin_add, fr191, wrap_int, wrap_u8, iteP_yes, iteP_no] | refine iteP_two (fun hc hd => ?_) (fun hc hd => ?_) | refine iteP_intro (fun hc => ?_) (fun hc => ?_))
  rw [loop_step]
  (repeat' first | simp -dsimp (disch := first | omega | assumption | (refine OkS.sto ?_ (by omega); first | assumption | (refine OkS.sto ?_ (by omega); first | assumption | (refine OkS.sto ?_ (by omega); first | assumption | (refine OkS.sto ?_ (by omega); first | assumption | (refine OkS.sto ?_ (by omega); first | assumption | (refine OkS.sto ?_ (by omega); first | assumption)))))) | exact Pfx.refl _ | (apply Pfx.snoc; repeat (first | exact Pfx.refl _ | assumption | apply Pfx.snoc)) | with_unfolding_all exact of_eq_true (eq_true rfl) | (simp only [List.length_append, List.length_cons, List.length_nil]; omega)) only [↓wpre0, ↓wpre1, ↓reduceIte, Int.reduceToNat, Nat.reduceAdd, Nat.reduceMul, Nat.reduceEqDiff, wpost0, wpost1, wpost2, wpost3, wpost4, ite_self, ite_true, ite_false, if_true, if_false, bin_sub, bin_leq, bin_eql, un_not, bin_gtr, xiad32, xld2, bin_quo, bin_lss, bin_geq, bin_add, fr191, wrap_int, wrap_u8, iteP_yes, iteP_no] | refine iteP_two (fun hc hd => ?_) (fun hc hd => ?_) | refine iteP_intro (fun hc => ?_) (fun hc => ?_))
  refine cf_rel (insOrd_c hX hI hro (by omega)) (fun q => by cases q) ?_
  rintro r h' ⟨l', q1, q2, q3, q4, q5⟩
  have ef : ∀ v, endH v h h' = h' := fun v => endH_len q4.1
  (repeat' first | simp -dsimp (disch := first | omega | assumption | (refine OkS.sto ?_ (by omega); first | assumption | (refine OkS.sto ?_ (by omega); first | assumption | (refine OkS.sto ?_ (by omega); first | assumption | (refine OkS.sto ?_ (by omega); first | assumption | (refine OkS.sto ?_ (by omega); first | assumption | (refine OkS.sto ?_ (by omega); first | assumption)))))) | exact Pfx.refl _ | (apply Pfx.snoc; repeat (first | exact Pfx.refl _ | assumption | apply Pfx.snoc)) | with_unfolding_all exact of_eq_true (eq_true rfl) | (simp only [List.length_append, List.length_cons, List.length_nil]; omega)) only [↓wpre0, ↓wpre1, ↓reduceIte, Int.reduceToNat, Nat.reduceAdd, Nat.reduceMul, Nat.reduceEqDiff, wpost0, wpost1, wpost2, wpost3, wpost4, ite_self, ite_true, ite_false, if_true, if_false, bin_sub, bin_leq, bin_eql, un_not, bin_gtr, xiad32, xld2, bin_quo, bin_lss, bin_geq, bin_add, fr191, wrap_int, wrap_u8, iteP_yes, iteP_no, ef] | refine iteP_two (fun hc hd => ?_) (fun hc hd => ?_) | refine iteP_intro (fun hc => ?_) (fun hc => ?_))
  exact ⟨l', q1, q2, q3, q4, q5⟩
theorem Sort_c (hX : XN X) (hI : IS lo hi 1 h x n l) (hro : ro ≤ lo) (hn : n ≤ 12) : CallR Try.prog ro X 111 [x] h (fun r h' => SRT id lo hi n x h l h') := by
  obtain ⟨v, hv⟩ := len_r (ro := ro) hX (m := n) (by omega) h
  refine callR_of (hX _ rfl) Try.func111 rfl (by kernel_rfl) (Nat.le_of_ble_eq_true rfl) ?_
  (repeat' first | simp -dsimp (disch := first | omega | assumption | (refine OkS.sto ?_ (by omega); first | assumption | (refine OkS.sto ?_ (by omega); first | assumption | (refine OkS.sto ?_ (by omega); first | assumption | (refine OkS.sto ?_ (by omega); first | assumption | (refine OkS.sto ?_ (by omega); first | assumption | (refine OkS.sto ?_ (by omega); first | assumption)))))) | exact Pfx.refl _ | (apply Pfx.snoc; repeat (first | exact Pfx.refl _ | assumption | apply Pfx.snoc)) | with_unfolding_all exact of_eq_true (eq_true rfl) | (simp only [List.length_append, List.length_cons, List.length_nil]; omega)) only [↓wpre0, ↓wpre1, ↓reduceIte, Int.reduceToNat, Nat.reduceAdd, Nat.reduceMul, Nat.reduceEqDiff, wpost0, wpost1, wpost2, wpost3, wpost4, ite_self, ite_true, ite_false, if_true, if_false, xlen32, xcv3_227, fr111, wrap_int, wrap_u8, iteP_yes, iteP_no, hI.len Try.underlying32, wrap_u64, hv] | refine iteP_two (fun hc hd => ?_) (fun hc hd => ?_) | refine iteP_intro (fun hc => ?_) (fun hc => ?_))
  refine cf_rel (pdq_c hX v hI hro hn) (fun q => by cases q) ?_
  rintro r h' ⟨l', q1, q2, q3, q4, q5⟩
  have ef : ∀ v, endH v h h' = h' := fun v => endH_len q4.1
  (repeat' first | simp -dsimp (disch := first | omega | assumption | (refine OkS.sto ?_ (by omega); first | assumption | (refine OkS.sto ?_ (by omega); first | assumption | (refine OkS.sto ?_ (by omega); first | assumption | (refine OkS.sto ?_ (by omega); first | assumption | (refine OkS.sto ?_ (by omega); first | assumption | (refine OkS.sto ?_ (by omega); first | assumption)))))) | exact Pfx.refl _ | (apply Pfx.snoc; repeat (first | exact Pfx.refl _ | assumption | apply Pfx.snoc)) | with_unfolding_all exact of_eq_true (eq_true rfl) | (simp only [List.length_append, List.length_cons, List.length_nil]; omega)) only [↓wpre0, ↓wpre1, ↓reduceIte, Int.reduceToNat, Nat.reduceAdd, Nat.reduceMul, Nat.reduceEqDiff, wpost0, wpost1, wpost2, wpost3, wpost4, ite_self, ite_true, ite_false, if_true, if_false, xlen32, xcv3_227, fr111, wrap_int, wrap_u8, iteP_yes, iteP_no, ef] | refine iteP_two (fun hc hd => ?_) (fun hc hd => ?_) | refine iteP_intro (fun hc => ?_) (fun hc => ?_))
  exact ⟨l', q1, q2, q3, q4, q5⟩
theorem stable_c (hX : XN X) (k : Int → Int) (f : FuncId) (cap : List Value) (hI : IS lo hi 1 h x n l) (hro : ro ≤ lo) (hn : n < 20)
    (hf : ∀ (H : Heap) (a b : Int), Rng lo hi h H → a ∈ l → b ∈ l → ∃ c : Int, (c < 0 ↔ k a < k b) ∧ Ret Try.prog ro X f (.int .i64 a :: .int .i64 b :: cap) H (.int .i64 c)) :
    CallR Try.prog ro X 190 [x, .int .i64 n, .func (.func f) ⟨[]⟩ ⟨cap⟩] h (fun r h' => SRT k lo hi n x h l h') := by
  refine callR_of (hX _ rfl) Try.func190 rfl (by kernel_rfl) (Nat.le_of_ble_eq_true rfl) ?_
  (repeat' first | simp -dsimp (disch := first | omega | assumption | (refine OkS.sto ?_ (by omega); first | assumption | (refine OkS.sto ?_ (by omega); first | assumption | (refine OkS.sto ?_ (by omega); first | assumption | (refine OkS.sto ?_ (by omega); first | assumption | (refine OkS.sto ?_ (by omega); first | assumption | (refine OkS.sto ?_ (by omega); first | assumption)))))) | exact Pfx.refl _ | (apply Pfx.snoc; repeat (first | exact Pfx.refl _ | assumption | apply Pfx.snoc)) | with_unfolding_all exact of_eq_true (eq_true rfl) | (simp only [List.length_append, List.length_cons, List.length_nil]; omega)) only [↓wpre0, ↓wpre1, ↓reduceIte, Int.reduceToNat, Nat.reduceAdd, Nat.reduceMul, Nat.reduceEqDiff, wpost0, wpost1, wpost2, wpost3, wpost4, ite_self, ite_true, ite_false, if_true, if_false, bin_leq, bin_add, bin_lss, bin_mul, fr190, wrap_int, wrap_u8, iteP_yes, iteP_no] | refine iteP_two (fun hc hd => ?_) (fun hc hd => ?_) | refine iteP_intro (fun hc => ?_) (fun hc => ?_))
  rw [loop_step]
  (repeat' first | simp -dsimp (disch := first | omega | assumption | (refine OkS.sto ?_ (by omega); first | assumption | (refine OkS.sto ?_ (by omega); first | assumption | (refine OkS.sto ?_ (by omega); first | assumption | (refine OkS.sto ?_ (by omega); first | assumption | (refine OkS.sto ?_ (by omega); first | assumption | (refine OkS.sto ?_ (by omega); first | assumption)))))) | exact Pfx.refl _ | (apply Pfx.snoc; repeat (first | exact Pfx.refl _ | assumption | apply Pfx.snoc)) | with_unfolding_all exact of_eq_true (eq_true rfl) | (simp only [List.length_append, List.length_cons, List.length_nil]; omega)) only [↓wpre0, ↓wpre1, ↓reduceIte, Int.reduceToNat, Nat.reduceAdd, Nat.reduceMul, Nat.reduceEqDiff, wpost0, wpost1, wpost2, wpost3, wpost4, ite_self, ite_true, ite_false, if_true, if_false, bin_leq, bin_add, bin_lss, bin_mul, fr190, wrap_int, wrap_u8, iteP_yes, iteP_no] | refine iteP_two (fun hc hd => ?_) (fun hc hd => ?_) | refine iteP_intro (fun hc => ?_) (fun hc => ?_))
  refine cf_rel (insCmp_c hX k f cap hI hro (by omega) hf) (fun q => by cases q) ?_
  rintro r h' ⟨l', q1, q2, q3, q4, q5⟩
  have ef : ∀ v, endH v h h' = h' := fun v => endH_len q4.1
  (repeat' first | simp -dsimp (disch := first | omega | assumption | (refine OkS.sto ?_ (by omega); first | assumption | (refine OkS.sto ?_ (by omega); first | assumption | (refine OkS.sto ?_ (by omega); first | assumption | (refine OkS.sto ?_ (by omega); first | assumption | (refine OkS.sto ?_ (by omega); first | assumption | (refine OkS.sto ?_ (by omega); first | assumption)))))) | exact Pfx.refl _ | (apply Pfx.snoc; repeat (first | exact Pfx.refl _ | assumption | apply Pfx.snoc)) | with_unfolding_all exact of_eq_true (eq_true rfl) | (simp only [List.length_append, List.length_cons, List.length_nil]; omega)) only [↓wpre0, ↓wpre1, ↓reduceIte, Int.reduceToNat, Nat.reduceAdd, Nat.reduceMul, Nat.reduceEqDiff, wpost0, wpost1, wpost2, wpost3, wpost4, ite_self, ite_true, ite_false, if_true, if_false, bin_leq, bin_add, bin_lss, bin_mul, fr190, wrap_int, wrap_u8, iteP_yes, iteP_no] | refine iteP_two (fun hc hd => ?_) (fun hc hd => ?_) | refine iteP_intro (fun hc => ?_) (fun hc => ?_))
  rw [loop_step]
  (repeat' first | simp -dsimp (disch := first | omega | assumption | (refine OkS.sto ?_ (by omega); first | assumption | (refine OkS.sto ?_ (by omega); first | assumption | (refine OkS.sto ?_ (by omega); first | assumption | (refine OkS.sto ?_ (by omega); first | assumption | (refine OkS.sto ?_ (by omega); first | assumption | (refine OkS.sto ?_ (by omega); first | assumption)))))) | exact Pfx.refl _ | (apply Pfx.snoc; repeat (first | exact Pfx.refl _ | assumption | apply Pfx.snoc)) | with_unfolding_all exact of_eq_true (eq_true rfl) | (simp only [List.length_append, List.length_cons, List.length_nil]; omega)) only [↓wpre0, ↓wpre1, ↓reduceIte, Int.reduceToNat, Nat.reduceAdd, Nat.reduceMul, Nat.reduceEqDiff, wpost0, wpost1, wpost2, wpost3, wpost4, ite_self, ite_true, ite_false, if_true, if_false, bin_leq, bin_add, bin_lss, bin_mul, fr190, wrap_int, wrap_u8, iteP_yes, iteP_no, ef] | refine iteP_two (fun hc hd => ?_) (fun hc hd => ?_) | refine iteP_intro (fun hc => ?_) (fun hc => ?_))
  exact ⟨l', q1, q2, q3, q4, q5⟩
theorem Stable_c (hX : XN X) (k : Int → Int) (f : FuncId) (cap : List Value) (hI : IS lo hi 1 h x n l) (hro : ro ≤ lo) (hn : n < 20)
    (hf : ∀ (H : Heap) (a b : Int), Rng lo hi h H → a ∈ l → b ∈ l → ∃ c : Int, (c < 0 ↔ k a < k b) ∧ Ret Try.prog ro X f (.int .i64 a :: .int .i64 b :: cap) H (.int .i64 c)) :
    CallR Try.prog ro X 109 [x, .func (.func f) ⟨[]⟩ ⟨cap⟩] h (fun r h' => SRT k lo hi n x h l h') := by
  refine callR_of (hX _ rfl) Try.func109 rfl (by kernel_rfl) (Nat.le_of_ble_eq_true rfl) ?_
  (repeat' first | simp -dsimp (disch := first | omega | assumption | (refine OkS.sto ?_ (by omega); first | assumption | (refine OkS.sto ?_ (by omega); first | assumption | (refine OkS.sto ?_ (by omega); first | assumption | (refine OkS.sto ?_ (by omega); first | assumption | (refine OkS.sto ?_ (by omega); first | assumption | (refine OkS.sto ?_ (by omega); first | assumption)))))) | exact Pfx.refl _ | (apply Pfx.snoc; repeat (first | exact Pfx.refl _ | assumption | apply Pfx.snoc)) | with_unfolding_all exact of_eq_true (eq_true rfl) | (simp only [List.length_append, List.length_cons, List.length_nil]; omega)) only [↓wpre0, ↓wpre1, ↓reduceIte, Int.reduceToNat, Nat.reduceAdd, Nat.reduceMul, Nat.reduceEqDiff, wpost0, wpost1, wpost2, wpost3, wpost4, ite_self, ite_true, ite_false, if_true, if_false, xlen32, fr109, wrap_int, wrap_u8, iteP_yes, iteP_no, hI.len Try.underlying32] | refine iteP_two (fun hc hd => ?_) (fun hc hd => ?_) | refine iteP_intro (fun hc => ?_) (fun hc => ?_))
  refine cf_rel (stable_c hX k f cap hI hro hn hf) (fun q => by cases q) ?_
  rintro r h' ⟨l', q1, q2, q3, q4, q5⟩
  have ef : ∀ v, endH v h h' = h' := fun v => endH_len q4.1
  (repeat' first | simp -dsimp (disch := first | omega | assumption | (refine OkS.sto ?_ (by omega); first | assumption | (refine OkS.sto ?_ (by omega); first | assumption | (refine OkS.sto ?_ (by omega); first | assumption | (refine OkS.sto ?_ (by omega); first | assumption | (refine OkS.sto ?_ (by omega); first | assumption | (refine OkS.sto ?_ (by omega); first | assumption)))))) | exact Pfx.refl _ | (apply Pfx.snoc; repeat (first | exact Pfx.refl _ | assumption | apply Pfx.snoc)) | with_unfolding_all exact of_eq_true (eq_true rfl) | (simp only [List.length_append, List.length_cons, List.length_nil]; omega)) only [↓wpre0, ↓wpre1, ↓reduceIte, Int.reduceToNat, Nat.reduceAdd, Nat.reduceMul, Nat.reduceEqDiff, wpost0, wpost1, wpost2, wpost3, wpost4, ite_self, ite_true, ite_false, if_true, if_false, xlen32, fr109, wrap_int, wrap_u8, iteP_yes, iteP_no, ef] | refine iteP_two (fun hc hd => ?_) (fun hc hd => ?_) | refine iteP_intro (fun hc => ?_) (fun hc => ?_))
  exact ⟨l', q1, q2, q3, q4, q5⟩
end Go.Proofs.Ytelogajobjflfaa.Sim
