/- Plans of beams: what the reference's plan comes to. Lemmas only; no condition. -/
import Derived.Test.YtbakaopgdcojfaaPlp
set_option linter.unusedSimpArgs false
set_option linter.unusedVariables false
set_option maxRecDepth 8000
namespace Go.Proofs.Ytbakaopgdcojfaa.Sim
open Go Go.RowKit
variable {ro : Nat} {X : Ext}
theorem isB_at {n i : Nat} {l : List Int} (h : isB n l = true) (hi : i < n) : bOk l i = true := by
  simp only [isB, Bool.and_eq_true, List.all_eq_true] at h
  exact h.1 i (List.mem_range.2 hi)
theorem isB_n {n : Nat} {l : List Int} (h : isB n l = true) : 1 ≤ n ∧ n ≤ 7 := by
  simp only [isB, Bool.and_eq_true, decide_eq_true_eq] at h
  omega
structure BR (l : List Int) (i : Nat) : Prop where
  u : -64 ≤ nth l (i * 4) ∧ nth l (i * 4) ≤ 64
  v : -64 ≤ nth l (i * 4 + 1) ∧ nth l (i * 4 + 1) ≤ 64
  d : 1 ≤ nth l (i * 4 + 2) ∧ nth l (i * 4 + 2) ≤ 10000
  p : nth l (i * 4 + 2) ≤ nth l (i * 4 + 3) ∧ nth l (i * 4 + 3) ≤ 10000
theorem br {n i : Nat} {l : List Int} (h : isB n l = true) (hi : i < n) : BR l i := by
  have := isB_at h hi
  simp only [bOk, dirOk, Bool.and_eq_true, decide_eq_true_eq] at this
  obtain ⟨⟨⟨⟨⟨a, b⟩, c, d⟩, _⟩, e, f⟩, g, k⟩ := this
  exact ⟨⟨a, b⟩, ⟨c, d⟩, ⟨e, f⟩, ⟨g, k⟩⟩
/-- What holds of a plan under way. -/
structure PI (l : List Int) (n : Nat) (total : Int) (s0 s : Pst) : Prop where
  jl : s.js.length = n
  j0 : ∀ i, i < n → 0 ≤ nth s.js (i * 1)
  jr : ∀ i, i < n → 0 ≤ nth s.js (i * 1) * nth l (i * 4 + 3) ∧ nth s.js (i * 1) * nth l (i * 4 + 3) ≤ 20000
  t : 0 ≤ s.t ∧ s.t ≤ 20000
  c : s.c ≤ 200
  last : 0 < s.c → 0 ≤ nth s.sl ((s.c - 1) * 2) ∧ nth s.sl ((s.c - 1) * 2) < n
  back : ∀ c r, PlanR l n total s c r → PlanR l n total s0 c r
theorem PI.step {l : List Int} {n : Nat} {total : Int} {s0 s : Pst} (hp : PI l n total s0 s) (hb : isB n l = true) (ht : total ≤ 10000) (hb0 : 0 ≤ bst l s.js s.t n) (hc : s.c < 200) (hsl : s.sl.length = s.c * 2) {AT : Int} (hAT : AT = atT l s.c s.sl s.t (bst l s.js s.t n).toNat) (hlt : AT < total) (hle : s.t ≤ AT) :
    PI l n total s0 ⟨s.js.set ((bst l s.js s.t n).toNat * 1) (nth s.js ((bst l s.js s.t n).toNat * 1) + 1), s.c + 1, s.sl ++ [bst l s.js s.t n, AT], AT + nth l ((bst l s.js s.t n).toNat * 4 + 2)⟩ := by
  have hr := bst_range l s.js s.t n
  have hb2 := br hb (i := (bst l s.js s.t n).toNat) (by omega)
  have hd := hb2.d
  have hpp := hb2.p
  have hrb : nth s.js ((bst l s.js s.t n).toNat * 1) * nth l ((bst l s.js s.t n).toNat * 4 + 3) ≤ s.t := hr.2.2 hb0
  have hq := hp.jr (bst l s.js s.t n).toNat (by omega)
  have h0 := hp.j0 (bst l s.js s.t n).toNat (by omega)
  have hjl := hp.jl
  have htt := hp.t
  have hn := isB_n hb
  refine ⟨by simp [hjl], fun i hi => ?_, fun i hi => ?_, ?_, by show s.c + 1 ≤ 200; omega, fun _ => ?_, fun c r k => hp.back c r (.go s _ c r ?_ k)⟩
  · show 0 ≤ nth (s.js.set _ _) (i * 1)
    rw [nth_set (by omega)]
    have := hp.j0 i hi
    split <;> omega
  · show 0 ≤ nth (s.js.set _ _) (i * 1) * _ ∧ nth (s.js.set _ _) (i * 1) * _ ≤ 20000
    rw [nth_set (by omega)]
    have := hp.jr i hi
    split
    · rename_i e
      have e2 : (bst l s.js s.t n).toNat = i := by omega
      rw [e2] at hq hpp hrb hd ⊢
      rw [Int.add_mul, Int.one_mul]
      omega
    · exact this
  · show 0 ≤ AT + _ ∧ AT + _ ≤ 20000
    omega
  · show 0 ≤ nth (s.sl ++ [bst l s.js s.t n, AT]) ((s.c + 1 - 1) * 2) ∧ _
    have e : nth (s.sl ++ [bst l s.js s.t n, AT]) ((s.c + 1 - 1) * 2) = bst l s.js s.t n := by
      simp [nth, List.getD_eq_getElem?_getD, List.getElem?_append_right, hsl]
    exact ⟨by rw [e]; exact hb0, by show nth (s.sl ++ [bst l s.js s.t n, AT]) ((s.c + 1 - 1) * 2) < n; rw [e]; omega⟩
  · have e1 : s.tt l n = s.t := by
      have := smn_le (fun j hj => (hp.jr j hj).1) (by omega) hb0
      unfold Pst.tt; omega
    unfold Pst.step stepT
    rw [e1, ← hAT, if_neg (by omega)]
set_option maxHeartbeats 4000000 in
theorem l09Plan_c (hX : XN X) {lo hi n : Nat} {l : List Int} {x : Value} {h : Heap} {total : Int} (hI : IS lo hi 4 h x n l) (hb : isB n l = true) (ht : 0 ≤ total ∧ total ≤ 10000) (hro : ro ≤ h.length) :
    CallR Try.prog ro X 87 [x, .int .i64 total] h (fun r h' => ∃ c sl, PlanR l n total ⟨List.replicate n 0, 0, [], 0⟩ c sl ∧ c ≤ 200 ∧ Pfx h h' ∧ GS h.length 115 2 h' r c sl) := by
  have hn := isB_n hb
  refine callR_of (hX _ rfl) Try.func87 rfl (by kernel_rfl) (Nat.le_of_ble_eq_true rfl) ?_
  (repeat' first | simp -dsimp (disch := first | omega | assumption | (refine OkS.sto ?_ (by omega); first | assumption | (refine OkS.sto ?_ (by omega); first | assumption | (refine OkS.sto ?_ (by omega); first | assumption | (refine OkS.sto ?_ (by omega); first | assumption | (refine OkS.sto ?_ (by omega); first | assumption | (refine OkS.sto ?_ (by omega); first | assumption)))))) | exact Pfx.refl _ | (apply Pfx.snoc; repeat (first | exact Pfx.refl _ | assumption | apply Pfx.snoc)) | with_unfolding_all exact of_eq_true (eq_true rfl) | (simp only [List.length_append, List.length_cons, List.length_nil]; omega)) only [↓wpre0, ↓wpre1, ↓reduceIte, Int.reduceToNat, Nat.reduceAdd, Nat.reduceMul, Nat.reduceEqDiff, wpost0, wpost1, wpost2, wpost3, wpost4, ite_self, ite_true, ite_false, if_true, if_false, xbls56_0, xbls56_1, xlen42, xmk63, xlen56, bin_lss, xiad63, xld2, xiad42, xfad98_2, bin_mul, bin_leq, bin_add, bin_gtr, bin_sub, xiad56, xfad115_0, xfad98_0, xld96, bin_geq, xbld115_0_1, xst2, xfad98_1, fr87, wrap_int, wrap_u8, iteP_yes, iteP_no, hI.len Try.underlying42] | refine iteP_two (fun hc hd => ?_) (fun hc hd => ?_) | refine iteP_intro (fun hc => ?_) (fun hc => ?_))
  generalize hy0 : Value.slice (some ⟨h.length, 0, none⟩) 0 0 = y0
  generalize hjv : Value.slice (some ⟨(h ++ [(⟨115, []⟩ : Blk)]).length, 0, none⟩) n n = jv
  have hbj : bOf jv = h.length + 1 := by rw [← hjv]; simp [bOf]
  refine loop_rounds (fun m e h' => ∃ (s : Pst) (y : Value), m = 2 * (200 - s.c) + (if bst l s.js s.t n < 0 then 1 else 0) ∧ PI l n total ⟨List.replicate n 0, 0, [], 0⟩ s ∧ Pfx h h' ∧ GS h.length 115 2 h' y s.c s.sl ∧ IS (h.length + 1) (h.length + 2) 1 h' jv n s.js ∧ bOf y ≠ h.length + 1 ∧
    e 0 = x ∧ e 1 = .int .i64 total ∧ e 5 = y ∧ e 6 = jv ∧ e 7 = .int .i64 s.t) _ ⟨⟨List.replicate n 0, 0, [], 0⟩, y0, rfl, ?_⟩ ?_
  · simp only [updO_at, updO_not, entry_at, List.getD_cons_zero, List.getD_cons_succ, ↓reduceIte, Nat.reduceEqDiff, true_and, and_true]
    refine ⟨⟨by simp, fun i hi => ?_, fun i hi => ?_, by simp, by simp, fun q => by simp at q, fun _ _ k => k⟩, ((Pfx.refl h).snoc).snoc, ?_, ?_, ?_⟩
    · simp [nth, hi]
    · simp [nth, hi]
    · rw [← hy0]; exact (gs_new h (Nat.le_refl _)).frame (by simp [bOf])
    · have := IS.made (h ++ [(⟨115, []⟩ : Blk)]) 2 n 1
      rw [hjv] at this
      simpa [hbj] using this
    · rw [← hy0]; simp [bOf]
  · rintro m e h' ⟨s, y, hm, hp, hpx, hG, hJ, hne, g0, g1, g5, g6, g7⟩
    have hI' := hI.pre hpx
    have hl := hpx.len
    have hS := hG.is
    have := hp.c
    (repeat' first | simp -dsimp (disch := first | omega | assumption | (refine OkS.sto ?_ (by omega); first | assumption | (refine OkS.sto ?_ (by omega); first | assumption | (refine OkS.sto ?_ (by omega); first | assumption | (refine OkS.sto ?_ (by omega); first | assumption | (refine OkS.sto ?_ (by omega); first | assumption | (refine OkS.sto ?_ (by omega); first | assumption)))))) | exact Pfx.refl _ | (apply Pfx.snoc; repeat (first | exact Pfx.refl _ | assumption | apply Pfx.snoc)) | with_unfolding_all exact of_eq_true (eq_true rfl) | (simp only [List.length_append, List.length_cons, List.length_nil]; omega)) only [↓wpre0, ↓wpre1, ↓reduceIte, Int.reduceToNat, Nat.reduceAdd, Nat.reduceMul, Nat.reduceEqDiff, wpost0, wpost1, wpost2, wpost3, wpost4, ite_self, ite_true, ite_false, if_true, if_false, xbls56_0, xbls56_1, xlen42, xmk63, xlen56, bin_lss, xiad63, xld2, xiad42, xfad98_2, bin_mul, bin_leq, bin_add, bin_gtr, bin_sub, xiad56, xfad115_0, xfad98_0, xld96, bin_geq, xbld115_0_1, xst2, xfad98_1, fr87, wrap_int, wrap_u8, iteP_yes, iteP_no, g0, g1, g5, g6, g7, hG.len Try.underlying56, hI'.len Try.underlying42, endH_not hG.flat.1] | refine iteP_two (fun hc hd => ?_) (fun hc hd => ?_) | refine iteP_intro (fun hc => ?_) (fun hc => ?_))
    · refine loop_rounds (fun k e h2 => ∃ i : Nat, k = n - i ∧ i ≤ n ∧ h2 = h' ∧ e 0 = x ∧ e 1 = .int .i64 total ∧ e 5 = y ∧ e 6 = jv ∧ e 7 = .int .i64 s.t ∧ e 21 = .int .i64 n ∧ e 22 = .int .i64 i ∧ e 8 = .int .i64 (bst l s.js s.t i) ∧ e 9 = .int .i64 (smn l s.js i)) _ ⟨0, rfl, ?_⟩ ?_
      · simp only [updO_at, updO_not, entry_at, List.getD_cons_zero, List.getD_cons_succ, ↓reduceIte, Nat.reduceEqDiff, true_and, and_true]
        refine ⟨by omega, g0, g1, g5, g6, g7, rfl, rfl, rfl⟩
      · rintro k e h2 ⟨i, hk, hin, rfl, g0, g1, g5, g6, g7, g21, g22, g8, g9⟩
        have ht0 := hp.t
        by_cases hin2 : i < n
        · have hr := bst_range l s.js s.t i
          have b1 := br hb hin2
          have q1 := b1.d
          have q2 := b1.p
          have q3 := hp.jr i hin2
          have q4 : 0 ≤ bst l s.js s.t i → (0 ≤ nth s.js ((bst l s.js s.t i).toNat * 1) * nth l ((bst l s.js s.t i).toNat * 4 + 3) ∧ nth s.js ((bst l s.js s.t i).toNat * 1) * nth l ((bst l s.js s.t i).toNat * 4 + 3) ≤ 20000) ∧ 1 ≤ nth l ((bst l s.js s.t i).toNat * 4 + 3) ∧ nth l ((bst l s.js s.t i).toNat * 4 + 3) ≤ 10000 := fun q => by
            have b2 := br hb (i := (bst l s.js s.t i).toNat) (by omega)
            have := b2.d
            have := b2.p
            exact ⟨hp.jr _ (by omega), by omega, by omega⟩
          (repeat' first | simp -dsimp (disch := first | omega | assumption | (refine OkS.sto ?_ (by omega); first | assumption | (refine OkS.sto ?_ (by omega); first | assumption | (refine OkS.sto ?_ (by omega); first | assumption | (refine OkS.sto ?_ (by omega); first | assumption | (refine OkS.sto ?_ (by omega); first | assumption | (refine OkS.sto ?_ (by omega); first | assumption)))))) | exact Pfx.refl _ | (apply Pfx.snoc; repeat (first | exact Pfx.refl _ | assumption | apply Pfx.snoc)) | with_unfolding_all exact of_eq_true (eq_true rfl) | (simp only [List.length_append, List.length_cons, List.length_nil]; omega)) only [↓wpre0, ↓wpre1, ↓reduceIte, Int.reduceToNat, Nat.reduceAdd, Nat.reduceMul, Nat.reduceEqDiff, wpost0, wpost1, wpost2, wpost3, wpost4, ite_self, ite_true, ite_false, if_true, if_false, xbls56_0, xbls56_1, xlen42, xmk63, xlen56, bin_lss, xiad63, xld2, xiad42, xfad98_2, bin_mul, bin_leq, bin_add, bin_gtr, bin_sub, xiad56, xfad115_0, xfad98_0, xld96, bin_geq, xbld115_0_1, xst2, xfad98_1, fr87, wrap_int, wrap_u8, iteP_yes, iteP_no, g0, g1, g5, g6, g7, g21, g22, g8, g9, hI'.len Try.underlying42, IS.iad hI' Try.underlying42 tsz98, IS.iad hJ Try.underlying63 tsz2, IS.ld1 hJ tsz2 tag2, IS.ld1 hI' tsz2 tag2, IS.fad hI' tfi98_2 (by decide)] | refine iteP_two (fun hc hd => ?_) (fun hc hd => ?_) | refine iteP_intro (fun hc => ?_) (fun hc => ?_))
          all_goals
            refine ⟨_, by omega, i + 1, rfl, by omega, by simp, ?_, ?_⟩
            · first | exact congrArg _ (bst_yes (by omega)) | exact congrArg _ (bst_no (by omega))
            · first | exact congrArg _ (smn_yes (by omega)) | exact congrArg _ (smn_no (by omega))
        · have : i = n := by omega
          subst this
          have hr := bst_range l s.js s.t i
          have hrl : ∀ j, j < i → 0 ≤ rl l s.js j := fun j hj => (hp.jr j hj).1
          have hsm := smn_spec l s.js i hrl (by omega)
          simp -dsimp (disch := first | omega | assumption | (refine OkS.sto ?_ (by omega); first | assumption | (refine OkS.sto ?_ (by omega); first | assumption | (refine OkS.sto ?_ (by omega); first | assumption | (refine OkS.sto ?_ (by omega); first | assumption | (refine OkS.sto ?_ (by omega); first | assumption | (refine OkS.sto ?_ (by omega); first | assumption)))))) | exact Pfx.refl _ | (apply Pfx.snoc; repeat (first | exact Pfx.refl _ | assumption | apply Pfx.snoc)) | with_unfolding_all exact of_eq_true (eq_true rfl) | (simp only [List.length_append, List.length_cons, List.length_nil]; omega)) only [↓wpre0, ↓wpre1, ↓reduceIte, Int.reduceToNat, Nat.reduceAdd, Nat.reduceMul, Nat.reduceEqDiff, wpost0, wpost1, wpost2, wpost3, wpost4, ite_self, ite_true, ite_false, if_true, if_false, xbls56_0, xbls56_1, xlen42, xmk63, xlen56, bin_lss, xiad63, xld2, xiad42, xfad98_2, bin_mul, bin_leq, bin_add, bin_gtr, bin_sub, xiad56, xfad115_0, xfad98_0, xld96, bin_geq, xbld115_0_1, xst2, xfad98_1, fr87, wrap_int, wrap_u8, iteP_yes, iteP_no, g0, g1, g5, g6, g7, g21, g22, g8, g9]
          refine iteP_two (fun hc hd => ?_) (fun hc hd => ?_)
          · simp -dsimp (disch := first | omega | assumption | (refine OkS.sto ?_ (by omega); first | assumption | (refine OkS.sto ?_ (by omega); first | assumption | (refine OkS.sto ?_ (by omega); first | assumption | (refine OkS.sto ?_ (by omega); first | assumption | (refine OkS.sto ?_ (by omega); first | assumption | (refine OkS.sto ?_ (by omega); first | assumption)))))) | exact Pfx.refl _ | (apply Pfx.snoc; repeat (first | exact Pfx.refl _ | assumption | apply Pfx.snoc)) | with_unfolding_all exact of_eq_true (eq_true rfl) | (simp only [List.length_append, List.length_cons, List.length_nil]; omega)) only [↓wpre0, ↓wpre1, ↓reduceIte, Int.reduceToNat, Nat.reduceAdd, Nat.reduceMul, Nat.reduceEqDiff, wpost0, wpost1, wpost2, wpost3, wpost4, ite_self, ite_true, ite_false, if_true, if_false, xbls56_0, xbls56_1, xlen42, xmk63, xlen56, bin_lss, xiad63, xld2, xiad42, xfad98_2, bin_mul, bin_leq, bin_add, bin_gtr, bin_sub, xiad56, xfad115_0, xfad98_0, xld96, bin_geq, xbld115_0_1, xst2, xfad98_1, fr87, wrap_int, wrap_u8, iteP_yes, iteP_no, g0, g1, g5, g6, g7, g21, g22, g8, g9]
            refine ⟨_, ?_, ⟨s.js, s.c, s.sl, smn l s.js i⟩, y, rfl, ⟨hp.jl, hp.j0, hp.jr, ?_, hp.c, hp.last, fun c r k => hp.back c r (PlanR.move (le_smn hrl (by omega) hc) k)⟩, hpx, hG, hJ, hne, rfl, rfl⟩
            · have e3 : (if bst l s.js (smn l s.js i) i < 0 then 1 else 0) = 0 := if_neg (bst_pos hrl (by omega) (Int.le_refl _))
              rw [hm, if_pos hc]
              show 2 * (200 - s.c) + (if bst l s.js (smn l s.js i) i < 0 then 1 else 0) < _
              rw [e3]; omega
            · obtain ⟨a, b, j, hj, e1⟩ := hsm
              have := hp.jr j hj
              have e2 : rl l s.js j = nth s.js (j * 1) * nth l (j * 4 + 3) := rfl
              exact ⟨a, by show smn l s.js i ≤ 20000; omega⟩
          · have hb2 := br hb (i := (bst l s.js s.t i).toNat) (by omega)
            have hq := hp.jr (bst l s.js s.t i).toNat (by omega)
            have hq1 := hb2.d
            have hq2 := hb2.p
            have hsw : 0 < s.c → 0 ≤ swt (nth l ((nth s.sl ((s.c - 1) * 2)).toNat * 4)) (nth l ((nth s.sl ((s.c - 1) * 2)).toNat * 4 + 1)) (nth l ((bst l s.js s.t i).toNat * 4)) (nth l ((bst l s.js s.t i).toNat * 4 + 1)) ∧ swt (nth l ((nth s.sl ((s.c - 1) * 2)).toNat * 4)) (nth l ((nth s.sl ((s.c - 1) * 2)).toNat * 4 + 1)) (nth l ((bst l s.js s.t i).toNat * 4)) (nth l ((bst l s.js s.t i).toNat * 4 + 1)) ≤ 64 := fun q => by
              have hla := hp.last q
              have hb3 := br hb (i := lastB s.c s.sl) (by unfold lastB; omega)
              exact swt_range hb3.u hb3.v hb2.u hb2.v
            have ht0 := hp.t
            have hc1 : ((s.c : Int) - 1).toNat = s.c - 1 := by omega
            have hla := hp.last
            have hlb : 0 < s.c → BR l (nth s.sl ((s.c - 1) * 2)).toNat := fun q => br hb (by have := hla q; omega)
            have hlu : 0 < s.c → -64 ≤ nth l ((nth s.sl ((s.c - 1) * 2)).toNat * 4) ∧ nth l ((nth s.sl ((s.c - 1) * 2)).toNat * 4) ≤ 64 := fun q => (hlb q).u
            have hlv : 0 < s.c → -64 ≤ nth l ((nth s.sl ((s.c - 1) * 2)).toNat * 4 + 1) ∧ nth l ((nth s.sl ((s.c - 1) * 2)).toNat * 4 + 1) ≤ 64 := fun q => (hlb q).v
            have hbu := hb2.u
            have hbv := hb2.v
            have hAT1 : 0 < s.c → s.t + swt (nth l ((nth s.sl ((s.c - 1) * 2)).toNat * 4)) (nth l ((nth s.sl ((s.c - 1) * 2)).toNat * 4 + 1)) (nth l ((bst l s.js s.t i).toNat * 4)) (nth l ((bst l s.js s.t i).toNat * 4 + 1)) = atT l s.c s.sl s.t (bst l s.js s.t i).toNat := fun q => by unfold atT; rw [if_pos q]
            have hAT0 : ¬ 0 < s.c → s.t = atT l s.c s.sl s.t (bst l s.js s.t i).toNat := fun q => by unfold atT; rw [if_neg q]; omega
            have e1 : s.tt l i = s.t := by
              have := smn_le hrl (by omega) (show 0 ≤ bst l s.js s.t i by omega)
              unfold Pst.tt; omega
            have hstop : ∀ AT, AT = atT l s.c s.sl s.t (bst l s.js s.t i).toNat → total ≤ AT → ∃ c sl, PlanR l i total ⟨List.replicate i 0, 0, [], 0⟩ c sl ∧ c ≤ 200 ∧ Pfx h h2 ∧ GS h.length 115 2 h2 y c sl := fun AT hA q => ⟨_, _, hp.back _ _ (.stop s (by unfold Pst.step stepT; rw [e1, ← hA, if_pos (.inr q)])), hp.c, hpx, hG⟩
            have hjb : ∀ (g : Heap), (∀ b, b = h.length + 1 → g[b]? = h2[b]?) → IS (h.length + 1) (h.length + 2) 1 g jv i s.js := fun g hg => hJ.frame fun b q1 q2 => hg b (by omega)
            have hjlt : h.length + 1 < h2.length := by have := (hJ.bof (by omega)).2.2; omega
            have hGa : ∀ a b, GS h.length 115 2 (h2 ++ [(⟨115, [.int .i64 a, .int .i64 b]⟩ : Blk)]) y s.c s.sl := fun a b => hG.frame (get_skip hG.bof.2)
            have hap : ∀ a b, ablt Try.prog ro .append [56, 56] [y, .slice (some ⟨h2.length, 0, none⟩) 1 1] (h2 ++ [(⟨115, [.int .i64 a, .int .i64 b]⟩ : Blk)]) = some (.slice (some ⟨h2.length + 1, 0, none⟩) (s.c + 1) (s.c + 2), apd (h2 ++ [(⟨115, [.int .i64 a, .int .i64 b]⟩ : Blk)]) y s.c 115 s.sl [a, b]) := fun a b => by
              have := ablt_app (ro := ro) (T := 56) (v := [a, b]) (m := h2.length) tel56 tsz115 tby115 tze115 (by decide) (hGa a b) hro (get_last rfl) rfl (by omega) (by omega)
              simpa using this
            have hJa : ∀ a b, IS (h.length + 1) (h.length + 2) 1 (apd (h2 ++ [(⟨115, [.int .i64 a, .int .i64 b]⟩ : Blk)]) y s.c 115 s.sl [a, b]) jv i s.js := fun a b => hjb _ fun b' hb' => by
              rw [apd_get (by simp; omega) (by rw [hb']; exact Ne.symm hne), get_skip (by omega)]
            have hst : ∀ a b c v, c < i * 1 → stv Try.prog ro (apd (h2 ++ [(⟨115, [.int .i64 a, .int .i64 b]⟩ : Blk)]) y s.c 115 s.sl [a, b]) 2 (ea jv c) (.int .i64 v) = some (sto (apd (h2 ++ [(⟨115, [.int .i64 a, .int .i64 b]⟩ : Blk)]) y s.c 115 s.sl [a, b]) jv c (.int .i64 v)) := fun a b c v q => stv_sto tsz2 (by omega) (hJa a b).ok q
            have hPa : ∀ a b c v, Pfx h (sto (apd (h2 ++ [(⟨115, [.int .i64 a, .int .i64 b]⟩ : Blk)]) y s.c 115 s.sl [a, b]) jv c v) := fun a b c v => (hpx.snoc.apd hG.bof.1).sto (by omega)
            have hIa : ∀ a b c v, IS lo hi 4 (sto (apd (h2 ++ [(⟨115, [.int .i64 a, .int .i64 b]⟩ : Blk)]) y s.c 115 s.sl [a, b]) jv c v) x i l := fun a b c v => hI.pre (hPa a b c v)
            have hJl : ∀ a b c, c < i * 1 → ld Try.prog (apd (h2 ++ [(⟨115, [.int .i64 a, .int .i64 b]⟩ : Blk)]) y s.c 115 s.sl [a, b]) 2 (ea jv c) = some (.int .i64 (nth s.js c)) := fun a b c q => IS.ld1 (hJa a b) tsz2 tag2 q
            have hIl : ∀ a b c v d, d < i * 4 → ld Try.prog (sto (apd (h2 ++ [(⟨115, [.int .i64 a, .int .i64 b]⟩ : Blk)]) y s.c 115 s.sl [a, b]) jv c v) 2 (ea x d) = some (.int .i64 (nth l d)) := fun a b c v d q => IS.ld1 (hIa a b c v) tsz2 tag2 q
            have hend : ∀ AT, AT = atT l s.c s.sl s.t (bst l s.js s.t i).toNat → AT < total → s.t ≤ AT → ∃ m_1, m_1 < m ∧ ∃ (s_1 : Pst) (y_1 : Value), (m_1 = 2 * (200 - s_1.c) + if bst l s_1.js s_1.t i < 0 then 1 else 0) ∧ PI l i total ⟨List.replicate i 0, 0, [], 0⟩ s_1 ∧
                Pfx h (sto (apd (h2 ++ [(⟨115, [.int .i64 (bst l s.js s.t i), .int .i64 AT]⟩ : Blk)]) y s.c 115 s.sl [bst l s.js s.t i, AT]) jv ((bst l s.js s.t i).toNat * 1) (.int .i64 (nth s.js ((bst l s.js s.t i).toNat * 1) + 1))) ∧
                GS h.length 115 2 (sto (apd (h2 ++ [(⟨115, [.int .i64 (bst l s.js s.t i), .int .i64 AT]⟩ : Blk)]) y s.c 115 s.sl [bst l s.js s.t i, AT]) jv ((bst l s.js s.t i).toNat * 1) (.int .i64 (nth s.js ((bst l s.js s.t i).toNat * 1) + 1))) y_1 s_1.c s_1.sl ∧
                IS (h.length + 1) (h.length + 2) 1 (sto (apd (h2 ++ [(⟨115, [.int .i64 (bst l s.js s.t i), .int .i64 AT]⟩ : Blk)]) y s.c 115 s.sl [bst l s.js s.t i, AT]) jv ((bst l s.js s.t i).toNat * 1) (.int .i64 (nth s.js ((bst l s.js s.t i).toNat * 1) + 1))) jv i s_1.js ∧
                bOf y_1 ≠ h.length + 1 ∧ Value.slice (some ⟨h2.length + 1, 0, none⟩) (s.c + 1) (s.c + 2) = y_1 ∧ Value.int IntKind.i64 (AT + nth l ((bst l s.js s.t i).toNat * 4 + 2)) = Value.int IntKind.i64 s_1.t := fun AT hA q1 q2 => by
              have hns := PI.step hp hb ht.2 (by omega) (by omega) hG.1 hA q1 q2
              refine ⟨_, ?_, _, _, rfl, hns, hPa _ _ _ _, ?_, (hJa _ _).sto (by omega) _, ?_, rfl, rfl⟩
              · show 2 * (200 - (s.c + 1)) + _ < m
                rw [hm]
                have w1 : ∀ p : Prop, [Decidable p] → (if p then 1 else 0) ≤ 1 := fun p _ => by split <;> omega
                have w2 := w1 (bst l (s.js.set ((bst l s.js s.t i).toNat * 1) (nth s.js ((bst l s.js s.t i).toNat * 1) + 1)) (AT + nth l ((bst l s.js s.t i).toNat * 4 + 2)) i < 0)
                show 2 * (200 - (s.c + 1)) + (if bst l (s.js.set ((bst l s.js s.t i).toNat * 1) (nth s.js ((bst l s.js s.t i).toNat * 1) + 1)) (AT + nth l ((bst l s.js s.t i).toNat * 4 + 2)) i < 0 then 1 else 0) < _
                omega
              · have g1 := gs_apd (lo := h.length) (e := 115) (k := 2) (h := h2 ++ [(⟨115, [.int .i64 (bst l s.js s.t i), .int .i64 AT]⟩ : Blk)]) (x := y) (v := [bst l s.js s.t i, AT]) hG.1 rfl (by simp; omega)
                have g2 : (h2 ++ [(⟨115, [.int .i64 (bst l s.js s.t i), .int .i64 AT]⟩ : Blk)]).length = h2.length + 1 := by simp
                rw [g2] at g1
                refine g1.frame (sto_get ?_)
                rw [hbj]; simp only [bOf]; omega
              · simp only [bOf]; omega
            have hj0 := hp.j0 (bst l s.js s.t i).toNat (by omega)
            have hj1 : nth s.js ((bst l s.js s.t i).toNat * 1) ≤ 20000 := by
              have q9 : nth s.js ((bst l s.js s.t i).toNat * 1) * 1 ≤ nth s.js ((bst l s.js s.t i).toNat * 1) * nth l ((bst l s.js s.t i).toNat * 4 + 3) := Int.mul_le_mul_of_nonneg_left (by omega) hj0
              omega
            (repeat' first | simp -dsimp (disch := first | omega | assumption | (refine OkS.sto ?_ (by omega); first | assumption | (refine OkS.sto ?_ (by omega); first | assumption | (refine OkS.sto ?_ (by omega); first | assumption | (refine OkS.sto ?_ (by omega); first | assumption | (refine OkS.sto ?_ (by omega); first | assumption | (refine OkS.sto ?_ (by omega); first | assumption)))))) | exact Pfx.refl _ | (apply Pfx.snoc; repeat (first | exact Pfx.refl _ | assumption | apply Pfx.snoc)) | with_unfolding_all exact of_eq_true (eq_true rfl) | (simp only [List.length_append, List.length_cons, List.length_nil]; omega)) only [↓wpre0, ↓wpre1, ↓reduceIte, Int.reduceToNat, Nat.reduceAdd, Nat.reduceMul, Nat.reduceEqDiff, wpost0, wpost1, wpost2, wpost3, wpost4, ite_self, ite_true, ite_false, if_true, if_false, xbls56_0, xbls56_1, xlen42, xmk63, xlen56, bin_lss, xiad63, xld2, xiad42, xfad98_2, bin_mul, bin_leq, bin_add, bin_gtr, bin_sub, xiad56, xfad115_0, xfad98_0, xld96, bin_geq, xbld115_0_1, xst2, xfad98_1, fr87, wrap_int, wrap_u8, iteP_yes, iteP_no, g0, g1, g5, g6, g7, g21, g22, g8, g9, hc1, hG.len Try.underlying56, IS.iad hI' Try.underlying42 tsz98, IS.iad hS Try.underlying56 tsz115, IS.iad hJ Try.underlying63 tsz2, IS.ld1 hJ tsz2 tag2, IS.ld1 hI' tsz2 tag2, IS.ld1 hS tsz2 tag2, IS.ldm hI' tsz96 tag96, IS.fad hI' tfi98_2 (by decide), IS.fad hI' tfi98_0 (by decide), IS.fad hI' tfi98_1 (by decide), IS.fad hS tfi115_0 (by decide), l09Switch_r hX, hap, hst, hJl, hIl, endH_not hG.flat.1] | refine iteP_two (fun hc hd => ?_) (fun hc hd => ?_) | refine iteP_intro (fun hc => ?_) (fun hc => ?_))
            · exact hstop _ (hAT1 (by omega)) (by omega)
            · exact hend _ (hAT1 (by omega)) (by omega) (by have := hsw (by omega); omega)
            · exact hstop _ (hAT0 (by omega)) (by omega)
            · exact hend _ (hAT0 (by omega)) (by omega) (by omega)
    · exact ⟨_, _, hp.back _ _ (.stop s (by unfold Pst.step stepT; rw [if_pos (.inl (by omega))])), hp.c, hpx, hG⟩
end Go.Proofs.Ytbakaopgdcojfaa.Sim
