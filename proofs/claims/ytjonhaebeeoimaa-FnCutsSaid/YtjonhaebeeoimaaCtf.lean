/- Cuts of patterns and their directions, walked; the greatest number, dips. Lemmas only; no condition. -/
import Derived.Test.YtjonhaebeeoimaaSkf
import Derived.Test.YtjonhaebeeoimaaLcx
import Derived.Test.YtjonhaebeeoimaaSkx
import Derived.Test.YtjonhaebeeoimaaLah
set_option linter.unusedSimpArgs false
set_option linter.unusedVariables false
set_option maxRecDepth 8000
namespace Go.Proofs.Ytjonhaebeeoimaa.Sim
open Go Go.RowKit Fl
variable {ro lo hi lo' hi' n : Nat} {X : Ext} {h : Heap} {x y : Value} {l : List Int} {f : Nat → CB} {u v : Int} {cd : List UInt8} {L : List Nat}
set_option maxHeartbeats 2000000 in
theorem TenD_c (hX : XN X) (hV : VS lo hi 1 h x n (cd.map u8v)) (hro : ro ≤ h.length) (hhi : hi ≤ h.length) (hl : cd.length ≤ 1099511627776) :
    CallR Try.prog ro X 7 [x] h (fun r h' => ∃ a b : Nat, a < 71 ∧ b < 71 ∧ r = .agg ⟨[.int .i64 ((a : Int) - 35), .int .i64 ((b : Int) - 35)]⟩ ∧ h' = h) := by
  refine callR_of (hX _ rfl) Try.func7 rfl (by kernel_rfl) (Nat.le_of_ble_eq_true rfl) ?_
  (repeat' first | simp -dsimp (disch := first | omega | assumption | (refine OkS.sto ?_ (by omega); first | assumption | (refine OkS.sto ?_ (by omega); first | assumption | (refine OkS.sto ?_ (by omega); first | assumption | (refine OkS.sto ?_ (by omega); first | assumption | (refine OkS.sto ?_ (by omega); first | assumption | (refine OkS.sto ?_ (by omega); first | assumption)))))) | exact Pfx.refl _ | (apply Pfx.snoc; repeat (first | exact Pfx.refl _ | assumption | apply Pfx.snoc)) | with_unfolding_all exact of_eq_true (eq_true rfl) | (simp only [List.length_append, List.length_cons, List.length_nil]; omega)) only [↓wpre0, ↓wpre1, ↓reduceIte, Int.reduceToNat, Nat.reduceAdd, Nat.reduceMul, Nat.reduceEqDiff, wpost0, wpost1, wpost2, wpost3, wpost4, ite_self, ite_true, ite_false, if_true, if_false, tze29, bin_sub, xbld29_0, xst29, xfad29_1, xst2, xld29, fr7, wrap_int, wrap_u8, iteP_yes, iteP_no] | refine iteP_two (fun hc hd => ?_) (fun hc hd => ?_) | refine iteP_intro (fun hc => ?_) (fun hc => ?_))
  have p0 : Pfx h (h ++ [(⟨29, [.int .i64 0, .int .i64 0]⟩ : Blk)]) := (Pfx.refl h).snoc
  have l0 : (h ++ [(⟨29, [.int .i64 0, .int .i64 0]⟩ : Blk)]).length = h.length + 1 := by simp
  refine cf_rel (From_c (hX _ rfl) (hV.pre p0) (by omega)) (fun q => by cases q) ?_
  rintro r H1 ⟨rfl, p1, l1, S1⟩
  rw [l0] at l1 S1
  (repeat' first | simp -dsimp (disch := first | omega | assumption | (refine OkS.sto ?_ (by omega); first | assumption | (refine OkS.sto ?_ (by omega); first | assumption | (refine OkS.sto ?_ (by omega); first | assumption | (refine OkS.sto ?_ (by omega); first | assumption | (refine OkS.sto ?_ (by omega); first | assumption | (refine OkS.sto ?_ (by omega); first | assumption)))))) | exact Pfx.refl _ | (apply Pfx.snoc; repeat (first | exact Pfx.refl _ | assumption | apply Pfx.snoc)) | with_unfolding_all exact of_eq_true (eq_true rfl) | (simp only [List.length_append, List.length_cons, List.length_nil]; omega)) only [↓wpre0, ↓wpre1, ↓reduceIte, Int.reduceToNat, Nat.reduceAdd, Nat.reduceMul, Nat.reduceEqDiff, wpost0, wpost1, wpost2, wpost3, wpost4, ite_self, ite_true, ite_false, if_true, if_false, tze29, bin_sub, xbld29_0, xst29, xfad29_1, xst2, xld29, fr7, wrap_int, wrap_u8, iteP_yes, iteP_no, l0] | refine iteP_two (fun hc hd => ?_) (fun hc hd => ?_) | refine iteP_intro (fun hc => ?_) (fun hc => ?_))
  refine cf_rel (pick_c (hX _ rfl) (hX _ rfl) (n := 71) S1 (by omega) (by omega) (by omega) hl (by omega)) (fun q => by cases q) ?_
  rintro r H2 ⟨a, rfl, _, ha, S2, o2⟩
  have ha' := ha (by omega)
  have l2 := o2.1
  (repeat' first | simp -dsimp (disch := first | omega | assumption | (refine OkS.sto ?_ (by omega); first | assumption | (refine OkS.sto ?_ (by omega); first | assumption | (refine OkS.sto ?_ (by omega); first | assumption | (refine OkS.sto ?_ (by omega); first | assumption | (refine OkS.sto ?_ (by omega); first | assumption | (refine OkS.sto ?_ (by omega); first | assumption)))))) | exact Pfx.refl _ | (apply Pfx.snoc; repeat (first | exact Pfx.refl _ | assumption | apply Pfx.snoc)) | with_unfolding_all exact of_eq_true (eq_true rfl) | (simp only [List.length_append, List.length_cons, List.length_nil]; omega)) only [↓wpre0, ↓wpre1, ↓reduceIte, Int.reduceToNat, Nat.reduceAdd, Nat.reduceMul, Nat.reduceEqDiff, wpost0, wpost1, wpost2, wpost3, wpost4, ite_self, ite_true, ite_false, if_true, if_false, tze29, bin_sub, xbld29_0, xst29, xfad29_1, xst2, xld29, fr7, wrap_int, wrap_u8, iteP_yes, iteP_no, l0] | refine iteP_two (fun hc hd => ?_) (fun hc hd => ?_) | refine iteP_intro (fun hc => ?_) (fun hc => ?_))
  have p2 : Pfx H2 (H2 ++ [(⟨29, [.int .i64 ((a : Int) - 35), .int .i64 0]⟩ : Blk)]) := (Pfx.refl H2).snoc
  have l3 : (H2 ++ [(⟨29, [.int .i64 ((a : Int) - 35), .int .i64 0]⟩ : Blk)]).length = H2.length + 1 := by simp
  refine cf_rel (pick_c (hX _ rfl) (hX _ rfl) (n := 71) (S2.pre p2) (by omega) (by omega) (by omega) hl (by omega)) (fun q => by cases q) ?_
  rintro r H4 ⟨b, rfl, _, hb, S4, o4⟩
  have hb' := hb (by omega)
  have l4 := o4.1
  have D4 : H4[H2.length]? = some ⟨29, [.int .i64 ((a : Int) - 35), .int .i64 0]⟩ := by
    rw [o4.2 _ (by omega)]; exact get_last rfl
  have P4 : put ro H4 H2.length 1 1 (.int .i64 ((b : Int) - 35)) = some (H4.set H2.length ⟨29, [.int .i64 ((a : Int) - 35), .int .i64 ((b : Int) - 35)]⟩) := putb (n := 1) (o := 1) D4 (by omega) rfl (by simp) rfl
  have C5 : cells (H4.set H2.length ⟨29, [.int .i64 ((a : Int) - 35), .int .i64 ((b : Int) - 35)]⟩) H2.length 0 2 = some (.agg ⟨[.int .i64 ((a : Int) - 35), .int .i64 ((b : Int) - 35)]⟩) := cells_set (o := 0) (n := 2) (by omega) (by simp)
  have D5 : (H4.set H2.length ⟨29, [.int .i64 ((a : Int) - 35), .int .i64 ((b : Int) - 35)]⟩)[h.length]? = some ⟨29, [.int .i64 0, .int .i64 0]⟩ := by
    rw [set_get (by omega), o4.2 _ (by omega), p2.get (by omega), o2.2 _ (by omega), p1.get (by omega)]
    exact get_last rfl
  have P5 : put ro (H4.set H2.length ⟨29, [.int .i64 ((a : Int) - 35), .int .i64 ((b : Int) - 35)]⟩) h.length 0 2 (.agg ⟨[.int .i64 ((a : Int) - 35), .int .i64 ((b : Int) - 35)]⟩) = some ((H4.set H2.length ⟨29, [.int .i64 ((a : Int) - 35), .int .i64 ((b : Int) - 35)]⟩).set h.length ⟨29, [.int .i64 ((a : Int) - 35), .int .i64 ((b : Int) - 35)]⟩) := putb (n := 2) (o := 0) D5 (by omega) rfl (by simp) rfl
  have C6 : cells ((H4.set H2.length ⟨29, [.int .i64 ((a : Int) - 35), .int .i64 ((b : Int) - 35)]⟩).set h.length ⟨29, [.int .i64 ((a : Int) - 35), .int .i64 ((b : Int) - 35)]⟩) h.length 0 2 = some (.agg ⟨[.int .i64 ((a : Int) - 35), .int .i64 ((b : Int) - 35)]⟩) := cells_set (o := 0) (n := 2) (by rw [List.length_set]; omega) (by simp)
  have pH : Pfx h ((H4.set H2.length ⟨29, [.int .i64 ((a : Int) - 35), .int .i64 ((b : Int) - 35)]⟩).set h.length ⟨29, [.int .i64 ((a : Int) - 35), .int .i64 ((b : Int) - 35)]⟩) := by
    have q1 : Pfx h H2 := pfx_onl (p0.trans p1) o2 (by omega)
    have q2 : Pfx h H4 := pfx_onl (q1.trans p2) o4 (by omega)
    exact (q2.set (by omega)).set (Nat.le_refl _)
  have ef : endH (.agg ⟨[.int .i64 ((a : Int) - 35), .int .i64 ((b : Int) - 35)]⟩) h ((H4.set H2.length ⟨29, [.int .i64 ((a : Int) - 35), .int .i64 ((b : Int) - 35)]⟩).set h.length ⟨29, [.int .i64 ((a : Int) - 35), .int .i64 ((b : Int) - 35)]⟩) = h := endH_flat rfl pH
  (repeat' first | simp -dsimp (disch := first | omega | assumption | (refine OkS.sto ?_ (by omega); first | assumption | (refine OkS.sto ?_ (by omega); first | assumption | (refine OkS.sto ?_ (by omega); first | assumption | (refine OkS.sto ?_ (by omega); first | assumption | (refine OkS.sto ?_ (by omega); first | assumption | (refine OkS.sto ?_ (by omega); first | assumption)))))) | exact Pfx.refl _ | (apply Pfx.snoc; repeat (first | exact Pfx.refl _ | assumption | apply Pfx.snoc)) | with_unfolding_all exact of_eq_true (eq_true rfl) | (simp only [List.length_append, List.length_cons, List.length_nil]; omega)) only [↓wpre0, ↓wpre1, ↓reduceIte, Int.reduceToNat, Nat.reduceAdd, Nat.reduceMul, Nat.reduceEqDiff, wpost0, wpost1, wpost2, wpost3, wpost4, ite_self, ite_true, ite_false, if_true, if_false, tze29, bin_sub, xbld29_0, xst29, xfad29_1, xst2, xld29, fr7, wrap_int, wrap_u8, iteP_yes, iteP_no, l0, P4, C5, P5, C6, ef] | refine iteP_two (fun hc hd => ?_) (fun hc hd => ?_) | refine iteP_intro (fun hc => ?_) (fun hc => ?_))
  exact ⟨a, b, by omega, by omega, rfl⟩
/-- Powers of a cut. -/
def pwV (f : Nat → CB) (l : List Int) (n : Nat) (u v : Int) (m : Nat) : List Value := (List.range m).map fun j : Nat => .float .f32 (poF f l n (u + (j : Int)) v)
theorem pwV_len (m : Nat) : (pwV f l n u v m).length = m := by simp [pwV]
theorem pwV_succ (m : Nat) : pwV f l n u v (m + 1) = pwV f l n u v m ++ [.float .f32 (poF f l n (u + (m : Int)) v)] := by simp [pwV, List.range_succ]
theorem pwV_at {m j : Nat} (h : j < m) : vth (pwV f l n u v m) j = .float .f32 (poF f l n (u + (j : Int)) v) := by
  rw [vth_eq (by rw [pwV_len]; exact h)]
  simp [pwV]
set_option maxHeartbeats 4000000 in
theorem CutOf_c (hX : XN X) (hA : XAbs X) (k : PW ro h x y n l f) (hd : ∀ j : Nat, j ≤ 4 → dirB (u + (j : Int)) v = true) (hro : ro ≤ h.length) :
    CallR Try.prog ro X 8 [x, y, .int .i64 v, .int .i64 u, .int .i64 (u + 4)] h (fun r h' => ∃ z, r = .tuple ⟨[z, .bool true]⟩ ∧ Pfx h h' ∧ VG h.length 34 1 h' z 5 (pwV f l n u v 5)) := by
  have hd0 := hd 0 (by omega)
  have hd4 := hd 4 (by omega)
  have e0 : u + ((0 : Nat) : Int) = u := by omega
  have e4 : u + ((4 : Nat) : Int) = u + 4 := by omega
  rw [e0] at hd0
  rw [e4] at hd4
  obtain ⟨b1, b2, b3, b4⟩ := dirB_le hd0
  have v0 := vDir_r (ro := ro) hX u v h hro
  have v4 := vDir_r (ro := ro) hX (u + 4) v h hro
  rw [hd0] at v0
  rw [hd4] at v4
  refine callR_of (hX _ rfl) Try.func8 rfl (by kernel_rfl) (Nat.le_of_ble_eq_true rfl) ?_
  (repeat' first | simp -dsimp (disch := first | omega | assumption | (refine OkS.sto ?_ (by omega); first | assumption | (refine OkS.sto ?_ (by omega); first | assumption | (refine OkS.sto ?_ (by omega); first | assumption | (refine OkS.sto ?_ (by omega); first | assumption | (refine OkS.sto ?_ (by omega); first | assumption | (refine OkS.sto ?_ (by omega); first | assumption)))))) | exact Pfx.refl _ | (apply Pfx.snoc; repeat (first | exact Pfx.refl _ | assumption | apply Pfx.snoc)) | with_unfolding_all exact of_eq_true (eq_true rfl) | (simp only [List.length_append, List.length_cons, List.length_nil]; omega)) only [↓wpre0, ↓wpre1, ↓reduceIte, Int.reduceToNat, Nat.reduceAdd, Nat.reduceMul, Nat.reduceEqDiff, wpost0, wpost1, wpost2, wpost3, wpost4, ite_self, ite_true, ite_false, if_true, if_false, un_not, bin_gtr, xbld29_0_1, xbls31_0, xbls31_1, bin_leq, bin_add, fr8, wrap_int, wrap_u8, iteP_yes, iteP_no, areFor_r hX k hro, v0, v4] | refine iteP_two (fun hc hd => ?_) (fun hc hd => ?_) | refine iteP_intro (fun hc => ?_) (fun hc => ?_))
  refine loop_rounds (fun mm e h' => ∃ (j : Nat) (z : Value), mm = 5 - j ∧ j ≤ 5 ∧ Pfx h h' ∧ e 0 = x ∧ e 1 = y ∧ e 2 = .int .i64 v ∧ e 4 = .int .i64 (u + 4) ∧ e 12 = z ∧ e 13 = .int .i64 (u + (j : Int)) ∧ VG h.length 34 1 h' z j (pwV f l n u v j)) _ ⟨0, .slice (some ⟨h.length, 0, none⟩) 0 0, rfl, ?_⟩ ?_
  · simp only [updO_at, updO_not, entry_at, List.getD_cons_zero, List.getD_cons_succ, ↓reduceIte, Nat.reduceEqDiff, true_and, and_true]
    have q1 : Pfx h (h ++ [(⟨34, []⟩ : Blk)]) := (Pfx.refl h).snoc
    have q2 : VG h.length 34 1 (h ++ [(⟨34, []⟩ : Blk)]) (.slice (some ⟨h.length, 0, none⟩) 0 0) 0 (pwV f l n u v 0) := vg_new h (Nat.le_refl _)
    (repeat' (first | assumption | rfl | omega | exact q1 | exact q2 | (rw [e0]) | exact Nat.zero_le _ | refine And.intro ?_ ?_))
  · rintro mm e h' ⟨j, z, hmm, hj, hp, g0, g1, g2, g4, g12, g13, hZ⟩
    have hlp := hp.len
    have hbz := hZ.bof
    have hks : u + (j : Int) + 1 = u + ((j + 1 : Nat) : Int) := by omega
    by_cases hin : j < 5
    · have hdj := hd j (by omega)
      obtain ⟨w, hw⟩ : ∃ w : Int, w = u + (j : Int) := ⟨_, rfl⟩
      have hpa := patternAt_r (ro := ro) hX hA (k.pre hp) hdj (by omega)
      have hpo := PowerP_r (ro := ro) hX (k.pre hp) hdj
      obtain ⟨H, ap, vg, old, hlen⟩ := acc1 (P := Try.prog) (ro := ro) (T := 31) (h := h') (v := .float .f32 (poF f l n (u + (j : Int)) v)) tel31 tsz34 tby34 tze34 (.inl hZ) hro (by omega) rfl (by omega) (by omega)
      rw [← pwV_succ] at vg
      have pH := old.1 h hp (Nat.le_refl _)
      rw [← hw] at hpa hpo g13 ap
      have hw4 : w ≤ u + 4 := by omega
      (repeat' first | simp -dsimp (disch := first | omega | assumption | (refine OkS.sto ?_ (by omega); first | assumption | (refine OkS.sto ?_ (by omega); first | assumption | (refine OkS.sto ?_ (by omega); first | assumption | (refine OkS.sto ?_ (by omega); first | assumption | (refine OkS.sto ?_ (by omega); first | assumption | (refine OkS.sto ?_ (by omega); first | assumption)))))) | exact Pfx.refl _ | (apply Pfx.snoc; repeat (first | exact Pfx.refl _ | assumption | apply Pfx.snoc)) | with_unfolding_all exact of_eq_true (eq_true rfl) | (simp only [List.length_append, List.length_cons, List.length_nil]; omega)) only [↓wpre0, ↓wpre1, ↓reduceIte, Int.reduceToNat, Nat.reduceAdd, Nat.reduceMul, Nat.reduceEqDiff, wpost0, wpost1, wpost2, wpost3, wpost4, ite_self, ite_true, ite_false, if_true, if_false, un_not, bin_gtr, xbld29_0_1, xbls31_0, xbls31_1, bin_leq, bin_add, fr8, wrap_int, wrap_u8, iteP_yes, iteP_no, g0, g1, g2, g4, g12, g13, hpa, hpo, ap] | refine iteP_two (fun hc hd => ?_) (fun hc hd => ?_) | refine iteP_intro (fun hc => ?_) (fun hc => ?_))
      refine ⟨5 - (j + 1), by omega, j + 1, .slice (some ⟨h'.length + 1, 0, none⟩) (j + 1) (j + 1 + 1), ?_⟩
      have hk2 : w + 1 = u + ((j + 1 : Nat) : Int) := by omega
      (repeat' (first | assumption | rfl | omega | (rw [hk2]) | refine And.intro ?_ ?_))
    · have ej : j = 5 := by omega
      subst ej
      have hnf : Sim.flat (.tuple ⟨[z, .bool true]⟩) = false := by obtain ⟨_, b, cap, rfl, _⟩ := hZ; rfl
      have hw4 : ¬ (u + ((5 : Nat) : Int)) ≤ u + 4 := by omega
      (repeat' first | simp -dsimp (disch := first | omega | assumption | (refine OkS.sto ?_ (by omega); first | assumption | (refine OkS.sto ?_ (by omega); first | assumption | (refine OkS.sto ?_ (by omega); first | assumption | (refine OkS.sto ?_ (by omega); first | assumption | (refine OkS.sto ?_ (by omega); first | assumption | (refine OkS.sto ?_ (by omega); first | assumption)))))) | exact Pfx.refl _ | (apply Pfx.snoc; repeat (first | exact Pfx.refl _ | assumption | apply Pfx.snoc)) | with_unfolding_all exact of_eq_true (eq_true rfl) | (simp only [List.length_append, List.length_cons, List.length_nil]; omega)) only [↓wpre0, ↓wpre1, ↓reduceIte, Int.reduceToNat, Nat.reduceAdd, Nat.reduceMul, Nat.reduceEqDiff, wpost0, wpost1, wpost2, wpost3, wpost4, ite_self, ite_true, ite_false, if_true, if_false, un_not, bin_gtr, xbld29_0_1, xbls31_0, xbls31_1, bin_leq, bin_add, fr8, wrap_int, wrap_u8, iteP_yes, iteP_no, g0, g1, g2, g4, g12, g13, endH_not hnf] | refine iteP_two (fun hc hd => ?_) (fun hc hd => ?_) | refine iteP_intro (fun hc => ?_) (fun hc => ?_))
      exact ⟨z, rfl, hp, hZ⟩
/-! ### The greatest number -/
def pkN (c : Nat → Nat) : Nat → Nat
  | 0 => 0
  | i + 1 => if c (pkN c i) < c i then i else pkN c i
theorem pkN_lt (c : Nat → Nat) : ∀ n, 0 < n → pkN c n < n
  | 0, h => by omega
  | n + 1, _ => by
    unfold pkN
    split
    · omega
    · rcases Nat.eq_zero_or_pos n with q | q
      · subst q; unfold pkN; omega
      · have := pkN_lt c n q; omega
theorem pkN_max (c : Nat → Nat) : ∀ n i, i < n → c i ≤ c (pkN c n)
  | 0, i, h => by omega
  | n + 1, i, h => by
    unfold pkN
    by_cases q : i = n
    · subst q
      split
      · exact Nat.le_refl _
      · omega
    · have := pkN_max c n i (by omega)
      split
      · omega
      · exact this
theorem pkN_first (c : Nat → Nat) : ∀ n i, i < pkN c n → c i < c (pkN c n)
  | 0, i, h => by unfold pkN at h; omega
  | n + 1, i, h => by
    unfold pkN at h ⊢
    split
    · rename_i hc
      rw [if_pos hc] at h
      have := pkN_max c n i h
      omega
    · rename_i hc
      rw [if_neg hc] at h
      exact pkN_first c n i h
set_option maxHeartbeats 2000000 in
theorem Peak_r (hX : XN X) (hC : CUT lo hi h x L) (h1 : 1 ≤ L.length) : Ret Try.prog ro X 12 [x] h (.tuple ⟨[.int .i64 (pkN (cn L) L.length : Nat), .bool true]⟩) := by
  have hL := hC.s
  have hn := hC.n
  refine ret_of (callR_of (hX _ rfl) Try.func12 rfl (by kernel_rfl) (Nat.le_of_ble_eq_true rfl) ?_)
  (repeat' first | simp -dsimp (disch := first | omega | assumption | (refine OkS.sto ?_ (by omega); first | assumption | (refine OkS.sto ?_ (by omega); first | assumption | (refine OkS.sto ?_ (by omega); first | assumption | (refine OkS.sto ?_ (by omega); first | assumption | (refine OkS.sto ?_ (by omega); first | assumption | (refine OkS.sto ?_ (by omega); first | assumption)))))) | exact Pfx.refl _ | (apply Pfx.snoc; repeat (first | exact Pfx.refl _ | assumption | apply Pfx.snoc)) | with_unfolding_all exact of_eq_true (eq_true rfl) | (simp only [List.length_append, List.length_cons, List.length_nil]; omega)) only [↓wpre0, ↓wpre1, ↓reduceIte, Int.reduceToNat, Nat.reduceAdd, Nat.reduceMul, Nat.reduceEqDiff, wpost0, wpost1, wpost2, wpost3, wpost4, ite_self, ite_true, ite_false, if_true, if_false, xlen31, bin_lss, xiad31, xld34, bin_feql, bin_fgtr, bin_add, un_not, fr12, wrap_int, wrap_u8, iteP_yes, iteP_no, hC.len] | refine iteP_two (fun hc hd => ?_) (fun hc hd => ?_) | refine iteP_intro (fun hc => ?_) (fun hc => ?_))
  refine loop_rounds (fun mm e h' => ∃ i : Nat, mm = L.length - i ∧ i ≤ L.length ∧ h' = h ∧ e 0 = x ∧ e 4 = .int .i64 (if i = 0 then -1 else ((pkN (cn L) i : Nat) : Int)) ∧ e 7 = x ∧ e 8 = .int .i64 L.length ∧ e 9 = .int .i64 i) _ ⟨0, rfl, ?_⟩ ?_
  · simp only [updO_at, updO_not, entry_at, List.getD_cons_zero, List.getD_cons_succ, ↓reduceIte, Nat.reduceEqDiff, true_and, and_true]
    (repeat' (first | assumption | rfl | omega | refine And.intro ?_ ?_))
  · rintro mm e h' ⟨i, hmm, hle, rfl, g0, g4, g7, g8, g9⟩
    have hks := toNat_succ i
    by_cases hin : i < L.length
    · have e1 : (if i + 1 = 0 then (-1 : Int) else ((pkN (cn L) (i + 1) : Nat) : Int)) = ((pkN (cn L) (i + 1) : Nat) : Int) := if_neg (Nat.succ_ne_zero i)
      by_cases h0 : i = 0
      · subst h0
        rw [if_pos rfl] at g4
        have e2 : pkN (cn L) (0 + 1) = 0 := by unfold pkN; split <;> rfl
        have hneg : decide ((-1 : Int) < 0) = true := rfl
        have hld0 : ld Try.prog h' 34 (ea x 0) = some (.float .f32 (fS (cn L 0))) := hC.ld (i := 0) hin
        (repeat' first | simp -dsimp (disch := first | omega | assumption | (refine OkS.sto ?_ (by omega); first | assumption | (refine OkS.sto ?_ (by omega); first | assumption | (refine OkS.sto ?_ (by omega); first | assumption | (refine OkS.sto ?_ (by omega); first | assumption | (refine OkS.sto ?_ (by omega); first | assumption | (refine OkS.sto ?_ (by omega); first | assumption)))))) | exact Pfx.refl _ | (apply Pfx.snoc; repeat (first | exact Pfx.refl _ | assumption | apply Pfx.snoc)) | with_unfolding_all exact of_eq_true (eq_true rfl) | (simp only [List.length_append, List.length_cons, List.length_nil]; omega)) only [↓wpre0, ↓wpre1, ↓reduceIte, Int.reduceToNat, Nat.reduceAdd, Nat.reduceMul, Nat.reduceEqDiff, wpost0, wpost1, wpost2, wpost3, wpost4, ite_self, ite_true, ite_false, if_true, if_false, xlen31, bin_lss, xiad31, xld34, bin_feql, bin_fgtr, bin_add, un_not, fr12, wrap_int, wrap_u8, iteP_yes, iteP_no, g0, g4, g7, g8, g9, hC.iad, hld0, eqs_cn hL, hneg] | refine iteP_two (fun hc hd => ?_) (fun hc hd => ?_) | refine iteP_intro (fun hc => ?_) (fun hc => ?_))
        refine ⟨L.length - (0 + 1), by omega, 0 + 1, ?_⟩
        rw [e1, e2]
        (repeat' (first | assumption | rfl | omega | refine And.intro ?_ ?_))
      · rw [if_neg h0] at g4
        have hlt := pkN_lt (cn L) i (by omega)
        by_cases hc : cn L (pkN (cn L) i) < cn L i
        · have e2 : pkN (cn L) (i + 1) = i := by rw [pkN, if_pos hc]
          generalize pkN (cn L) i = b at *
          (repeat' first | simp -dsimp (disch := first | omega | assumption | (refine OkS.sto ?_ (by omega); first | assumption | (refine OkS.sto ?_ (by omega); first | assumption | (refine OkS.sto ?_ (by omega); first | assumption | (refine OkS.sto ?_ (by omega); first | assumption | (refine OkS.sto ?_ (by omega); first | assumption | (refine OkS.sto ?_ (by omega); first | assumption)))))) | exact Pfx.refl _ | (apply Pfx.snoc; repeat (first | exact Pfx.refl _ | assumption | apply Pfx.snoc)) | with_unfolding_all exact of_eq_true (eq_true rfl) | (simp only [List.length_append, List.length_cons, List.length_nil]; omega)) only [↓wpre0, ↓wpre1, ↓reduceIte, Int.reduceToNat, Nat.reduceAdd, Nat.reduceMul, Nat.reduceEqDiff, wpost0, wpost1, wpost2, wpost3, wpost4, ite_self, ite_true, ite_false, if_true, if_false, xlen31, bin_lss, xiad31, xld34, bin_feql, bin_fgtr, bin_add, un_not, fr12, wrap_int, wrap_u8, iteP_yes, iteP_no, g0, g4, g7, g8, g9, hC.iad, hC.ld, eqs_cn hL, lt_cn hL, decide_eq_true hc] | refine iteP_two (fun hc hd => ?_) (fun hc hd => ?_) | refine iteP_intro (fun hc => ?_) (fun hc => ?_))
          refine ⟨L.length - (i + 1), by omega, i + 1, ?_⟩
          rw [e1, e2]
          (repeat' (first | assumption | rfl | omega | (rw [hks]) | refine And.intro ?_ ?_))
        · have e2 : pkN (cn L) (i + 1) = pkN (cn L) i := by rw [pkN, if_neg hc]
          generalize pkN (cn L) i = b at *
          (repeat' first | simp -dsimp (disch := first | omega | assumption | (refine OkS.sto ?_ (by omega); first | assumption | (refine OkS.sto ?_ (by omega); first | assumption | (refine OkS.sto ?_ (by omega); first | assumption | (refine OkS.sto ?_ (by omega); first | assumption | (refine OkS.sto ?_ (by omega); first | assumption | (refine OkS.sto ?_ (by omega); first | assumption)))))) | exact Pfx.refl _ | (apply Pfx.snoc; repeat (first | exact Pfx.refl _ | assumption | apply Pfx.snoc)) | with_unfolding_all exact of_eq_true (eq_true rfl) | (simp only [List.length_append, List.length_cons, List.length_nil]; omega)) only [↓wpre0, ↓wpre1, ↓reduceIte, Int.reduceToNat, Nat.reduceAdd, Nat.reduceMul, Nat.reduceEqDiff, wpost0, wpost1, wpost2, wpost3, wpost4, ite_self, ite_true, ite_false, if_true, if_false, xlen31, bin_lss, xiad31, xld34, bin_feql, bin_fgtr, bin_add, un_not, fr12, wrap_int, wrap_u8, iteP_yes, iteP_no, g0, g4, g7, g8, g9, hC.iad, hC.ld, eqs_cn hL, lt_cn hL, decide_eq_false hc] | refine iteP_two (fun hc hd => ?_) (fun hc hd => ?_) | refine iteP_intro (fun hc => ?_) (fun hc => ?_))
          refine ⟨L.length - (i + 1), by omega, i + 1, ?_⟩
          rw [e1, e2]
          (repeat' (first | assumption | rfl | omega | (rw [hks]) | refine And.intro ?_ ?_))
    · have ei : i = L.length := by omega
      rw [if_neg (by omega)] at g4
      rw [ei] at g4
      have hlt := pkN_lt (cn L) L.length (by omega)
      generalize pkN (cn L) L.length = b at *
      (repeat' first | simp -dsimp (disch := first | omega | assumption | (refine OkS.sto ?_ (by omega); first | assumption | (refine OkS.sto ?_ (by omega); first | assumption | (refine OkS.sto ?_ (by omega); first | assumption | (refine OkS.sto ?_ (by omega); first | assumption | (refine OkS.sto ?_ (by omega); first | assumption | (refine OkS.sto ?_ (by omega); first | assumption)))))) | exact Pfx.refl _ | (apply Pfx.snoc; repeat (first | exact Pfx.refl _ | assumption | apply Pfx.snoc)) | with_unfolding_all exact of_eq_true (eq_true rfl) | (simp only [List.length_append, List.length_cons, List.length_nil]; omega)) only [↓wpre0, ↓wpre1, ↓reduceIte, Int.reduceToNat, Nat.reduceAdd, Nat.reduceMul, Nat.reduceEqDiff, wpost0, wpost1, wpost2, wpost3, wpost4, ite_self, ite_true, ite_false, if_true, if_false, xlen31, bin_lss, xiad31, xld34, bin_feql, bin_fgtr, bin_add, un_not, fr12, wrap_int, wrap_u8, iteP_yes, iteP_no, g0, g4, g7, g8, g9, isCut_r hX hC h1] | refine iteP_two (fun hc hd => ?_) (fun hc hd => ?_) | refine iteP_intro (fun hc => ?_) (fun hc => ?_))
/-! ### Dips -/
def gtN (a b : Nat) : Bool := decide (b < a)
theorem dipf_r (hX : XN X) (hL : CL L) (a b : Nat) (H : Heap) : Ret Try.prog ro X 33 [.float .f32 (fS (cn L a)), .float .f32 (fS (cn L b))] H (.bool (gtN (cn L a) (cn L b))) := by
  refine ret_of (callR_of (hX _ rfl) Try.func33 rfl (by kernel_rfl) (Nat.le_of_ble_eq_true rfl) ?_)
  (repeat' first | simp -dsimp (disch := first | omega | assumption | (refine OkS.sto ?_ (by omega); first | assumption | (refine OkS.sto ?_ (by omega); first | assumption | (refine OkS.sto ?_ (by omega); first | assumption | (refine OkS.sto ?_ (by omega); first | assumption | (refine OkS.sto ?_ (by omega); first | assumption | (refine OkS.sto ?_ (by omega); first | assumption)))))) | exact Pfx.refl _ | (apply Pfx.snoc; repeat (first | exact Pfx.refl _ | assumption | apply Pfx.snoc)) | with_unfolding_all exact of_eq_true (eq_true rfl) | (simp only [List.length_append, List.length_cons, List.length_nil]; omega)) only [↓wpre0, ↓wpre1, ↓reduceIte, Int.reduceToNat, Nat.reduceAdd, Nat.reduceMul, Nat.reduceEqDiff, wpost0, wpost1, wpost2, wpost3, wpost4, ite_self, ite_true, ite_false, if_true, if_false, bin_fgtr, fr33, wrap_int, wrap_u8, iteP_yes, iteP_no, lt_cn hL] | refine iteP_two (fun hc hd => ?_) (fun hc hd => ?_) | refine iteP_intro (fun hc => ?_) (fun hc => ?_))
  rfl
theorem Dips_c (hX : XN X) (hC : CUT lo hi h x L) (h1 : 1 ≤ L.length) (hro : ro ≤ h.length) :
    CallR Try.prog ro X 14 [x] h (fun r h' => ∃ y, r = .tuple ⟨[y, .bool true]⟩ ∧ Pfx h h' ∧ VG h.length 2 1 h' y (runL gtN L).length (vints ((runL gtN L).map natI))) := by
  refine callR_of (hX _ rfl) Try.func14 rfl (by kernel_rfl) (Nat.le_of_ble_eq_true rfl) ?_
  (repeat' first | simp -dsimp (disch := first | omega | assumption | (refine OkS.sto ?_ (by omega); first | assumption | (refine OkS.sto ?_ (by omega); first | assumption | (refine OkS.sto ?_ (by omega); first | assumption | (refine OkS.sto ?_ (by omega); first | assumption | (refine OkS.sto ?_ (by omega); first | assumption | (refine OkS.sto ?_ (by omega); first | assumption)))))) | exact Pfx.refl _ | (apply Pfx.snoc; repeat (first | exact Pfx.refl _ | assumption | apply Pfx.snoc)) | with_unfolding_all exact of_eq_true (eq_true rfl) | (simp only [List.length_append, List.length_cons, List.length_nil]; omega)) only [↓wpre0, ↓wpre1, ↓reduceIte, Int.reduceToNat, Nat.reduceAdd, Nat.reduceMul, Nat.reduceEqDiff, wpost0, wpost1, wpost2, wpost3, wpost4, ite_self, ite_true, ite_false, if_true, if_false, un_not, fr14, wrap_int, wrap_u8, iteP_yes, iteP_no, isCut_r hX hC h1] | refine iteP_two (fun hc hd => ?_) (fun hc hd => ?_) | refine iteP_intro (fun hc => ?_) (fun hc => ?_))
  refine cf_rel (runs_c hX hC gtN _ hro (fun H a b => dipf_r hX hC.s a b H)) (fun q => by cases q) ?_
  rintro r h' ⟨hp, hY⟩
  have hnf : Sim.flat (.tuple ⟨[r, .bool true]⟩) = false := by obtain ⟨_, b, cap, rfl, _⟩ := hY; rfl
  (repeat' first | simp -dsimp (disch := first | omega | assumption | (refine OkS.sto ?_ (by omega); first | assumption | (refine OkS.sto ?_ (by omega); first | assumption | (refine OkS.sto ?_ (by omega); first | assumption | (refine OkS.sto ?_ (by omega); first | assumption | (refine OkS.sto ?_ (by omega); first | assumption | (refine OkS.sto ?_ (by omega); first | assumption)))))) | exact Pfx.refl _ | (apply Pfx.snoc; repeat (first | exact Pfx.refl _ | assumption | apply Pfx.snoc)) | with_unfolding_all exact of_eq_true (eq_true rfl) | (simp only [List.length_append, List.length_cons, List.length_nil]; omega)) only [↓wpre0, ↓wpre1, ↓reduceIte, Int.reduceToNat, Nat.reduceAdd, Nat.reduceMul, Nat.reduceEqDiff, wpost0, wpost1, wpost2, wpost3, wpost4, ite_self, ite_true, ite_false, if_true, if_false, un_not, fr14, wrap_int, wrap_u8, iteP_yes, iteP_no, endH_not hnf] | refine iteP_two (fun hc hd => ?_) (fun hc hd => ?_) | refine iteP_intro (fun hc => ?_) (fun hc => ?_))
  exact ⟨r, rfl, hp, hY⟩
end Go.Proofs.Ytjonhaebeeoimaa.Sim

/- Means and levels of a cut of small numbers. Lemmas only; no condition. -/
set_option linter.unusedSimpArgs false
set_option linter.unusedVariables false
set_option maxRecDepth 8000
namespace Go.Proofs.Ytjonhaebeeoimaa.Sim
open Go Go.RowKit Fl
variable {ro lo hi n : Nat} {X : Ext} {h : Heap} {x y : Value} {L : List Nat}
/-- A whole number, wide. -/
def sW (m : Nat) : Nat := cf .f64 (FloatKind.f64.nearest (m : Int))
theorem sum_tab : ∀ m : Fin 85, ∀ a : Fin 8, farith .add .f64 (sW m) (wd (fS a)) = sW (m + a.val) ∧ okW (fS a) := by
  unfold okW
  decide +kernel
/-- The mean of numbers. -/
def mnW (m n : Nat) : Nat := farith .quo .f64 (sW m) (sW n)
/-- The difference of two numbers. -/
def gapF (a b : Nat) : Nat := if fcmp .lss .f64 a b = true then farith .sub .f64 b a else farith .sub .f64 a b
def mnOk (m n : Nat) : Bool := decide (fconv .f64 (mnW m n) .f32 = some (nr (mnW m n))) && decide (fconv .f32 (nr (mnW m n)) .f64 = some (wd (nr (mnW m n)))) && !(fcmp .lss .f64 4562254508917369340 (gapF (farith .mul .f64 (wd (nr (mnW m n))) (sW n)) (sW m)))
def allB (f : Nat → Bool) : Nat → Bool
  | 0 => true
  | n + 1 => f n && allB f n
theorem allB_at {f : Nat → Bool} : ∀ {n : Nat}, allB f n = true → ∀ k, k < n → f k = true
  | 0, _, k, h => by omega
  | n + 1, h, k, hk => by
    simp only [allB, Bool.and_eq_true] at h
    by_cases e : k = n
    · rw [e]; exact h.1
    · exact allB_at h.2 k (by omega)
theorem mn_1 : allB (fun m => mnOk m 1) 85 = true := by kernel_rfl
theorem mn_2 : allB (fun m => mnOk m 2) 85 = true := by kernel_rfl
theorem mn_3 : allB (fun m => mnOk m 3) 85 = true := by kernel_rfl
theorem mn_4 : allB (fun m => mnOk m 4) 85 = true := by kernel_rfl
theorem mn_5 : allB (fun m => mnOk m 5) 85 = true := by kernel_rfl
theorem mn_6 : allB (fun m => mnOk m 6) 85 = true := by kernel_rfl
theorem mn_7 : allB (fun m => mnOk m 7) 85 = true := by kernel_rfl
theorem mn_8 : allB (fun m => mnOk m 8) 85 = true := by kernel_rfl
theorem mn_9 : allB (fun m => mnOk m 9) 85 = true := by kernel_rfl
theorem mn_10 : allB (fun m => mnOk m 10) 85 = true := by kernel_rfl
theorem mn_11 : allB (fun m => mnOk m 11) 85 = true := by kernel_rfl
theorem mn_12 : allB (fun m => mnOk m 12) 85 = true := by kernel_rfl
theorem mn_ok {m n : Nat} (hm : m ≤ 84) (h1 : 1 ≤ n) (h2 : n ≤ 12) : mnOk m n = true := by
  have h : n = 1 ∨ n = 2 ∨ n = 3 ∨ n = 4 ∨ n = 5 ∨ n = 6 ∨ n = 7 ∨ n = 8 ∨ n = 9 ∨ n = 10 ∨ n = 11 ∨ n = 12 := by omega
  rcases h with rfl | rfl | rfl | rfl | rfl | rfl | rfl | rfl | rfl | rfl | rfl | rfl
  · exact allB_at mn_1 m (by omega)
  · exact allB_at mn_2 m (by omega)
  · exact allB_at mn_3 m (by omega)
  · exact allB_at mn_4 m (by omega)
  · exact allB_at mn_5 m (by omega)
  · exact allB_at mn_6 m (by omega)
  · exact allB_at mn_7 m (by omega)
  · exact allB_at mn_8 m (by omega)
  · exact allB_at mn_9 m (by omega)
  · exact allB_at mn_10 m (by omega)
  · exact allB_at mn_11 m (by omega)
  · exact allB_at mn_12 m (by omega)
/-- The sum of the first numbers. -/
def smN (L : List Nat) : Nat → Nat
  | 0 => 0
  | i + 1 => smN L i + cn L i
theorem smN_le (hL : CL L) : ∀ i, smN L i ≤ 7 * i
  | 0 => Nat.le_refl _
  | i + 1 => by
    have h1 := smN_le hL i
    have h2 := hL i
    unfold smN
    omega
theorem sum_step (hL : CL L) {i : Nat} (hi : i ≤ 12) : farith .add .f64 (sW (smN L i)) (wd (fS (cn L i))) = sW (smN L (i + 1)) ∧ okW (fS (cn L i)) := sum_tab ⟨smN L i, by have := smN_le hL i; omega⟩ ⟨cn L i, Nat.lt_succ_of_le (hL i)⟩
theorem sW_zero : sW 0 = 0 := by decide +kernel
theorem Mean_r (hX : XN X) (hC : CUT lo hi h x L) (h1 : 1 ≤ L.length) : Ret Try.prog ro X 15 [x] h (.tuple ⟨[.float .f32 (nr (mnW (smN L L.length) L.length)), .bool true]⟩) := by
  have hL := hC.s
  have hn := hC.n
  refine ret_of (callR_of (hX _ rfl) Try.func15 rfl (by kernel_rfl) (Nat.le_of_ble_eq_true rfl) ?_)
  (repeat' first | simp -dsimp (disch := first | omega | assumption | (refine OkS.sto ?_ (by omega); first | assumption | (refine OkS.sto ?_ (by omega); first | assumption | (refine OkS.sto ?_ (by omega); first | assumption | (refine OkS.sto ?_ (by omega); first | assumption | (refine OkS.sto ?_ (by omega); first | assumption | (refine OkS.sto ?_ (by omega); first | assumption)))))) | exact Pfx.refl _ | (apply Pfx.snoc; repeat (first | exact Pfx.refl _ | assumption | apply Pfx.snoc)) | with_unfolding_all exact of_eq_true (eq_true rfl) | (simp only [List.length_append, List.length_cons, List.length_nil]; omega)) only [↓wpre0, ↓wpre1, ↓reduceIte, Int.reduceToNat, Nat.reduceAdd, Nat.reduceMul, Nat.reduceEqDiff, wpost0, wpost1, wpost2, wpost3, wpost4, ite_self, ite_true, ite_false, if_true, if_false, un_not, xlen31, bin_lss, xiad31, xld34, xcv34_45, bin_fadd, bin_add, xcv3_45, bin_fquo, xcv45_34, fr15, wrap_int, wrap_u8, iteP_yes, iteP_no, hC.len, isCut_r hX hC h1] | refine iteP_two (fun hc hd => ?_) (fun hc hd => ?_) | refine iteP_intro (fun hc => ?_) (fun hc => ?_))
  refine loop_rounds (fun mm e h' => ∃ i : Nat, mm = L.length - i ∧ i ≤ L.length ∧ h' = h ∧ e 0 = x ∧ e 4 = .float .f64 (sW (smN L i)) ∧ e 10 = x ∧ e 11 = .int .i64 L.length ∧ e 12 = .int .i64 i) _ ⟨0, rfl, ?_⟩ ?_
  · simp only [updO_at, updO_not, entry_at, List.getD_cons_zero, List.getD_cons_succ, ↓reduceIte, Nat.reduceEqDiff, true_and, and_true]
    have e0 : sW (smN L 0) = 0 := sW_zero
    rw [e0]
    (repeat' (first | assumption | rfl | omega | refine And.intro ?_ ?_))
  · rintro mm e h' ⟨i, hmm, hle, rfl, g0, g4, g10, g11, g12⟩
    have hks := toNat_succ i
    by_cases hin : i < L.length
    · obtain ⟨st, ok⟩ := sum_step hL (show i ≤ 12 by omega)
      (repeat' first | simp -dsimp (disch := first | omega | assumption | (refine OkS.sto ?_ (by omega); first | assumption | (refine OkS.sto ?_ (by omega); first | assumption | (refine OkS.sto ?_ (by omega); first | assumption | (refine OkS.sto ?_ (by omega); first | assumption | (refine OkS.sto ?_ (by omega); first | assumption | (refine OkS.sto ?_ (by omega); first | assumption)))))) | exact Pfx.refl _ | (apply Pfx.snoc; repeat (first | exact Pfx.refl _ | assumption | apply Pfx.snoc)) | with_unfolding_all exact of_eq_true (eq_true rfl) | (simp only [List.length_append, List.length_cons, List.length_nil]; omega)) only [↓wpre0, ↓wpre1, ↓reduceIte, Int.reduceToNat, Nat.reduceAdd, Nat.reduceMul, Nat.reduceEqDiff, wpost0, wpost1, wpost2, wpost3, wpost4, ite_self, ite_true, ite_false, if_true, if_false, un_not, xlen31, bin_lss, xiad31, xld34, xcv34_45, bin_fadd, bin_add, xcv3_45, bin_fquo, xcv45_34, fr15, wrap_int, wrap_u8, iteP_yes, iteP_no, g0, g4, g10, g11, g12, hC.iad, hC.ld, cv_w ok, st] | refine iteP_two (fun hc hd => ?_) (fun hc hd => ?_) | refine iteP_intro (fun hc => ?_) (fun hc => ?_))
      refine ⟨L.length - (i + 1), by omega, i + 1, ?_⟩
      (repeat' (first | assumption | rfl | omega | (rw [hks]) | refine And.intro ?_ ?_))
    · have ei : i = L.length := by omega
      subst ei
      have hm := mn_ok (m := smN L L.length) (by have := smN_le hL L.length; omega) h1 hn
      unfold mnOk at hm
      simp only [Bool.and_eq_true, decide_eq_true_eq] at hm
      have okm : okN (mnW (smN L L.length) L.length) := hm.1.1
      have em : farith .quo .f64 (sW (smN L L.length)) (cf .f64 (FloatKind.f64.nearest (L.length : Int))) = mnW (smN L L.length) L.length := rfl
      (repeat' first | simp -dsimp (disch := first | omega | assumption | (refine OkS.sto ?_ (by omega); first | assumption | (refine OkS.sto ?_ (by omega); first | assumption | (refine OkS.sto ?_ (by omega); first | assumption | (refine OkS.sto ?_ (by omega); first | assumption | (refine OkS.sto ?_ (by omega); first | assumption | (refine OkS.sto ?_ (by omega); first | assumption)))))) | exact Pfx.refl _ | (apply Pfx.snoc; repeat (first | exact Pfx.refl _ | assumption | apply Pfx.snoc)) | with_unfolding_all exact of_eq_true (eq_true rfl) | (simp only [List.length_append, List.length_cons, List.length_nil]; omega)) only [↓wpre0, ↓wpre1, ↓reduceIte, Int.reduceToNat, Nat.reduceAdd, Nat.reduceMul, Nat.reduceEqDiff, wpost0, wpost1, wpost2, wpost3, wpost4, ite_self, ite_true, ite_false, if_true, if_false, un_not, xlen31, bin_lss, xiad31, xld34, xcv34_45, bin_fadd, bin_add, xcv3_45, bin_fquo, xcv45_34, fr15, wrap_int, wrap_u8, iteP_yes, iteP_no, g0, g4, g10, g11, g12, hC.len, conv_if Try.underlying3 Try.underlying45, em, cv_n okm] | refine iteP_two (fun hc hd => ?_) (fun hc hd => ?_) | refine iteP_intro (fun hc => ?_) (fun hc => ?_))
end Go.Proofs.Ytjonhaebeeoimaa.Sim

/- Logarithms, tenths of decibels and levels of a cut of small numbers. Lemmas only; no condition. -/
set_option linter.unusedSimpArgs false
set_option linter.unusedVariables false
set_option maxRecDepth 8000
namespace Go.Proofs.Ytjonhaebeeoimaa.Sim
open Go Go.RowKit Fl
variable {ro lo hi n : Nat} {X : Ext} {h : Heap} {x y : Value} {L : List Nat}
/-- How often a number is halved. -/
def hvN (v : Nat) : Nat := if v ≤ 1 then 0 else if v = 2 then 1 else if v ≤ 5 then 2 else 3
def hxF (v : Nat) : Nat → Nat
  | 0 => wd (fS v)
  | j + 1 => farith .quo .f64 (hxF v j) 4611686018427387904
def heF : Nat → Nat
  | 0 => 0
  | j + 1 => farith .add .f64 (heF j) 4607182418800017408
def kkF : Nat → Nat
  | 0 => 4627730092099895296
  | j + 1 => farith .sub .f64 (kkF j) 4611686018427387904
def qqF (u : Nat) : Nat → Nat
  | 0 => 0
  | j + 1 => farith .add .f64 (farith .quo .f64 4607182418800017408 (kkF j)) (farith .mul .f64 u (qqF u j))
def lsF (v : Nat) : Nat := farith .quo .f64 (farith .sub .f64 (hxF v (hvN v)) 4607182418800017408) (farith .add .f64 (hxF v (hvN v)) 4607182418800017408)
def lnF (v : Nat) : Nat := farith .add .f64 (farith .mul .f64 4611686018427387904 (farith .mul .f64 (lsF v) (qqF (farith .mul .f64 (lsF v) (lsF v)) 13))) (farith .mul .f64 (heF (hvN v)) 4604418534313441775)
def tfF (v : Nat) : Nat := farith .add .f64 (farith .mul .f64 (lnF v) 4631308968768463603) 4602678819172646912
def flF (v : Nat) : Nat := cf .f64 (FloatKind.f64.encode ((FloatKind.f64.decode (tfF v)).integral .down))
def tnN (v : Nat) : Int := (floatToIntVal .f64 (flF v) .i64).getD 0
theorem hv_tab : ∀ v : Fin 8, v.val = 0 ∨ ((∀ j : Fin 3, j.val < hvN v → fcmp .leq .f64 4609434218613702656 (hxF v j) = true) ∧ fcmp .leq .f64 4609434218613702656 (hxF v (hvN v)) = false ∧ fcmp .lss .f64 (hxF v (hvN v)) 4604930618986332160 = false) := by decide +kernel
theorem kk_tab : (∀ j : Fin 13, fcmp .leq .f64 4607182418800017408 (kkF j) = true) ∧ fcmp .leq .f64 4607182418800017408 (kkF 13) = false := by decide +kernel
theorem tn_tab : ∀ v : Fin 8, v.val = 0 ∨ (floatToIntVal .f64 (flF v) .i64 = some (tnN v) ∧ (FloatKind.f64.decode (tfF v)).isNaN = false ∧ 0 ≤ tnN v ∧ tnN v ≤ 100) := by decide +kernel
theorem tn_mono : ∀ a b : Fin 8, 1 ≤ a.val → a.val ≤ b.val → tnN a ≤ tnN b := by decide +kernel
theorem fs_tab : ∀ v : Fin 8, fcmp .eql .f32 (farith .sub .f32 (fS v) (fS v)) 0 = true ∧ fcmp .leq .f32 (fS v) 0 = decide (v.val = 0) ∧ okW (fS v) ∧ fcmp .lss .f32 0 (fS v) = decide (0 < v.val) ∧ fcmp .eql .f32 (fS v) 0 = decide (v.val = 0) := by
  unfold okW
  decide +kernel
set_option maxHeartbeats 4000000 in
theorem natLog_r (hX : XN X) {v : Nat} (h1 : 1 ≤ v) (h7 : v ≤ 7) (h : Heap) : Ret Try.prog ro X 47 [.float .f64 (wd (fS v))] h (.float .f64 (lnF v)) := by
  obtain ⟨t1, t2, t3⟩ : (∀ j : Fin 3, j.val < hvN v → fcmp .leq .f64 4609434218613702656 (hxF v j) = true) ∧ fcmp .leq .f64 4609434218613702656 (hxF v (hvN v)) = false ∧ fcmp .lss .f64 (hxF v (hvN v)) 4604930618986332160 = false := by
    rcases hv_tab ⟨v, by omega⟩ with q | q
    · exact absurd q (by show ¬ v = 0; omega)
    · exact q
  have hv3 : hvN v ≤ 3 := by unfold hvN; split <;> (try split) <;> (try split) <;> omega
  obtain ⟨s, hs⟩ : ∃ s, s = lsF v := ⟨_, rfl⟩
  obtain ⟨u, hu⟩ : ∃ u, u = farith .mul .f64 s s := ⟨_, rfl⟩
  have eL : lnF v = farith .add .f64 (farith .mul .f64 4611686018427387904 (farith .mul .f64 s (qqF u 13))) (farith .mul .f64 (heF (hvN v)) 4604418534313441775) := by rw [hu, hs]; rfl
  have eS : farith .quo .f64 (farith .sub .f64 (hxF v (hvN v)) 4607182418800017408) (farith .add .f64 (hxF v (hvN v)) 4607182418800017408) = s := hs.symm
  rw [eL]
  refine ret_of (callR_of (hX _ rfl) Try.func47 rfl (by kernel_rfl) (Nat.le_of_ble_eq_true rfl) ?_)
  (repeat' first | simp -dsimp (disch := first | omega | assumption | (refine OkS.sto ?_ (by omega); first | assumption | (refine OkS.sto ?_ (by omega); first | assumption | (refine OkS.sto ?_ (by omega); first | assumption | (refine OkS.sto ?_ (by omega); first | assumption | (refine OkS.sto ?_ (by omega); first | assumption | (refine OkS.sto ?_ (by omega); first | assumption)))))) | exact Pfx.refl _ | (apply Pfx.snoc; repeat (first | exact Pfx.refl _ | assumption | apply Pfx.snoc)) | with_unfolding_all exact of_eq_true (eq_true rfl) | (simp only [List.length_append, List.length_cons, List.length_nil]; omega)) only [↓wpre0, ↓wpre1, ↓reduceIte, Int.reduceToNat, Nat.reduceAdd, Nat.reduceMul, Nat.reduceEqDiff, wpost0, wpost1, wpost2, wpost3, wpost4, ite_self, ite_true, ite_false, if_true, if_false, bin_fgeq, bin_fquo, bin_fadd, bin_flss, bin_fmul, bin_fsub, fr47, wrap_int, wrap_u8, iteP_yes, iteP_no] | refine iteP_two (fun hc hd => ?_) (fun hc hd => ?_) | refine iteP_intro (fun hc => ?_) (fun hc => ?_))
  refine loop_exit 0 (fun e h' => h' = h ∧ e 0 = .float .f64 (hxF v (hvN v)) ∧ e 3 = .float .f64 (heF (hvN v))) ?_ ?_
  · refine loop_rounds (fun mm e h' => ∃ j : Nat, mm = hvN v - j ∧ j ≤ hvN v ∧ h' = h ∧ e 0 = .float .f64 (hxF v j) ∧ e 3 = .float .f64 (heF j)) _ ⟨0, rfl, ?_⟩ ?_
    · simp only [updO_at, updO_not, entry_at, List.getD_cons_zero, List.getD_cons_succ, ↓reduceIte, Nat.reduceEqDiff, true_and, and_true]
      exact ⟨Nat.zero_le _, rfl, rfl⟩
    · rintro mm e h' ⟨j, hmm, hj, rfl, g0, g3⟩
      by_cases hjv : j < hvN v
      · have c := t1 ⟨j, by omega⟩ hjv
        (repeat' first | simp -dsimp (disch := first | omega | assumption | (refine OkS.sto ?_ (by omega); first | assumption | (refine OkS.sto ?_ (by omega); first | assumption | (refine OkS.sto ?_ (by omega); first | assumption | (refine OkS.sto ?_ (by omega); first | assumption | (refine OkS.sto ?_ (by omega); first | assumption | (refine OkS.sto ?_ (by omega); first | assumption)))))) | exact Pfx.refl _ | (apply Pfx.snoc; repeat (first | exact Pfx.refl _ | assumption | apply Pfx.snoc)) | with_unfolding_all exact of_eq_true (eq_true rfl) | (simp only [List.length_append, List.length_cons, List.length_nil]; omega)) only [↓wpre0, ↓wpre1, ↓reduceIte, Int.reduceToNat, Nat.reduceAdd, Nat.reduceMul, Nat.reduceEqDiff, wpost0, wpost1, wpost2, wpost3, wpost4, ite_self, ite_true, ite_false, if_true, if_false, bin_fgeq, bin_fquo, bin_fadd, bin_flss, bin_fmul, bin_fsub, fr47, wrap_int, wrap_u8, iteP_yes, iteP_no, g0, g3, c] | refine iteP_two (fun hc hd => ?_) (fun hc hd => ?_) | refine iteP_intro (fun hc => ?_) (fun hc => ?_))
        exact ⟨hvN v - (j + 1), by omega, j + 1, rfl, by omega, rfl, rfl⟩
      · have ej : j = hvN v := by omega
        rw [ej] at g0 g3
        (repeat' first | simp -dsimp (disch := first | omega | assumption | (refine OkS.sto ?_ (by omega); first | assumption | (refine OkS.sto ?_ (by omega); first | assumption | (refine OkS.sto ?_ (by omega); first | assumption | (refine OkS.sto ?_ (by omega); first | assumption | (refine OkS.sto ?_ (by omega); first | assumption | (refine OkS.sto ?_ (by omega); first | assumption)))))) | exact Pfx.refl _ | (apply Pfx.snoc; repeat (first | exact Pfx.refl _ | assumption | apply Pfx.snoc)) | with_unfolding_all exact of_eq_true (eq_true rfl) | (simp only [List.length_append, List.length_cons, List.length_nil]; omega)) only [↓wpre0, ↓wpre1, ↓reduceIte, Int.reduceToNat, Nat.reduceAdd, Nat.reduceMul, Nat.reduceEqDiff, wpost0, wpost1, wpost2, wpost3, wpost4, ite_self, ite_true, ite_false, if_true, if_false, bin_fgeq, bin_fquo, bin_fadd, bin_flss, bin_fmul, bin_fsub, fr47, wrap_int, wrap_u8, iteP_yes, iteP_no, g0, g3, t2] | refine iteP_two (fun hc hd => ?_) (fun hc hd => ?_) | refine iteP_intro (fun hc => ?_) (fun hc => ?_))
  · rintro e h' ⟨rfl, g0, g3⟩
    (repeat' first | simp -dsimp (disch := first | omega | assumption | (refine OkS.sto ?_ (by omega); first | assumption | (refine OkS.sto ?_ (by omega); first | assumption | (refine OkS.sto ?_ (by omega); first | assumption | (refine OkS.sto ?_ (by omega); first | assumption | (refine OkS.sto ?_ (by omega); first | assumption | (refine OkS.sto ?_ (by omega); first | assumption)))))) | exact Pfx.refl _ | (apply Pfx.snoc; repeat (first | exact Pfx.refl _ | assumption | apply Pfx.snoc)) | with_unfolding_all exact of_eq_true (eq_true rfl) | (simp only [List.length_append, List.length_cons, List.length_nil]; omega)) only [↓wpre0, ↓wpre1, ↓reduceIte, Int.reduceToNat, Nat.reduceAdd, Nat.reduceMul, Nat.reduceEqDiff, wpost0, wpost1, wpost2, wpost3, wpost4, ite_self, ite_true, ite_false, if_true, if_false, bin_fgeq, bin_fquo, bin_fadd, bin_flss, bin_fmul, bin_fsub, fr47, wrap_int, wrap_u8, iteP_yes, iteP_no, g0, g3] | refine iteP_two (fun hc hd => ?_) (fun hc hd => ?_) | refine iteP_intro (fun hc => ?_) (fun hc => ?_))
    refine loop_exit 2 (fun e h2 => h2 = h' ∧ e 0 = .float .f64 (hxF v (hvN v)) ∧ e 3 = .float .f64 (heF (hvN v))) ?_ ?_
    · refine loop_rounds (fun mm e h2 => h2 = h' ∧ e 0 = .float .f64 (hxF v (hvN v)) ∧ e 3 = .float .f64 (heF (hvN v))) 0 ⟨rfl, g0, g3⟩ ?_
      rintro mm e h2 ⟨rfl, g0, g3⟩
      (repeat' first | simp -dsimp (disch := first | omega | assumption | (refine OkS.sto ?_ (by omega); first | assumption | (refine OkS.sto ?_ (by omega); first | assumption | (refine OkS.sto ?_ (by omega); first | assumption | (refine OkS.sto ?_ (by omega); first | assumption | (refine OkS.sto ?_ (by omega); first | assumption | (refine OkS.sto ?_ (by omega); first | assumption)))))) | exact Pfx.refl _ | (apply Pfx.snoc; repeat (first | exact Pfx.refl _ | assumption | apply Pfx.snoc)) | with_unfolding_all exact of_eq_true (eq_true rfl) | (simp only [List.length_append, List.length_cons, List.length_nil]; omega)) only [↓wpre0, ↓wpre1, ↓reduceIte, Int.reduceToNat, Nat.reduceAdd, Nat.reduceMul, Nat.reduceEqDiff, wpost0, wpost1, wpost2, wpost3, wpost4, ite_self, ite_true, ite_false, if_true, if_false, bin_fgeq, bin_fquo, bin_fadd, bin_flss, bin_fmul, bin_fsub, fr47, wrap_int, wrap_u8, iteP_yes, iteP_no, g0, g3, t3] | refine iteP_two (fun hc hd => ?_) (fun hc hd => ?_) | refine iteP_intro (fun hc => ?_) (fun hc => ?_))
    · rintro e h2 ⟨rfl, g0, g3⟩
      (repeat' first | simp -dsimp (disch := first | omega | assumption | (refine OkS.sto ?_ (by omega); first | assumption | (refine OkS.sto ?_ (by omega); first | assumption | (refine OkS.sto ?_ (by omega); first | assumption | (refine OkS.sto ?_ (by omega); first | assumption | (refine OkS.sto ?_ (by omega); first | assumption | (refine OkS.sto ?_ (by omega); first | assumption)))))) | exact Pfx.refl _ | (apply Pfx.snoc; repeat (first | exact Pfx.refl _ | assumption | apply Pfx.snoc)) | with_unfolding_all exact of_eq_true (eq_true rfl) | (simp only [List.length_append, List.length_cons, List.length_nil]; omega)) only [↓wpre0, ↓wpre1, ↓reduceIte, Int.reduceToNat, Nat.reduceAdd, Nat.reduceMul, Nat.reduceEqDiff, wpost0, wpost1, wpost2, wpost3, wpost4, ite_self, ite_true, ite_false, if_true, if_false, bin_fgeq, bin_fquo, bin_fadd, bin_flss, bin_fmul, bin_fsub, fr47, wrap_int, wrap_u8, iteP_yes, iteP_no, g0, g3, eS, hu.symm] | refine iteP_two (fun hc hd => ?_) (fun hc hd => ?_) | refine iteP_intro (fun hc => ?_) (fun hc => ?_))
      refine loop_rounds (fun mm e h' => ∃ j : Nat, mm = 13 - j ∧ j ≤ 13 ∧ h' = h2 ∧ e 3 = .float .f64 (heF (hvN v)) ∧ e 4 = .float .f64 s ∧ e 5 = .float .f64 u ∧ e 6 = .float .f64 (qqF u j) ∧ e 7 = .float .f64 (kkF j)) _ ⟨0, rfl, ?_⟩ ?_
      · simp only [updO_at, updO_not, entry_at, List.getD_cons_zero, List.getD_cons_succ, ↓reduceIte, Nat.reduceEqDiff, true_and, and_true]
        exact ⟨by omega, g3, rfl, rfl⟩
      · rintro mm e h' ⟨j, hmm, hj, rfl, g3, g4, g5, g6, g7⟩
        by_cases hj13 : j < 13
        · have c := kk_tab.1 ⟨j, hj13⟩
          (repeat' first | simp -dsimp (disch := first | omega | assumption | (refine OkS.sto ?_ (by omega); first | assumption | (refine OkS.sto ?_ (by omega); first | assumption | (refine OkS.sto ?_ (by omega); first | assumption | (refine OkS.sto ?_ (by omega); first | assumption | (refine OkS.sto ?_ (by omega); first | assumption | (refine OkS.sto ?_ (by omega); first | assumption)))))) | exact Pfx.refl _ | (apply Pfx.snoc; repeat (first | exact Pfx.refl _ | assumption | apply Pfx.snoc)) | with_unfolding_all exact of_eq_true (eq_true rfl) | (simp only [List.length_append, List.length_cons, List.length_nil]; omega)) only [↓wpre0, ↓wpre1, ↓reduceIte, Int.reduceToNat, Nat.reduceAdd, Nat.reduceMul, Nat.reduceEqDiff, wpost0, wpost1, wpost2, wpost3, wpost4, ite_self, ite_true, ite_false, if_true, if_false, bin_fgeq, bin_fquo, bin_fadd, bin_flss, bin_fmul, bin_fsub, fr47, wrap_int, wrap_u8, iteP_yes, iteP_no, g3, g4, g5, g6, g7, c] | refine iteP_two (fun hc hd => ?_) (fun hc hd => ?_) | refine iteP_intro (fun hc => ?_) (fun hc => ?_))
          exact ⟨13 - (j + 1), by omega, j + 1, rfl, by omega, rfl, rfl⟩
        · have ej : j = 13 := by omega
          subst ej
          have c := kk_tab.2
          (repeat' first | simp -dsimp (disch := first | omega | assumption | (refine OkS.sto ?_ (by omega); first | assumption | (refine OkS.sto ?_ (by omega); first | assumption | (refine OkS.sto ?_ (by omega); first | assumption | (refine OkS.sto ?_ (by omega); first | assumption | (refine OkS.sto ?_ (by omega); first | assumption | (refine OkS.sto ?_ (by omega); first | assumption)))))) | exact Pfx.refl _ | (apply Pfx.snoc; repeat (first | exact Pfx.refl _ | assumption | apply Pfx.snoc)) | with_unfolding_all exact of_eq_true (eq_true rfl) | (simp only [List.length_append, List.length_cons, List.length_nil]; omega)) only [↓wpre0, ↓wpre1, ↓reduceIte, Int.reduceToNat, Nat.reduceAdd, Nat.reduceMul, Nat.reduceEqDiff, wpost0, wpost1, wpost2, wpost3, wpost4, ite_self, ite_true, ite_false, if_true, if_false, bin_fgeq, bin_fquo, bin_fadd, bin_flss, bin_fmul, bin_fsub, fr47, wrap_int, wrap_u8, iteP_yes, iteP_no, g3, g4, g5, g6, g7, c] | refine iteP_two (fun hc hd => ?_) (fun hc hd => ?_) | refine iteP_intro (fun hc => ?_) (fun hc => ?_))
theorem isFin32_r (hX : XN X) {v : Nat} (h7 : v ≤ 7) (h : Heap) : Ret Try.prog ro X 45 [.float .f32 (fS v)] h (.bool true) := by
  have e := (fs_tab ⟨v, by omega⟩).1
  refine ret_of (callR_of (hX _ rfl) Try.func45 rfl (by kernel_rfl) (Nat.le_of_ble_eq_true rfl) ?_)
  (repeat' first | simp -dsimp (disch := first | omega | assumption | (refine OkS.sto ?_ (by omega); first | assumption | (refine OkS.sto ?_ (by omega); first | assumption | (refine OkS.sto ?_ (by omega); first | assumption | (refine OkS.sto ?_ (by omega); first | assumption | (refine OkS.sto ?_ (by omega); first | assumption | (refine OkS.sto ?_ (by omega); first | assumption)))))) | exact Pfx.refl _ | (apply Pfx.snoc; repeat (first | exact Pfx.refl _ | assumption | apply Pfx.snoc)) | with_unfolding_all exact of_eq_true (eq_true rfl) | (simp only [List.length_append, List.length_cons, List.length_nil]; omega)) only [↓wpre0, ↓wpre1, ↓reduceIte, Int.reduceToNat, Nat.reduceAdd, Nat.reduceMul, Nat.reduceEqDiff, wpost0, wpost1, wpost2, wpost3, wpost4, ite_self, ite_true, ite_false, if_true, if_false, bin_fsub, bin_feql, fr45, wrap_int, wrap_u8, iteP_yes, iteP_no, e] | refine iteP_two (fun hc hd => ?_) (fun hc hd => ?_) | refine iteP_intro (fun hc => ?_) (fun hc => ?_))
theorem Tenths_r (hX : XN X) (hF : X 56 = some (ext1 (gInt .down))) {v : Nat} (h7 : v ≤ 7) (h : Heap) : Ret Try.prog ro X 34 [.float .f32 (fS v)] h (.tuple ⟨[.int .i64 (if v = 0 then 0 else tnN v), .bool (decide (v ≠ 0))]⟩) := by
  obtain ⟨f1, f2, f3, f4, f5⟩ := fs_tab ⟨v, by omega⟩
  by_cases h0 : v = 0
  · have e : (if v = 0 then (0 : Int) else tnN v) = 0 := if_pos h0
    have e2 : decide (v ≠ 0) = false := decide_eq_false (fun q => q h0)
    rw [e, e2]
    have f2' : fcmp .leq .f32 (fS v) 0 = true := by rw [f2]; exact decide_eq_true h0
    refine ret_of (callR_of (hX _ rfl) Try.func34 rfl (by kernel_rfl) (Nat.le_of_ble_eq_true rfl) ?_)
    (repeat' first | simp -dsimp (disch := first | omega | assumption | (refine OkS.sto ?_ (by omega); first | assumption | (refine OkS.sto ?_ (by omega); first | assumption | (refine OkS.sto ?_ (by omega); first | assumption | (refine OkS.sto ?_ (by omega); first | assumption | (refine OkS.sto ?_ (by omega); first | assumption | (refine OkS.sto ?_ (by omega); first | assumption)))))) | exact Pfx.refl _ | (apply Pfx.snoc; repeat (first | exact Pfx.refl _ | assumption | apply Pfx.snoc)) | with_unfolding_all exact of_eq_true (eq_true rfl) | (simp only [List.length_append, List.length_cons, List.length_nil]; omega)) only [↓wpre0, ↓wpre1, ↓reduceIte, Int.reduceToNat, Nat.reduceAdd, Nat.reduceMul, Nat.reduceEqDiff, wpost0, wpost1, wpost2, wpost3, wpost4, ite_self, ite_true, ite_false, if_true, if_false, un_not, bin_fleq, xcv34_45, bin_fmul, bin_fadd, xcv45_2, fr34, wrap_int, wrap_u8, iteP_yes, iteP_no, isFin32_r hX h7, f2'] | refine iteP_two (fun hc hd => ?_) (fun hc hd => ?_) | refine iteP_intro (fun hc => ?_) (fun hc => ?_))
  · have e : (if v = 0 then (0 : Int) else tnN v) = tnN v := if_neg h0
    have e2 : decide (v ≠ 0) = true := decide_eq_true h0
    rw [e, e2]
    have f2' : fcmp .leq .f32 (fS v) 0 = false := by rw [f2]; exact decide_eq_false h0
    obtain ⟨t1, t2, t3, t4⟩ : floatToIntVal .f64 (flF v) .i64 = some (tnN v) ∧ (FloatKind.f64.decode (tfF v)).isNaN = false ∧ 0 ≤ tnN v ∧ tnN v ≤ 100 := by
      rcases tn_tab ⟨v, by omega⟩ with q | q
      · exact absurd q (by show ¬ v = 0; exact h0)
      · exact q
    have eT : farith .add .f64 (farith .mul .f64 (lnF v) 4631308968768463603) 4602678819172646912 = tfF v := rfl
    have hfl : Ret Try.prog ro X 56 [.float .f64 (tfF v)] h (.float .f64 (flF v)) := fun _ _ => cf_eq (call_ext hF (by simp only [ext1, gInt, t2, Bool.false_eq_true, if_false, Option.map_some]; rfl))
    have hFl : Ret Try.prog ro X 46 [.float .f64 (tfF v)] h (.float .f64 (flF v)) := by
      refine ret_of (callR_of (hX _ rfl) Try.func46 rfl (by kernel_rfl) (Nat.le_of_ble_eq_true rfl) ?_)
      (repeat' first | simp -dsimp (disch := first | omega | assumption | (refine OkS.sto ?_ (by omega); first | assumption | (refine OkS.sto ?_ (by omega); first | assumption | (refine OkS.sto ?_ (by omega); first | assumption | (refine OkS.sto ?_ (by omega); first | assumption | (refine OkS.sto ?_ (by omega); first | assumption | (refine OkS.sto ?_ (by omega); first | assumption)))))) | exact Pfx.refl _ | (apply Pfx.snoc; repeat (first | exact Pfx.refl _ | assumption | apply Pfx.snoc)) | with_unfolding_all exact of_eq_true (eq_true rfl) | (simp only [List.length_append, List.length_cons, List.length_nil]; omega)) only [↓wpre0, ↓wpre1, ↓reduceIte, Int.reduceToNat, Nat.reduceAdd, Nat.reduceMul, Nat.reduceEqDiff, wpost0, wpost1, wpost2, wpost3, wpost4, ite_self, ite_true, ite_false, if_true, if_false, fr46, wrap_int, wrap_u8, iteP_yes, iteP_no, hfl] | refine iteP_two (fun hc hd => ?_) (fun hc hd => ?_) | refine iteP_intro (fun hc => ?_) (fun hc => ?_))
    refine ret_of (callR_of (hX _ rfl) Try.func34 rfl (by kernel_rfl) (Nat.le_of_ble_eq_true rfl) ?_)
    (repeat' first | simp -dsimp (disch := first | omega | assumption | (refine OkS.sto ?_ (by omega); first | assumption | (refine OkS.sto ?_ (by omega); first | assumption | (refine OkS.sto ?_ (by omega); first | assumption | (refine OkS.sto ?_ (by omega); first | assumption | (refine OkS.sto ?_ (by omega); first | assumption | (refine OkS.sto ?_ (by omega); first | assumption)))))) | exact Pfx.refl _ | (apply Pfx.snoc; repeat (first | exact Pfx.refl _ | assumption | apply Pfx.snoc)) | with_unfolding_all exact of_eq_true (eq_true rfl) | (simp only [List.length_append, List.length_cons, List.length_nil]; omega)) only [↓wpre0, ↓wpre1, ↓reduceIte, Int.reduceToNat, Nat.reduceAdd, Nat.reduceMul, Nat.reduceEqDiff, wpost0, wpost1, wpost2, wpost3, wpost4, ite_self, ite_true, ite_false, if_true, if_false, un_not, bin_fleq, xcv34_45, bin_fmul, bin_fadd, xcv45_2, fr34, wrap_int, wrap_u8, iteP_yes, iteP_no, isFin32_r hX h7, f2', cv_w f3, natLog_r hX (show 1 ≤ v by omega) h7, eT, hFl, conv_fi Try.underlying45 Try.underlying2, t1, Option.map_some] | refine iteP_two (fun hc hd => ?_) (fun hc hd => ?_) | refine iteP_intro (fun hc => ?_) (fun hc => ?_))
end Go.Proofs.Ytjonhaebeeoimaa.Sim

/- Whether runs are as told; levels of a cut. Lemmas only; no condition. -/
set_option linter.unusedSimpArgs false
set_option linter.unusedVariables false
set_option maxRecDepth 8000
namespace Go.Proofs.Ytjonhaebeeoimaa.Sim
open Go Go.RowKit Fl
variable {ro lo hi lo' hi' n : Nat} {X : Ext} {h : Heap} {x y : Value} {L : List Nat}
theorem R_cut {P : Program} {c : Code} {N : Env → Heap → Prop} {Q : Ex → Env → Heap → Prop} {e : Env} {h : Heap} (M : Env → Heap → Prop) (h1 : W P ro X c (fun x e h => x = .normal ∧ M e h) e h) (k : ∀ e h, M e h → N e h) : W P ro X c (thenQ N Q) e h := W_mono h1 (by rintro x e h ⟨rfl, hm⟩; exact k _ _ hm)
/-- Farther down, or up. -/
def farB (tf : Bool) : Nat → Nat → Bool := if tf then ltN else gtN
theorem rnG_len {c : Nat → Nat} {far : Nat → Nat → Bool} {n : Nat} : ∀ (f i : Nat), (rnF c far n f i).length ≤ f
  | 0, i => by simp [rnF]
  | f + 1, i => by
    unfold rnF
    split
    · split
      · have := rnG_len (c := c) (far := far) (n := n) f (enR c i (n - (i + 1)) (i + 1))
        simp only [List.length_cons]
        omega
      · have := rnG_len (c := c) (far := far) (n := n) f (enR c i (n - (i + 1)) (i + 1))
        omega
    · simp
/-- A run's first place is told, if it is far from its neighbours. -/
theorem rn_mem {c : Nat → Nat} {far : Nat → Nat → Bool} {n : Nat} : ∀ (m j i : Nat), n - j ≤ m → j ≤ i → i < n → (j = i ∨ c (i - 1) ≠ c i) → isR c far n i (enR c i (n - (i + 1)) (i + 1)) = true → i ∈ rnF c far n (n - j) j
  | 0, j, i, h1, h2, h3, _, _ => by omega
  | m + 1, j, i, h1, h2, h3, h4, h5 => by
    have hj : j < n := by omega
    rw [rnF_step hj]
    have hE := le_enR c j (n - (j + 1)) (j + 1)
    by_cases e : j = i
    · subst e
      rw [if_pos h5]
      simp
    · refine List.mem_append.2 (.inr ?_)
      have h4' : c (i - 1) ≠ c i := by
        rcases h4 with q | q
        · exact absurd q e
        · exact q
      have hEi : enR c j (n - (j + 1)) (j + 1) ≤ i := by
        rcases Nat.lt_or_ge i (enR c j (n - (j + 1)) (j + 1)) with q | q
        · exfalso
          have a1 := enR_all (c := c) (i := j) (f := n - (j + 1)) (k := j + 1) (j := i) (by omega) q
          refine h4' ?_
          by_cases q2 : i - 1 = j
          · rw [q2, a1]
          · have a2 := enR_all (c := c) (i := j) (f := n - (j + 1)) (k := j + 1) (j := i - 1) (by omega) (by omega)
            rw [a1, a2]
        · exact q
      exact rn_mem m _ i (by omega) hEi h3 (.inr h4') h5
/-- The greatest number is one of the lobes. -/
theorem peak_mem {L : List Nat} (h1 : 1 ≤ L.length) : pkN (cn L) L.length ∈ runL ltN L := by
  have hlt := pkN_lt (cn L) L.length (by omega)
  refine rn_mem L.length 0 _ (by omega) (Nat.zero_le _) hlt ?_ ?_
  · by_cases q : pkN (cn L) L.length = 0
    · exact .inl q.symm
    · right
      have := pkN_first (cn L) L.length (pkN (cn L) L.length - 1) (by omega)
      omega
  · unfold isR
    rw [Bool.and_eq_true]
    refine ⟨?_, ?_⟩
    · by_cases q : pkN (cn L) L.length = 0
      · rw [decide_eq_true q]; rfl
      · have := pkN_first (cn L) L.length (pkN (cn L) L.length - 1) (by omega)
        rw [show ltN _ _ = true from decide_eq_true this, Bool.or_true]
    · have hE2 := enR_le (cn L) (pkN (cn L) L.length) (L.length - (pkN (cn L) L.length + 1)) (pkN (cn L) L.length + 1)
      by_cases q : enR (cn L) (pkN (cn L) L.length) (L.length - (pkN (cn L) L.length + 1)) (pkN (cn L) L.length + 1) = L.length
      · rw [decide_eq_true q]; rfl
      · have hs := enR_stop (c := cn L) (i := pkN (cn L) L.length) (f := L.length - (pkN (cn L) L.length + 1)) (k := pkN (cn L) L.length + 1) (by omega)
        have hm := pkN_max (cn L) L.length (enR (cn L) (pkN (cn L) L.length) (L.length - (pkN (cn L) L.length + 1)) (pkN (cn L) L.length + 1)) (by omega)
        rw [show ltN _ _ = true from decide_eq_true (Nat.lt_of_le_of_ne hm hs), Bool.or_true]
theorem nth_run {A B : List Nat} {i : Nat} : nth ((A ++ i :: B).map natI) A.length = (i : Int) := by simp [nth, natI]
set_option maxHeartbeats 8000000 in
theorem Runs_r (hX : XN X) (hC : CUT lo hi h x L) (tf : Bool) (hY : IS lo' hi' 1 h y (runL (farB tf) L).length ((runL (farB tf) L).map natI)) : Ret Try.prog ro X 17 [x, y, .bool tf] h (.bool true) := by
  have hL := hC.s
  have hn := hC.n
  have hrl : (runL (farB tf) L).length ≤ L.length := by
    have := rnG_len (c := cn L) (far := farB tf) (n := L.length) (L.length - 0) 0
    exact this
  refine ret_of (callR_of (hX _ rfl) Try.func17 rfl (by kernel_rfl) (Nat.le_of_ble_eq_true rfl) ?_)
  (repeat' first | simp -dsimp (disch := first | omega | assumption | (refine OkS.sto ?_ (by omega); first | assumption | (refine OkS.sto ?_ (by omega); first | assumption | (refine OkS.sto ?_ (by omega); first | assumption | (refine OkS.sto ?_ (by omega); first | assumption | (refine OkS.sto ?_ (by omega); first | assumption | (refine OkS.sto ?_ (by omega); first | assumption)))))) | exact Pfx.refl _ | (apply Pfx.snoc; repeat (first | exact Pfx.refl _ | assumption | apply Pfx.snoc)) | with_unfolding_all exact of_eq_true (eq_true rfl) | (simp only [List.length_append, List.length_cons, List.length_nil]; omega)) only [↓wpre0, ↓wpre1, ↓reduceIte, Int.reduceToNat, Nat.reduceAdd, Nat.reduceMul, Nat.reduceEqDiff, wpost0, wpost1, wpost2, wpost3, wpost4, ite_self, ite_true, ite_false, if_true, if_false, xlen31, bin_lss, bin_add, xiad31, xld34, bin_feql, bin_eql, bin_sub, bin_flss, un_not, bin_fgtr, xlen41, bin_geq, xiad41, xld2, bin_neq, fr17, wrap_int, wrap_u8, iteP_yes, iteP_no] | refine iteP_two (fun hc hd => ?_) (fun hc hd => ?_) | refine iteP_intro (fun hc => ?_) (fun hc => ?_))
  refine loop_rounds (fun mm e h' => ∃ (i : Nat) (A : List Nat), mm = L.length - i ∧ i ≤ L.length ∧ h' = h ∧ e 0 = x ∧ e 1 = y ∧ e 2 = .bool tf ∧ e 7 = .int .i64 A.length ∧ e 8 = .int .i64 i ∧ runL (farB tf) L = A ++ rnF (cn L) (farB tf) L.length (L.length - i) i) _ ⟨0, [], rfl, ?_⟩ ?_
  · simp only [updO_at, updO_not, entry_at, List.getD_cons_zero, List.getD_cons_succ, ↓reduceIte, Nat.reduceEqDiff, true_and, and_true]
    exact ⟨Nat.zero_le _, rfl, rfl, rfl⟩
  · rintro mm e h' ⟨i, A, hmm, hle, rfl, g0, g1, g2, g7, g8, hA⟩
    have hks := toNat_succ i
    have hAl : A.length ≤ (runL (farB tf) L).length := by rw [hA, List.length_append]; omega
    by_cases hin : i < L.length
    · (repeat' first | simp -dsimp (disch := first | omega | assumption | (refine OkS.sto ?_ (by omega); first | assumption | (refine OkS.sto ?_ (by omega); first | assumption | (refine OkS.sto ?_ (by omega); first | assumption | (refine OkS.sto ?_ (by omega); first | assumption | (refine OkS.sto ?_ (by omega); first | assumption | (refine OkS.sto ?_ (by omega); first | assumption)))))) | exact Pfx.refl _ | (apply Pfx.snoc; repeat (first | exact Pfx.refl _ | assumption | apply Pfx.snoc)) | with_unfolding_all exact of_eq_true (eq_true rfl) | (simp only [List.length_append, List.length_cons, List.length_nil]; omega)) only [↓wpre0, ↓wpre1, ↓reduceIte, Int.reduceToNat, Nat.reduceAdd, Nat.reduceMul, Nat.reduceEqDiff, wpost0, wpost1, wpost2, wpost3, wpost4, ite_self, ite_true, ite_false, if_true, if_false, xlen31, bin_lss, bin_add, xiad31, xld34, bin_feql, bin_eql, bin_sub, bin_flss, un_not, bin_fgtr, xlen41, bin_geq, xiad41, xld2, bin_neq, fr17, wrap_int, wrap_u8, iteP_yes, iteP_no, g0, g1, g2, g7, g8, hC.len] | refine iteP_two (fun hc hd => ?_) (fun hc hd => ?_) | refine iteP_intro (fun hc => ?_) (fun hc => ?_))
      refine loop_exit 2 (fun e h2 => ∃ k, i ≤ k ∧ k + 1 ≤ L.length ∧ h2 = h' ∧ e 0 = x ∧ e 1 = y ∧ e 2 = .bool tf ∧ e 7 = .int .i64 A.length ∧ e 8 = .int .i64 i ∧ e 9 = .int .i64 k ∧ enR (cn L) i (L.length - (i + 1)) (i + 1) = k + 1) ?_ ?_
      · refine loop_rounds (fun mm e h2 => ∃ k, mm = L.length - k ∧ i ≤ k ∧ k + 1 ≤ L.length ∧ h2 = h' ∧ e 0 = x ∧ e 1 = y ∧ e 2 = .bool tf ∧ e 7 = .int .i64 A.length ∧ e 8 = .int .i64 i ∧ e 9 = .int .i64 k ∧ enR (cn L) i (L.length - (i + 1)) (i + 1) = enR (cn L) i (L.length - (k + 1)) (k + 1)) _ ⟨i, rfl, ?_⟩ ?_
        · simp only [updO_at, updO_not, entry_at, List.getD_cons_zero, List.getD_cons_succ, ↓reduceIte, Nat.reduceEqDiff, true_and, and_true]
          (repeat' (first | assumption | rfl | omega | refine And.intro ?_ ?_))
        · rintro mm e h2 ⟨k, hmm, hik, hkn, rfl, g0, g1, g2, g7, g8, g9, hE⟩
          have hkk := toNat_succ k
          by_cases hk1 : k + 1 < L.length
          · obtain ⟨f', hf'⟩ : ∃ f', L.length - (k + 1) = f' + 1 := ⟨L.length - (k + 1 + 1), by omega⟩
            by_cases hq : cn L (k + 1) = cn L i
            · (repeat' first | simp -dsimp (disch := first | omega | assumption | (refine OkS.sto ?_ (by omega); first | assumption | (refine OkS.sto ?_ (by omega); first | assumption | (refine OkS.sto ?_ (by omega); first | assumption | (refine OkS.sto ?_ (by omega); first | assumption | (refine OkS.sto ?_ (by omega); first | assumption | (refine OkS.sto ?_ (by omega); first | assumption)))))) | exact Pfx.refl _ | (apply Pfx.snoc; repeat (first | exact Pfx.refl _ | assumption | apply Pfx.snoc)) | with_unfolding_all exact of_eq_true (eq_true rfl) | (simp only [List.length_append, List.length_cons, List.length_nil]; omega)) only [↓wpre0, ↓wpre1, ↓reduceIte, Int.reduceToNat, Nat.reduceAdd, Nat.reduceMul, Nat.reduceEqDiff, wpost0, wpost1, wpost2, wpost3, wpost4, ite_self, ite_true, ite_false, if_true, if_false, xlen31, bin_lss, bin_add, xiad31, xld34, bin_feql, bin_eql, bin_sub, bin_flss, un_not, bin_fgtr, xlen41, bin_geq, xiad41, xld2, bin_neq, fr17, wrap_int, wrap_u8, iteP_yes, iteP_no, g0, g1, g2, g7, g8, g9, hkk, hC.len, hC.iad, hC.ld, eq_cn hL, decide_eq_true hq] | refine iteP_two (fun hc hd => ?_) (fun hc hd => ?_) | refine iteP_intro (fun hc => ?_) (fun hc => ?_))
              refine ⟨L.length - (k + 1), by omega, k + 1, ?_⟩
              have hE2 : enR (cn L) i (L.length - (i + 1)) (i + 1) = enR (cn L) i (L.length - (k + 1 + 1)) (k + 1 + 1) := by rw [hE, hf', enR_yes hq, show L.length - (k + 1 + 1) = f' by omega]
              (repeat' (first | assumption | rfl | omega | refine And.intro ?_ ?_))
            · (repeat' first | simp -dsimp (disch := first | omega | assumption | (refine OkS.sto ?_ (by omega); first | assumption | (refine OkS.sto ?_ (by omega); first | assumption | (refine OkS.sto ?_ (by omega); first | assumption | (refine OkS.sto ?_ (by omega); first | assumption | (refine OkS.sto ?_ (by omega); first | assumption | (refine OkS.sto ?_ (by omega); first | assumption)))))) | exact Pfx.refl _ | (apply Pfx.snoc; repeat (first | exact Pfx.refl _ | assumption | apply Pfx.snoc)) | with_unfolding_all exact of_eq_true (eq_true rfl) | (simp only [List.length_append, List.length_cons, List.length_nil]; omega)) only [↓wpre0, ↓wpre1, ↓reduceIte, Int.reduceToNat, Nat.reduceAdd, Nat.reduceMul, Nat.reduceEqDiff, wpost0, wpost1, wpost2, wpost3, wpost4, ite_self, ite_true, ite_false, if_true, if_false, xlen31, bin_lss, bin_add, xiad31, xld34, bin_feql, bin_eql, bin_sub, bin_flss, un_not, bin_fgtr, xlen41, bin_geq, xiad41, xld2, bin_neq, fr17, wrap_int, wrap_u8, iteP_yes, iteP_no, g0, g1, g2, g7, g8, g9, hkk, hC.len, hC.iad, hC.ld, eq_cn hL, decide_eq_false hq] | refine iteP_two (fun hc hd => ?_) (fun hc hd => ?_) | refine iteP_intro (fun hc => ?_) (fun hc => ?_))
              have hE2 : enR (cn L) i (L.length - (i + 1)) (i + 1) = k + 1 := by rw [hE, hf', enR_no hq]
              exact ⟨k, by omega, by omega, rfl, hE2⟩
          · (repeat' first | simp -dsimp (disch := first | omega | assumption | (refine OkS.sto ?_ (by omega); first | assumption | (refine OkS.sto ?_ (by omega); first | assumption | (refine OkS.sto ?_ (by omega); first | assumption | (refine OkS.sto ?_ (by omega); first | assumption | (refine OkS.sto ?_ (by omega); first | assumption | (refine OkS.sto ?_ (by omega); first | assumption)))))) | exact Pfx.refl _ | (apply Pfx.snoc; repeat (first | exact Pfx.refl _ | assumption | apply Pfx.snoc)) | with_unfolding_all exact of_eq_true (eq_true rfl) | (simp only [List.length_append, List.length_cons, List.length_nil]; omega)) only [↓wpre0, ↓wpre1, ↓reduceIte, Int.reduceToNat, Nat.reduceAdd, Nat.reduceMul, Nat.reduceEqDiff, wpost0, wpost1, wpost2, wpost3, wpost4, ite_self, ite_true, ite_false, if_true, if_false, xlen31, bin_lss, bin_add, xiad31, xld34, bin_feql, bin_eql, bin_sub, bin_flss, un_not, bin_fgtr, xlen41, bin_geq, xiad41, xld2, bin_neq, fr17, wrap_int, wrap_u8, iteP_yes, iteP_no, g0, g1, g2, g7, g8, g9, hkk, hC.len] | refine iteP_two (fun hc hd => ?_) (fun hc hd => ?_) | refine iteP_intro (fun hc => ?_) (fun hc => ?_))
            have hE2 : enR (cn L) i (L.length - (i + 1)) (i + 1) = k + 1 := by rw [hE, show L.length - (k + 1) = 0 by omega]; rfl
            exact ⟨k, by omega, by omega, rfl, hE2⟩
      · rintro e h2 ⟨k, hik, hkn, rfl, g0, g1, g2, g7, g8, g9, hE⟩
        have hkk := toNat_succ k
        have hstep := rnF_step (c := cn L) (far := farB tf) (n := L.length) hin
        rw [hE] at hstep
        simp only [blockQ_exit, thenQ_exit, thenQ_normal, blockQ_normal, ↓reduceIte, w_seq]
        refine R_cut (fun e h3 => h3 = h2 ∧ e 0 = x ∧ e 1 = y ∧ e 2 = .bool tf ∧ e 7 = .int .i64 A.length ∧ e 8 = .int .i64 i ∧ e 9 = .int .i64 k ∧ e 10 = .bool (decide (i = 0) || farB tf (cn L (i - 1)) (cn L i))) ?_ ?_
        · by_cases hz : i = 0
          · have hz1 : decide ((i : Int) = 0) = true := decide_eq_true (by omega)
            rw [decide_eq_true hz, Bool.true_or]
            (repeat' first | simp -dsimp (disch := first | omega | assumption | (refine OkS.sto ?_ (by omega); first | assumption | (refine OkS.sto ?_ (by omega); first | assumption | (refine OkS.sto ?_ (by omega); first | assumption | (refine OkS.sto ?_ (by omega); first | assumption | (refine OkS.sto ?_ (by omega); first | assumption | (refine OkS.sto ?_ (by omega); first | assumption)))))) | exact Pfx.refl _ | (apply Pfx.snoc; repeat (first | exact Pfx.refl _ | assumption | apply Pfx.snoc)) | with_unfolding_all exact of_eq_true (eq_true rfl) | (simp only [List.length_append, List.length_cons, List.length_nil]; omega)) only [↓wpre0, ↓wpre1, ↓reduceIte, Int.reduceToNat, Nat.reduceAdd, Nat.reduceMul, Nat.reduceEqDiff, wpost0, wpost1, wpost2, wpost3, wpost4, ite_self, ite_true, ite_false, if_true, if_false, xlen31, bin_lss, bin_add, xiad31, xld34, bin_feql, bin_eql, bin_sub, bin_flss, un_not, bin_fgtr, xlen41, bin_geq, xiad41, xld2, bin_neq, fr17, wrap_int, wrap_u8, iteP_yes, iteP_no, g0, g1, g2, g7, g8, g9, hz1] | refine iteP_two (fun hc hd => ?_) (fun hc hd => ?_) | refine iteP_intro (fun hc => ?_) (fun hc => ?_))
          · obtain ⟨j, rfl⟩ : ∃ j, i = j + 1 := ⟨i - 1, by omega⟩
            have hz1 : decide (((j + 1 : Nat) : Int) = 0) = false := decide_eq_false (by omega)
            have hkp := toNat_pred j
            rw [decide_eq_false hz, Bool.false_or, Nat.add_sub_cancel]
            cases tf with
            | true =>
              cases hB : decide (cn L j < cn L (j + 1)) with
              | true =>
                rw [show farB true (cn L j) (cn L (j + 1)) = true from hB]
                (repeat' first | simp -dsimp (disch := first | omega | assumption | (refine OkS.sto ?_ (by omega); first | assumption | (refine OkS.sto ?_ (by omega); first | assumption | (refine OkS.sto ?_ (by omega); first | assumption | (refine OkS.sto ?_ (by omega); first | assumption | (refine OkS.sto ?_ (by omega); first | assumption | (refine OkS.sto ?_ (by omega); first | assumption)))))) | exact Pfx.refl _ | (apply Pfx.snoc; repeat (first | exact Pfx.refl _ | assumption | apply Pfx.snoc)) | with_unfolding_all exact of_eq_true (eq_true rfl) | (simp only [List.length_append, List.length_cons, List.length_nil]; omega)) only [↓wpre0, ↓wpre1, ↓reduceIte, Int.reduceToNat, Nat.reduceAdd, Nat.reduceMul, Nat.reduceEqDiff, wpost0, wpost1, wpost2, wpost3, wpost4, ite_self, ite_true, ite_false, if_true, if_false, xlen31, bin_lss, bin_add, xiad31, xld34, bin_feql, bin_eql, bin_sub, bin_flss, un_not, bin_fgtr, xlen41, bin_geq, xiad41, xld2, bin_neq, fr17, wrap_int, wrap_u8, iteP_yes, iteP_no, g0, g1, g2, g7, g8, g9, hz1, hkp, hC.iad, hC.ld, lt_cn hL, hB] | refine iteP_two (fun hc hd => ?_) (fun hc hd => ?_) | refine iteP_intro (fun hc => ?_) (fun hc => ?_))
              | false =>
                rw [show farB true (cn L j) (cn L (j + 1)) = false from hB]
                (repeat' first | simp -dsimp (disch := first | omega | assumption | (refine OkS.sto ?_ (by omega); first | assumption | (refine OkS.sto ?_ (by omega); first | assumption | (refine OkS.sto ?_ (by omega); first | assumption | (refine OkS.sto ?_ (by omega); first | assumption | (refine OkS.sto ?_ (by omega); first | assumption | (refine OkS.sto ?_ (by omega); first | assumption)))))) | exact Pfx.refl _ | (apply Pfx.snoc; repeat (first | exact Pfx.refl _ | assumption | apply Pfx.snoc)) | with_unfolding_all exact of_eq_true (eq_true rfl) | (simp only [List.length_append, List.length_cons, List.length_nil]; omega)) only [↓wpre0, ↓wpre1, ↓reduceIte, Int.reduceToNat, Nat.reduceAdd, Nat.reduceMul, Nat.reduceEqDiff, wpost0, wpost1, wpost2, wpost3, wpost4, ite_self, ite_true, ite_false, if_true, if_false, xlen31, bin_lss, bin_add, xiad31, xld34, bin_feql, bin_eql, bin_sub, bin_flss, un_not, bin_fgtr, xlen41, bin_geq, xiad41, xld2, bin_neq, fr17, wrap_int, wrap_u8, iteP_yes, iteP_no, g0, g1, g2, g7, g8, g9, hz1, hkp, hC.iad, hC.ld, lt_cn hL, hB] | refine iteP_two (fun hc hd => ?_) (fun hc hd => ?_) | refine iteP_intro (fun hc => ?_) (fun hc => ?_))
            | false =>
              cases hB : decide (cn L (j + 1) < cn L j) with
              | true =>
                rw [show farB false (cn L j) (cn L (j + 1)) = true from hB]
                (repeat' first | simp -dsimp (disch := first | omega | assumption | (refine OkS.sto ?_ (by omega); first | assumption | (refine OkS.sto ?_ (by omega); first | assumption | (refine OkS.sto ?_ (by omega); first | assumption | (refine OkS.sto ?_ (by omega); first | assumption | (refine OkS.sto ?_ (by omega); first | assumption | (refine OkS.sto ?_ (by omega); first | assumption)))))) | exact Pfx.refl _ | (apply Pfx.snoc; repeat (first | exact Pfx.refl _ | assumption | apply Pfx.snoc)) | with_unfolding_all exact of_eq_true (eq_true rfl) | (simp only [List.length_append, List.length_cons, List.length_nil]; omega)) only [↓wpre0, ↓wpre1, ↓reduceIte, Int.reduceToNat, Nat.reduceAdd, Nat.reduceMul, Nat.reduceEqDiff, wpost0, wpost1, wpost2, wpost3, wpost4, ite_self, ite_true, ite_false, if_true, if_false, xlen31, bin_lss, bin_add, xiad31, xld34, bin_feql, bin_eql, bin_sub, bin_flss, un_not, bin_fgtr, xlen41, bin_geq, xiad41, xld2, bin_neq, fr17, wrap_int, wrap_u8, iteP_yes, iteP_no, g0, g1, g2, g7, g8, g9, hz1, hkp, hC.iad, hC.ld, lt_cn hL, hB] | refine iteP_two (fun hc hd => ?_) (fun hc hd => ?_) | refine iteP_intro (fun hc => ?_) (fun hc => ?_))
              | false =>
                rw [show farB false (cn L j) (cn L (j + 1)) = false from hB]
                (repeat' first | simp -dsimp (disch := first | omega | assumption | (refine OkS.sto ?_ (by omega); first | assumption | (refine OkS.sto ?_ (by omega); first | assumption | (refine OkS.sto ?_ (by omega); first | assumption | (refine OkS.sto ?_ (by omega); first | assumption | (refine OkS.sto ?_ (by omega); first | assumption | (refine OkS.sto ?_ (by omega); first | assumption)))))) | exact Pfx.refl _ | (apply Pfx.snoc; repeat (first | exact Pfx.refl _ | assumption | apply Pfx.snoc)) | with_unfolding_all exact of_eq_true (eq_true rfl) | (simp only [List.length_append, List.length_cons, List.length_nil]; omega)) only [↓wpre0, ↓wpre1, ↓reduceIte, Int.reduceToNat, Nat.reduceAdd, Nat.reduceMul, Nat.reduceEqDiff, wpost0, wpost1, wpost2, wpost3, wpost4, ite_self, ite_true, ite_false, if_true, if_false, xlen31, bin_lss, bin_add, xiad31, xld34, bin_feql, bin_eql, bin_sub, bin_flss, un_not, bin_fgtr, xlen41, bin_geq, xiad41, xld2, bin_neq, fr17, wrap_int, wrap_u8, iteP_yes, iteP_no, g0, g1, g2, g7, g8, g9, hz1, hkp, hC.iad, hC.ld, lt_cn hL, hB] | refine iteP_two (fun hc hd => ?_) (fun hc hd => ?_) | refine iteP_intro (fun hc => ?_) (fun hc => ?_))
        · clear g0 g1 g2 g7 g8 g9
          rintro e h3 ⟨rfl, g0, g1, g2, g7, g8, g9, g10⟩
          simp only [blockQ_exit, thenQ_exit, thenQ_normal, blockQ_normal, ↓reduceIte, w_seq]
          refine R_cut (fun e h4 => h4 = h3 ∧ e 0 = x ∧ e 1 = y ∧ e 2 = .bool tf ∧ e 7 = .int .i64 A.length ∧ e 8 = .int .i64 i ∧ e 9 = .int .i64 k ∧ e 10 = .bool (decide (i = 0) || farB tf (cn L (i - 1)) (cn L i)) ∧ e 11 = .bool (decide (k + 1 = L.length) || farB tf (cn L (k + 1)) (cn L i))) ?_ ?_
          · by_cases hz : k + 1 = L.length
            · have hz1 : decide (((k + 1 : Nat) : Int) = (L.length : Int)) = true := decide_eq_true (by omega)
              rw [decide_eq_true hz, Bool.true_or]
              (repeat' first | simp -dsimp (disch := first | omega | assumption | (refine OkS.sto ?_ (by omega); first | assumption | (refine OkS.sto ?_ (by omega); first | assumption | (refine OkS.sto ?_ (by omega); first | assumption | (refine OkS.sto ?_ (by omega); first | assumption | (refine OkS.sto ?_ (by omega); first | assumption | (refine OkS.sto ?_ (by omega); first | assumption)))))) | exact Pfx.refl _ | (apply Pfx.snoc; repeat (first | exact Pfx.refl _ | assumption | apply Pfx.snoc)) | with_unfolding_all exact of_eq_true (eq_true rfl) | (simp only [List.length_append, List.length_cons, List.length_nil]; omega)) only [↓wpre0, ↓wpre1, ↓reduceIte, Int.reduceToNat, Nat.reduceAdd, Nat.reduceMul, Nat.reduceEqDiff, wpost0, wpost1, wpost2, wpost3, wpost4, ite_self, ite_true, ite_false, if_true, if_false, xlen31, bin_lss, bin_add, xiad31, xld34, bin_feql, bin_eql, bin_sub, bin_flss, un_not, bin_fgtr, xlen41, bin_geq, xiad41, xld2, bin_neq, fr17, wrap_int, wrap_u8, iteP_yes, iteP_no, g0, g1, g2, g7, g8, g9, g10, hkk, hC.len, hz1] | refine iteP_two (fun hc hd => ?_) (fun hc hd => ?_) | refine iteP_intro (fun hc => ?_) (fun hc => ?_))
            · have hz1 : decide (((k + 1 : Nat) : Int) = (L.length : Int)) = false := decide_eq_false (by omega)
              rw [decide_eq_false hz, Bool.false_or]
              cases tf with
              | true =>
                cases hB : decide (cn L (k + 1) < cn L i) with
                | true =>
                  rw [show farB true (cn L (k + 1)) (cn L i) = true from hB]
                  (repeat' first | simp -dsimp (disch := first | omega | assumption | (refine OkS.sto ?_ (by omega); first | assumption | (refine OkS.sto ?_ (by omega); first | assumption | (refine OkS.sto ?_ (by omega); first | assumption | (refine OkS.sto ?_ (by omega); first | assumption | (refine OkS.sto ?_ (by omega); first | assumption | (refine OkS.sto ?_ (by omega); first | assumption)))))) | exact Pfx.refl _ | (apply Pfx.snoc; repeat (first | exact Pfx.refl _ | assumption | apply Pfx.snoc)) | with_unfolding_all exact of_eq_true (eq_true rfl) | (simp only [List.length_append, List.length_cons, List.length_nil]; omega)) only [↓wpre0, ↓wpre1, ↓reduceIte, Int.reduceToNat, Nat.reduceAdd, Nat.reduceMul, Nat.reduceEqDiff, wpost0, wpost1, wpost2, wpost3, wpost4, ite_self, ite_true, ite_false, if_true, if_false, xlen31, bin_lss, bin_add, xiad31, xld34, bin_feql, bin_eql, bin_sub, bin_flss, un_not, bin_fgtr, xlen41, bin_geq, xiad41, xld2, bin_neq, fr17, wrap_int, wrap_u8, iteP_yes, iteP_no, g0, g1, g2, g7, g8, g9, g10, hz1, hkk, hC.len, hC.iad, hC.ld, lt_cn hL, hB] | refine iteP_two (fun hc hd => ?_) (fun hc hd => ?_) | refine iteP_intro (fun hc => ?_) (fun hc => ?_))
                | false =>
                  rw [show farB true (cn L (k + 1)) (cn L i) = false from hB]
                  (repeat' first | simp -dsimp (disch := first | omega | assumption | (refine OkS.sto ?_ (by omega); first | assumption | (refine OkS.sto ?_ (by omega); first | assumption | (refine OkS.sto ?_ (by omega); first | assumption | (refine OkS.sto ?_ (by omega); first | assumption | (refine OkS.sto ?_ (by omega); first | assumption | (refine OkS.sto ?_ (by omega); first | assumption)))))) | exact Pfx.refl _ | (apply Pfx.snoc; repeat (first | exact Pfx.refl _ | assumption | apply Pfx.snoc)) | with_unfolding_all exact of_eq_true (eq_true rfl) | (simp only [List.length_append, List.length_cons, List.length_nil]; omega)) only [↓wpre0, ↓wpre1, ↓reduceIte, Int.reduceToNat, Nat.reduceAdd, Nat.reduceMul, Nat.reduceEqDiff, wpost0, wpost1, wpost2, wpost3, wpost4, ite_self, ite_true, ite_false, if_true, if_false, xlen31, bin_lss, bin_add, xiad31, xld34, bin_feql, bin_eql, bin_sub, bin_flss, un_not, bin_fgtr, xlen41, bin_geq, xiad41, xld2, bin_neq, fr17, wrap_int, wrap_u8, iteP_yes, iteP_no, g0, g1, g2, g7, g8, g9, g10, hz1, hkk, hC.len, hC.iad, hC.ld, lt_cn hL, hB] | refine iteP_two (fun hc hd => ?_) (fun hc hd => ?_) | refine iteP_intro (fun hc => ?_) (fun hc => ?_))
              | false =>
                cases hB : decide (cn L i < cn L (k + 1)) with
                | true =>
                  rw [show farB false (cn L (k + 1)) (cn L i) = true from hB]
                  (repeat' first | simp -dsimp (disch := first | omega | assumption | (refine OkS.sto ?_ (by omega); first | assumption | (refine OkS.sto ?_ (by omega); first | assumption | (refine OkS.sto ?_ (by omega); first | assumption | (refine OkS.sto ?_ (by omega); first | assumption | (refine OkS.sto ?_ (by omega); first | assumption | (refine OkS.sto ?_ (by omega); first | assumption)))))) | exact Pfx.refl _ | (apply Pfx.snoc; repeat (first | exact Pfx.refl _ | assumption | apply Pfx.snoc)) | with_unfolding_all exact of_eq_true (eq_true rfl) | (simp only [List.length_append, List.length_cons, List.length_nil]; omega)) only [↓wpre0, ↓wpre1, ↓reduceIte, Int.reduceToNat, Nat.reduceAdd, Nat.reduceMul, Nat.reduceEqDiff, wpost0, wpost1, wpost2, wpost3, wpost4, ite_self, ite_true, ite_false, if_true, if_false, xlen31, bin_lss, bin_add, xiad31, xld34, bin_feql, bin_eql, bin_sub, bin_flss, un_not, bin_fgtr, xlen41, bin_geq, xiad41, xld2, bin_neq, fr17, wrap_int, wrap_u8, iteP_yes, iteP_no, g0, g1, g2, g7, g8, g9, g10, hz1, hkk, hC.len, hC.iad, hC.ld, lt_cn hL, hB] | refine iteP_two (fun hc hd => ?_) (fun hc hd => ?_) | refine iteP_intro (fun hc => ?_) (fun hc => ?_))
                | false =>
                  rw [show farB false (cn L (k + 1)) (cn L i) = false from hB]
                  (repeat' first | simp -dsimp (disch := first | omega | assumption | (refine OkS.sto ?_ (by omega); first | assumption | (refine OkS.sto ?_ (by omega); first | assumption | (refine OkS.sto ?_ (by omega); first | assumption | (refine OkS.sto ?_ (by omega); first | assumption | (refine OkS.sto ?_ (by omega); first | assumption | (refine OkS.sto ?_ (by omega); first | assumption)))))) | exact Pfx.refl _ | (apply Pfx.snoc; repeat (first | exact Pfx.refl _ | assumption | apply Pfx.snoc)) | with_unfolding_all exact of_eq_true (eq_true rfl) | (simp only [List.length_append, List.length_cons, List.length_nil]; omega)) only [↓wpre0, ↓wpre1, ↓reduceIte, Int.reduceToNat, Nat.reduceAdd, Nat.reduceMul, Nat.reduceEqDiff, wpost0, wpost1, wpost2, wpost3, wpost4, ite_self, ite_true, ite_false, if_true, if_false, xlen31, bin_lss, bin_add, xiad31, xld34, bin_feql, bin_eql, bin_sub, bin_flss, un_not, bin_fgtr, xlen41, bin_geq, xiad41, xld2, bin_neq, fr17, wrap_int, wrap_u8, iteP_yes, iteP_no, g0, g1, g2, g7, g8, g9, g10, hz1, hkk, hC.len, hC.iad, hC.ld, lt_cn hL, hB] | refine iteP_two (fun hc hd => ?_) (fun hc hd => ?_) | refine iteP_intro (fun hc => ?_) (fun hc => ?_))
          · clear g0 g1 g2 g7 g8 g9 g10
            rintro e h4 ⟨rfl, g0, g1, g2, g7, g8, g9, g10, g11⟩
            have hisR : isR (cn L) (farB tf) L.length i (k + 1) = ((decide (i = 0) || farB tf (cn L (i - 1)) (cn L i)) && (decide (k + 1 = L.length) || farB tf (cn L (k + 1)) (cn L i))) := rfl
            generalize (decide (i = 0) || farB tf (cn L (i - 1)) (cn L i)) = b1 at *
            generalize (decide (k + 1 = L.length) || farB tf (cn L (k + 1)) (cn L i)) = b2 at *
            have no : isR (cn L) (farB tf) L.length i (k + 1) = false → runL (farB tf) L = A ++ rnF (cn L) (farB tf) L.length (L.length - (k + 1)) (k + 1) := fun q => by rw [hA, hstep, if_neg (by rw [q]; decide), List.nil_append]
            cases b1 with
            | false =>
              have hno := no (by rw [hisR]; rfl)
              (repeat' first | simp -dsimp (disch := first | omega | assumption | (refine OkS.sto ?_ (by omega); first | assumption | (refine OkS.sto ?_ (by omega); first | assumption | (refine OkS.sto ?_ (by omega); first | assumption | (refine OkS.sto ?_ (by omega); first | assumption | (refine OkS.sto ?_ (by omega); first | assumption | (refine OkS.sto ?_ (by omega); first | assumption)))))) | exact Pfx.refl _ | (apply Pfx.snoc; repeat (first | exact Pfx.refl _ | assumption | apply Pfx.snoc)) | with_unfolding_all exact of_eq_true (eq_true rfl) | (simp only [List.length_append, List.length_cons, List.length_nil]; omega)) only [↓wpre0, ↓wpre1, ↓reduceIte, Int.reduceToNat, Nat.reduceAdd, Nat.reduceMul, Nat.reduceEqDiff, wpost0, wpost1, wpost2, wpost3, wpost4, ite_self, ite_true, ite_false, if_true, if_false, xlen31, bin_lss, bin_add, xiad31, xld34, bin_feql, bin_eql, bin_sub, bin_flss, un_not, bin_fgtr, xlen41, bin_geq, xiad41, xld2, bin_neq, fr17, wrap_int, wrap_u8, iteP_yes, iteP_no, g0, g1, g2, g7, g8, g9, g10, g11, hkk] | refine iteP_two (fun hc hd => ?_) (fun hc hd => ?_) | refine iteP_intro (fun hc => ?_) (fun hc => ?_))
              exact ⟨L.length - (k + 1), by omega, k + 1, A, rfl, by omega, rfl, rfl, hno⟩
            | true =>
              cases b2 with
              | false =>
                have hno := no (by rw [hisR]; rfl)
                (repeat' first | simp -dsimp (disch := first | omega | assumption | (refine OkS.sto ?_ (by omega); first | assumption | (refine OkS.sto ?_ (by omega); first | assumption | (refine OkS.sto ?_ (by omega); first | assumption | (refine OkS.sto ?_ (by omega); first | assumption | (refine OkS.sto ?_ (by omega); first | assumption | (refine OkS.sto ?_ (by omega); first | assumption)))))) | exact Pfx.refl _ | (apply Pfx.snoc; repeat (first | exact Pfx.refl _ | assumption | apply Pfx.snoc)) | with_unfolding_all exact of_eq_true (eq_true rfl) | (simp only [List.length_append, List.length_cons, List.length_nil]; omega)) only [↓wpre0, ↓wpre1, ↓reduceIte, Int.reduceToNat, Nat.reduceAdd, Nat.reduceMul, Nat.reduceEqDiff, wpost0, wpost1, wpost2, wpost3, wpost4, ite_self, ite_true, ite_false, if_true, if_false, xlen31, bin_lss, bin_add, xiad31, xld34, bin_feql, bin_eql, bin_sub, bin_flss, un_not, bin_fgtr, xlen41, bin_geq, xiad41, xld2, bin_neq, fr17, wrap_int, wrap_u8, iteP_yes, iteP_no, g0, g1, g2, g7, g8, g9, g10, g11, hkk] | refine iteP_two (fun hc hd => ?_) (fun hc hd => ?_) | refine iteP_intro (fun hc => ?_) (fun hc => ?_))
                exact ⟨L.length - (k + 1), by omega, k + 1, A, rfl, by omega, rfl, rfl, hno⟩
              | true =>
                have hyes : runL (farB tf) L = A ++ i :: rnF (cn L) (farB tf) L.length (L.length - (k + 1)) (k + 1) := by rw [hA, hstep, if_pos (by rw [hisR]; rfl)]; rfl
                have hyes2 : runL (farB tf) L = (A ++ [i]) ++ rnF (cn L) (farB tf) L.length (L.length - (k + 1)) (k + 1) := by rw [hyes, List.append_assoc]; rfl
                have hAl2 : A.length < (runL (farB tf) L).length := by rw [hyes, List.length_append, List.length_cons]; omega
                have hld := IS.ld1 (P := Try.prog) (t := 2) (c := A.length * 1) hY tsz2 tag2 (by omega)
                have hnt : nth ((runL (farB tf) L).map natI) (A.length * 1) = (i : Int) := by rw [Nat.mul_one, hyes]; exact nth_run
                rw [hnt] at hld
                have hkA := toNat_succ A.length
                have hl1 : (A ++ [i]).length = A.length + 1 := by simp
                (repeat' first | simp -dsimp (disch := first | omega | assumption | (refine OkS.sto ?_ (by omega); first | assumption | (refine OkS.sto ?_ (by omega); first | assumption | (refine OkS.sto ?_ (by omega); first | assumption | (refine OkS.sto ?_ (by omega); first | assumption | (refine OkS.sto ?_ (by omega); first | assumption | (refine OkS.sto ?_ (by omega); first | assumption)))))) | exact Pfx.refl _ | (apply Pfx.snoc; repeat (first | exact Pfx.refl _ | assumption | apply Pfx.snoc)) | with_unfolding_all exact of_eq_true (eq_true rfl) | (simp only [List.length_append, List.length_cons, List.length_nil]; omega)) only [↓wpre0, ↓wpre1, ↓reduceIte, Int.reduceToNat, Nat.reduceAdd, Nat.reduceMul, Nat.reduceEqDiff, wpost0, wpost1, wpost2, wpost3, wpost4, ite_self, ite_true, ite_false, if_true, if_false, xlen31, bin_lss, bin_add, xiad31, xld34, bin_feql, bin_eql, bin_sub, bin_flss, un_not, bin_fgtr, xlen41, bin_geq, xiad41, xld2, bin_neq, fr17, wrap_int, wrap_u8, iteP_yes, iteP_no, g0, g1, g2, g7, g8, g9, g10, g11, hkk, hkA, hY.len Try.underlying41, hY.iad Try.underlying41 tsz2, hld] | refine iteP_two (fun hc hd => ?_) (fun hc hd => ?_) | refine iteP_intro (fun hc => ?_) (fun hc => ?_))
                exact ⟨L.length - (k + 1), by omega, k + 1, A ++ [i], rfl, by omega, by rw [hl1], rfl, hyes2⟩
    · have ei : i = L.length := by omega
      rw [ei, rnF_end (Nat.le_refl _), List.append_nil] at hA
      rw [← hA] at g7
      (repeat' first | simp -dsimp (disch := first | omega | assumption | (refine OkS.sto ?_ (by omega); first | assumption | (refine OkS.sto ?_ (by omega); first | assumption | (refine OkS.sto ?_ (by omega); first | assumption | (refine OkS.sto ?_ (by omega); first | assumption | (refine OkS.sto ?_ (by omega); first | assumption | (refine OkS.sto ?_ (by omega); first | assumption)))))) | exact Pfx.refl _ | (apply Pfx.snoc; repeat (first | exact Pfx.refl _ | assumption | apply Pfx.snoc)) | with_unfolding_all exact of_eq_true (eq_true rfl) | (simp only [List.length_append, List.length_cons, List.length_nil]; omega)) only [↓wpre0, ↓wpre1, ↓reduceIte, Int.reduceToNat, Nat.reduceAdd, Nat.reduceMul, Nat.reduceEqDiff, wpost0, wpost1, wpost2, wpost3, wpost4, ite_self, ite_true, ite_false, if_true, if_false, xlen31, bin_lss, bin_add, xiad31, xld34, bin_feql, bin_eql, bin_sub, bin_flss, un_not, bin_fgtr, xlen41, bin_geq, xiad41, xld2, bin_neq, fr17, wrap_int, wrap_u8, iteP_yes, iteP_no, g0, g1, g2, g7, g8, hC.len, hY.len Try.underlying41] | refine iteP_two (fun hc hd => ?_) (fun hc hd => ?_) | refine iteP_intro (fun hc => ?_) (fun hc => ?_))
      all_goals rfl
end Go.Proofs.Ytjonhaebeeoimaa.Sim

/- Levels of a cut of small numbers. Lemmas only; no condition. -/
set_option linter.unusedSimpArgs false
set_option linter.unusedVariables false
set_option maxRecDepth 8000
namespace Go.Proofs.Ytjonhaebeeoimaa.Sim
open Go Go.RowKit Fl
variable {ro lo hi n : Nat} {X : Ext} {h : Heap} {x y : Value} {L : List Nat}
/-- The level of a number under another one. -/
def lvN (L : List Nat) (p i : Nat) : Int := if cn L i = 0 then -2000 else tnN (cn L i) - tnN (cn L p)
def lvL (L : List Nat) (p m : Nat) : List Int := (List.range m).map (lvN L p)
theorem lvL_succ {p m : Nat} : vints (lvL L p (m + 1)) = vints (lvL L p m) ++ [.int .i64 (lvN L p m)] := by simp [lvL, vints, List.range_succ]
theorem lvL_len {p m : Nat} : (lvL L p m).length = m := by simp [lvL]
theorem lvL_at {p m i : Nat} (h : i < m) : nth (lvL L p m) i = lvN L p i := by simp [lvL, nth, h]
theorem tn_rng {v : Nat} (h1 : 1 ≤ v) (h7 : v ≤ 7) : 0 ≤ tnN v ∧ tnN v ≤ 100 := by
  rcases tn_tab ⟨v, by omega⟩ with q | q
  · exact absurd q (by show ¬ v = 0; omega)
  · exact q.2.2
theorem lv_facts (hL : CL L) {p i : Nat} (hp : 1 ≤ cn L p) (hm : cn L i ≤ cn L p) : lvN L p i ≤ 0 ∧ -2000 ≤ lvN L p i ∧ (lvN L p i = -2000 ↔ cn L i = 0) ∧ lvN L p p = 0 := by
  have p7 := hL p
  have i7 := hL i
  obtain ⟨a1, a2⟩ := tn_rng hp p7
  unfold lvN
  rw [if_neg (show ¬ cn L p = 0 by omega)]
  by_cases h0 : cn L i = 0
  · rw [if_pos h0]
    exact ⟨by omega, by omega, ⟨fun _ => h0, fun _ => rfl⟩, by omega⟩
  · rw [if_neg h0]
    obtain ⟨b1, b2⟩ := tn_rng (show 1 ≤ cn L i by omega) i7
    have hmo := tn_mono ⟨cn L i, by omega⟩ ⟨cn L p, by omega⟩ (show 1 ≤ cn L i by omega) hm
    have hmo' : tnN (cn L i) ≤ tnN (cn L p) := hmo
    exact ⟨by omega, by omega, ⟨fun q => absurd q (by omega), fun q => absurd q h0⟩, by omega⟩
set_option maxHeartbeats 4000000 in
theorem Levels0_r (hX : XN X) (hF : X 56 = some (ext1 (gInt .down))) (hC : CUT lo hi h x L) (h1 : 1 ≤ L.length) (hp : cn L (pkN (cn L) L.length) = 0) : Ret Try.prog ro X 18 [x] h (.tuple ⟨[.slice none 0 0, .bool false]⟩) := by
  have hL := hC.s
  have hlt := pkN_lt (cn L) L.length (by omega)
  have hpk := Peak_r (ro := ro) hX hC h1
  generalize pkN (cn L) L.length = p at *
  have ht := Tenths_r (ro := ro) hX hF (hL p) h
  rw [if_pos hp, decide_eq_false (fun q => q hp)] at ht
  refine ret_of (callR_of (hX _ rfl) Try.func18 rfl (by kernel_rfl) (Nat.le_of_ble_eq_true rfl) ?_)
  (repeat' first | simp -dsimp (disch := first | omega | assumption | (refine OkS.sto ?_ (by omega); first | assumption | (refine OkS.sto ?_ (by omega); first | assumption | (refine OkS.sto ?_ (by omega); first | assumption | (refine OkS.sto ?_ (by omega); first | assumption | (refine OkS.sto ?_ (by omega); first | assumption | (refine OkS.sto ?_ (by omega); first | assumption)))))) | exact Pfx.refl _ | (apply Pfx.snoc; repeat (first | exact Pfx.refl _ | assumption | apply Pfx.snoc)) | with_unfolding_all exact of_eq_true (eq_true rfl) | (simp only [List.length_append, List.length_cons, List.length_nil]; omega)) only [↓wpre0, ↓wpre1, ↓reduceIte, Int.reduceToNat, Nat.reduceAdd, Nat.reduceMul, Nat.reduceEqDiff, wpost0, wpost1, wpost2, wpost3, wpost4, ite_self, ite_true, ite_false, if_true, if_false, un_not, xiad31, xld34, xbls41_0, xbls41_1, xlen31, bin_lss, bin_sub, blt_maxI, bin_add, fr18, wrap_int, wrap_u8, iteP_yes, iteP_no, hpk, hC.iad, hC.ld, ht] | refine iteP_two (fun hc hd => ?_) (fun hc hd => ?_) | refine iteP_intro (fun hc => ?_) (fun hc => ?_))
set_option maxHeartbeats 4000000 in
theorem Levels_c (hX : XN X) (hF : X 56 = some (ext1 (gInt .down))) (hC : CUT lo hi h x L) (h1 : 1 ≤ L.length) (hp : ¬ cn L (pkN (cn L) L.length) = 0) (hro : ro ≤ h.length) :
    CallR Try.prog ro X 18 [x] h (fun r h' => ∃ z, r = .tuple ⟨[z, .bool true]⟩ ∧ Pfx h h' ∧ VG h.length 2 1 h' z L.length (vints (lvL L (pkN (cn L) L.length) L.length))) := by
  have hL := hC.s
  have hn := hC.n
  have hlt := pkN_lt (cn L) L.length (by omega)
  have hpk := Peak_r (ro := ro) hX hC h1
  generalize pkN (cn L) L.length = p at *
  have ht := Tenths_r (ro := ro) hX hF (hL p)
  rw [if_neg hp, decide_eq_true hp] at ht
  obtain ⟨a1, a2⟩ := tn_rng (show 1 ≤ cn L p by omega) (hL p)
  refine callR_of (hX _ rfl) Try.func18 rfl (by kernel_rfl) (Nat.le_of_ble_eq_true rfl) ?_
  (repeat' first | simp -dsimp (disch := first | omega | assumption | (refine OkS.sto ?_ (by omega); first | assumption | (refine OkS.sto ?_ (by omega); first | assumption | (refine OkS.sto ?_ (by omega); first | assumption | (refine OkS.sto ?_ (by omega); first | assumption | (refine OkS.sto ?_ (by omega); first | assumption | (refine OkS.sto ?_ (by omega); first | assumption)))))) | exact Pfx.refl _ | (apply Pfx.snoc; repeat (first | exact Pfx.refl _ | assumption | apply Pfx.snoc)) | with_unfolding_all exact of_eq_true (eq_true rfl) | (simp only [List.length_append, List.length_cons, List.length_nil]; omega)) only [↓wpre0, ↓wpre1, ↓reduceIte, Int.reduceToNat, Nat.reduceAdd, Nat.reduceMul, Nat.reduceEqDiff, wpost0, wpost1, wpost2, wpost3, wpost4, ite_self, ite_true, ite_false, if_true, if_false, un_not, xiad31, xld34, xbls41_0, xbls41_1, xlen31, bin_lss, bin_sub, blt_maxI, bin_add, fr18, wrap_int, wrap_u8, iteP_yes, iteP_no, hpk, hC.iad, hC.ld, ht, hC.len] | refine iteP_two (fun hc hd => ?_) (fun hc hd => ?_) | refine iteP_intro (fun hc => ?_) (fun hc => ?_))
  refine loop_rounds (fun mm e h' => ∃ (i : Nat) (z : Value), mm = L.length - i ∧ i ≤ L.length ∧ Pfx h h' ∧ e 6 = .int .i64 (tnN (cn L p)) ∧ e 7 = z ∧ e 31 = x ∧ e 32 = .int .i64 L.length ∧ e 33 = .int .i64 i ∧ VG h.length 2 1 h' z i (vints (lvL L p i))) _ ⟨0, .slice (some ⟨h.length, 0, none⟩) 0 0, rfl, ?_⟩ ?_
  · simp only [updO_at, updO_not, entry_at, List.getD_cons_zero, List.getD_cons_succ, ↓reduceIte, Nat.reduceEqDiff, true_and, and_true]
    have q1 : Pfx h (h ++ [(⟨2, []⟩ : Blk)]) := (Pfx.refl h).snoc
    have q2 : VG h.length 2 1 (h ++ [(⟨2, []⟩ : Blk)]) (.slice (some ⟨h.length, 0, none⟩) 0 0) 0 (vints (lvL L p 0)) := vg_new h (Nat.le_refl _)
    exact ⟨Nat.zero_le _, q1, rfl, q2⟩
  · rintro mm e h' ⟨i, z, hmm, hle, hpx, g6, g7, g31, g32, g33, hZ⟩
    have hlp := hpx.len
    have hC' := hC.pre hpx
    have hks := toNat_succ i
    by_cases hin : i < L.length
    · have hti := Tenths_r (ro := ro) hX hF (hL i) h'
      obtain ⟨H, ap, vg, old, hlen⟩ := acc1 (P := Try.prog) (ro := ro) (T := 41) (h := h') (v := .int .i64 (lvN L p i)) tel41 tsz2 tby2 tze2 (.inl hZ) hro (by omega) rfl (by omega) (by omega)
      rw [← lvL_succ] at vg
      have pH := old.1 h hpx (Nat.le_refl _)
      by_cases h0 : cn L i = 0
      · have e1 : lvN L p i = -2000 := if_pos h0
        rw [e1] at ap
        rw [if_pos h0, decide_eq_false (fun q => q h0)] at hti
        (repeat' first | simp -dsimp (disch := first | omega | assumption | (refine OkS.sto ?_ (by omega); first | assumption | (refine OkS.sto ?_ (by omega); first | assumption | (refine OkS.sto ?_ (by omega); first | assumption | (refine OkS.sto ?_ (by omega); first | assumption | (refine OkS.sto ?_ (by omega); first | assumption | (refine OkS.sto ?_ (by omega); first | assumption)))))) | exact Pfx.refl _ | (apply Pfx.snoc; repeat (first | exact Pfx.refl _ | assumption | apply Pfx.snoc)) | with_unfolding_all exact of_eq_true (eq_true rfl) | (simp only [List.length_append, List.length_cons, List.length_nil]; omega)) only [↓wpre0, ↓wpre1, ↓reduceIte, Int.reduceToNat, Nat.reduceAdd, Nat.reduceMul, Nat.reduceEqDiff, wpost0, wpost1, wpost2, wpost3, wpost4, ite_self, ite_true, ite_false, if_true, if_false, un_not, xiad31, xld34, xbls41_0, xbls41_1, xlen31, bin_lss, bin_sub, blt_maxI, bin_add, fr18, wrap_int, wrap_u8, iteP_yes, iteP_no, g6, g7, g31, g32, g33, hC'.iad, hC'.ld, hti, ap] | refine iteP_two (fun hc hd => ?_) (fun hc hd => ?_) | refine iteP_intro (fun hc => ?_) (fun hc => ?_))
        exact ⟨L.length - (i + 1), by omega, i + 1, .slice (some ⟨h'.length + 1, 0, none⟩) (i + 1) (i + 1 + 1), rfl, by omega, pH, rfl, by rw [hks], vg⟩
      · obtain ⟨b1, b2⟩ := tn_rng (show 1 ≤ cn L i by omega) (hL i)
        have e1 : lvN L p i = tnN (cn L i) - tnN (cn L p) := if_neg h0
        have e2 : max (-2000 : Int) (tnN (cn L i) - tnN (cn L p)) = tnN (cn L i) - tnN (cn L p) := by omega
        rw [e1] at ap
        rw [if_neg h0, decide_eq_true h0] at hti
        (repeat' first | simp -dsimp (disch := first | omega | assumption | (refine OkS.sto ?_ (by omega); first | assumption | (refine OkS.sto ?_ (by omega); first | assumption | (refine OkS.sto ?_ (by omega); first | assumption | (refine OkS.sto ?_ (by omega); first | assumption | (refine OkS.sto ?_ (by omega); first | assumption | (refine OkS.sto ?_ (by omega); first | assumption)))))) | exact Pfx.refl _ | (apply Pfx.snoc; repeat (first | exact Pfx.refl _ | assumption | apply Pfx.snoc)) | with_unfolding_all exact of_eq_true (eq_true rfl) | (simp only [List.length_append, List.length_cons, List.length_nil]; omega)) only [↓wpre0, ↓wpre1, ↓reduceIte, Int.reduceToNat, Nat.reduceAdd, Nat.reduceMul, Nat.reduceEqDiff, wpost0, wpost1, wpost2, wpost3, wpost4, ite_self, ite_true, ite_false, if_true, if_false, un_not, xiad31, xld34, xbls41_0, xbls41_1, xlen31, bin_lss, bin_sub, blt_maxI, bin_add, fr18, wrap_int, wrap_u8, iteP_yes, iteP_no, g6, g7, g31, g32, g33, hC'.iad, hC'.ld, hti, e2, ap] | refine iteP_two (fun hc hd => ?_) (fun hc hd => ?_) | refine iteP_intro (fun hc => ?_) (fun hc => ?_))
        exact ⟨L.length - (i + 1), by omega, i + 1, .slice (some ⟨h'.length + 1, 0, none⟩) (i + 1) (i + 1 + 1), rfl, by omega, pH, rfl, by rw [hks], vg⟩
    · have ei : i = L.length := by omega
      subst ei
      have hnf : Sim.flat (.tuple ⟨[z, .bool true]⟩) = false := by obtain ⟨_, b, cap, rfl, _⟩ := hZ; rfl
      (repeat' first | simp -dsimp (disch := first | omega | assumption | (refine OkS.sto ?_ (by omega); first | assumption | (refine OkS.sto ?_ (by omega); first | assumption | (refine OkS.sto ?_ (by omega); first | assumption | (refine OkS.sto ?_ (by omega); first | assumption | (refine OkS.sto ?_ (by omega); first | assumption | (refine OkS.sto ?_ (by omega); first | assumption)))))) | exact Pfx.refl _ | (apply Pfx.snoc; repeat (first | exact Pfx.refl _ | assumption | apply Pfx.snoc)) | with_unfolding_all exact of_eq_true (eq_true rfl) | (simp only [List.length_append, List.length_cons, List.length_nil]; omega)) only [↓wpre0, ↓wpre1, ↓reduceIte, Int.reduceToNat, Nat.reduceAdd, Nat.reduceMul, Nat.reduceEqDiff, wpost0, wpost1, wpost2, wpost3, wpost4, ite_self, ite_true, ite_false, if_true, if_false, un_not, xiad31, xld34, xbls41_0, xbls41_1, xlen31, bin_lss, bin_sub, blt_maxI, bin_add, fr18, wrap_int, wrap_u8, iteP_yes, iteP_no, g6, g7, g31, g32, g33, endH_not hnf] | refine iteP_two (fun hc hd => ?_) (fun hc hd => ?_) | refine iteP_intro (fun hc => ?_) (fun hc => ?_))
      exact ⟨z, rfl, hpx, hZ⟩
theorem Gap_r (hX : XN X) (a b : Nat) (h : Heap) : Ret Try.prog ro X 16 [.float .f64 a, .float .f64 b] h (.float .f64 (gapF a b)) := by
  cases hc : fcmp .lss .f64 a b with
  | true =>
    have e : gapF a b = farith .sub .f64 b a := by unfold gapF; rw [if_pos hc]
    rw [e]
    refine ret_of (callR_of (hX _ rfl) Try.func16 rfl (by kernel_rfl) (Nat.le_of_ble_eq_true rfl) ?_)
    (repeat' first | simp -dsimp (disch := first | omega | assumption | (refine OkS.sto ?_ (by omega); first | assumption | (refine OkS.sto ?_ (by omega); first | assumption | (refine OkS.sto ?_ (by omega); first | assumption | (refine OkS.sto ?_ (by omega); first | assumption | (refine OkS.sto ?_ (by omega); first | assumption | (refine OkS.sto ?_ (by omega); first | assumption)))))) | exact Pfx.refl _ | (apply Pfx.snoc; repeat (first | exact Pfx.refl _ | assumption | apply Pfx.snoc)) | with_unfolding_all exact of_eq_true (eq_true rfl) | (simp only [List.length_append, List.length_cons, List.length_nil]; omega)) only [↓wpre0, ↓wpre1, ↓reduceIte, Int.reduceToNat, Nat.reduceAdd, Nat.reduceMul, Nat.reduceEqDiff, wpost0, wpost1, wpost2, wpost3, wpost4, ite_self, ite_true, ite_false, if_true, if_false, bin_flss, bin_fsub, fr16, wrap_int, wrap_u8, iteP_yes, iteP_no, hc] | refine iteP_two (fun hc hd => ?_) (fun hc hd => ?_) | refine iteP_intro (fun hc => ?_) (fun hc => ?_))
  | false =>
    have e : gapF a b = farith .sub .f64 a b := by unfold gapF; rw [if_neg (by rw [hc]; decide)]
    rw [e]
    refine ret_of (callR_of (hX _ rfl) Try.func16 rfl (by kernel_rfl) (Nat.le_of_ble_eq_true rfl) ?_)
    (repeat' first | simp -dsimp (disch := first | omega | assumption | (refine OkS.sto ?_ (by omega); first | assumption | (refine OkS.sto ?_ (by omega); first | assumption | (refine OkS.sto ?_ (by omega); first | assumption | (refine OkS.sto ?_ (by omega); first | assumption | (refine OkS.sto ?_ (by omega); first | assumption | (refine OkS.sto ?_ (by omega); first | assumption)))))) | exact Pfx.refl _ | (apply Pfx.snoc; repeat (first | exact Pfx.refl _ | assumption | apply Pfx.snoc)) | with_unfolding_all exact of_eq_true (eq_true rfl) | (simp only [List.length_append, List.length_cons, List.length_nil]; omega)) only [↓wpre0, ↓wpre1, ↓reduceIte, Int.reduceToNat, Nat.reduceAdd, Nat.reduceMul, Nat.reduceEqDiff, wpost0, wpost1, wpost2, wpost3, wpost4, ite_self, ite_true, ite_false, if_true, if_false, bin_flss, bin_fsub, fr16, wrap_int, wrap_u8, iteP_yes, iteP_no, hc] | refine iteP_two (fun hc hd => ?_) (fun hc hd => ?_) | refine iteP_intro (fun hc => ?_) (fun hc => ?_))
end Go.Proofs.Ytjonhaebeeoimaa.Sim

/- The law FnCuts. Lemmas only; no condition. -/
set_option linter.unusedSimpArgs false
set_option linter.unusedVariables false
set_option maxRecDepth 8000
namespace Go.Proofs.Ytjonhaebeeoimaa.Sim
open Go Go.RowKit Fl
variable {ro lo hi lo' hi' n : Nat} {X : Ext} {h : Heap} {x y : Value} {l : List Int} {u v : Int} {cd md : List UInt8} {L : List Nat}
theorem env_go {P : Program} {c : Code} {Q : Ex → Env → Heap → Prop} {e : Env} {h : Heap} (M : Env → Heap → Prop) (h1 : M e h) (k : ∀ e h, M e h → W P ro X c Q e h) : W P ro X c Q e h := k e h h1
theorem dir_71 {a b j : Nat} (ha : a < 71) (hb : b < 71) (hj : j ≤ 4) : dirB ((a : Int) - 35 + (j : Int)) ((b : Int) - 35) = true := by
  have e : ∀ z : Int, -39 ≤ z → z ≤ 39 → z * z ≤ 1521 := fun z h1 h2 => by
    have h : z * z = ((z.natAbs * z.natAbs : Nat) : Int) := by rw [← Int.natAbs_mul_self]
    have h2 : z.natAbs * z.natAbs ≤ 39 * 39 := Nat.mul_le_mul (by omega) (by omega)
    omega
  have e1 := e ((a : Int) - 35 + (j : Int)) (by omega) (by omega)
  have e2 := e ((b : Int) - 35) (by omega) (by omega)
  unfold dirB
  rw [decide_eq_true (p := -64 ≤ (a : Int) - 35 + (j : Int)) (by omega), decide_eq_true (p := (a : Int) - 35 + (j : Int) ≤ 64) (by omega), decide_eq_true (p := -64 ≤ (b : Int) - 35) (by omega), decide_eq_true (p := (b : Int) - 35 ≤ 64) (by omega), decide_eq_true (p := ((a : Int) - 35 + (j : Int)) * ((a : Int) - 35 + (j : Int)) + ((b : Int) - 35) * ((b : Int) - 35) ≤ 4096) (by omega)]
  rfl
theorem zero_S : sW 0 = 0 := by decide +kernel
/-- Whether a number is among the first of a list. -/
def fnd (R : List Nat) (p : Nat) : Nat → Bool
  | 0 => false
  | j + 1 => fnd R p j || decide (nth (R.map natI) j = (p : Int))
theorem fnd_up {R : List Nat} {p : Nat} : ∀ {i j : Nat}, i ≤ j → fnd R p i = true → fnd R p j = true
  | i, 0, h, q => by
    have : i = 0 := by omega
    rw [this] at q; exact q
  | i, j + 1, h, q => by
    by_cases e : i = j + 1
    · rw [← e]; exact q
    · unfold fnd; rw [fnd_up (i := i) (j := j) (by omega) q]; rfl
theorem fnd_all {R : List Nat} {p : Nat} (h : p ∈ R) : fnd R p R.length = true := by
  obtain ⟨i, hi, e⟩ := List.getElem_of_mem h
  refine fnd_up (i := i + 1) (by omega) ?_
  unfold fnd
  have : nth (R.map natI) i = (p : Int) := by simp [nth, natI, hi, e]
  rw [decide_eq_true this, Bool.or_true]
set_option maxHeartbeats 16000000 in
theorem lawCut_c (hX : XN X) (hX0 : XN xS0) (hW : XDW xS0) (hA : XAbs X) (hB : X 55 = some (ext1 fBits)) (hF : X 56 = some (ext1 (gInt .down))) (hx : X 20 = xPl ro xS0 20) (hW2 : XDW X) (hV : VS lo hi 1 h x cd.length (cd.map u8v)) (hU : VS lo' hi' 1 h y md.length (md.map u8v)) (hhi : hi ≤ h.length) (hhi' : hi' ≤ h.length) (hro : ro ≤ h.length) (hl : cd.length ≤ 140737488351232) (hl' : md.length ≤ 140737488351232) :
    CallR Try.prog ro X 3 [x, y] h (fun r h' => r = .bool true) := by
  refine callR_of (hX _ rfl) Try.func3 rfl (by kernel_rfl) (Nat.le_of_ble_eq_true rfl) ?_
  by_cases hlong : (decide (1048576 < cd.length) || decide (1048576 < md.length)) = true
  · (repeat' first | simp -dsimp (disch := first | omega | assumption | (refine OkS.sto ?_ (by omega); first | assumption | (refine OkS.sto ?_ (by omega); first | assumption | (refine OkS.sto ?_ (by omega); first | assumption | (refine OkS.sto ?_ (by omega); first | assumption | (refine OkS.sto ?_ (by omega); first | assumption | (refine OkS.sto ?_ (by omega); first | assumption)))))) | exact Pfx.refl _ | (apply Pfx.snoc; repeat (first | exact Pfx.refl _ | assumption | apply Pfx.snoc)) | with_unfolding_all exact of_eq_true (eq_true rfl) | (simp only [List.length_append, List.length_cons, List.length_nil]; omega)) only [↓wpre0, ↓wpre1, ↓reduceIte, Int.reduceToNat, Nat.reduceAdd, Nat.reduceMul, Nat.reduceEqDiff, wpost0, wpost1, wpost2, wpost3, wpost4, ite_self, ite_true, ite_false, if_true, if_false, xlen24, tze29, xst29, xfad29_1, xld2, xfad29_0, bin_add, un_not, xlen31, bin_neq, bin_lss, xbld29_0_1, xiad31, xld34, bin_geq, xcv34_45, bin_fadd, bin_fgtr, bin_feql, xlen41, xiad41, bin_eql, xcv2_45, bin_fmul, xbneq4, bin_gtr, fr3, wrap_int, wrap_u8, iteP_yes, iteP_no, long_r (hX _ rfl) hV hU (by omega) (by omega), hlong] | refine iteP_two (fun hc hd => ?_) (fun hc hd => ?_) | refine iteP_intro (fun hc => ?_) (fun hc => ?_))
  have hlong' : (decide (1048576 < cd.length) || decide (1048576 < md.length)) = false := by simpa using hlong
  have hc1 : cd.length ≤ 1048576 := by simp at hlong'; omega
  have hm1 : md.length ≤ 1048576 := by simp at hlong'; omega
  (repeat' first | simp -dsimp (disch := first | omega | assumption | (refine OkS.sto ?_ (by omega); first | assumption | (refine OkS.sto ?_ (by omega); first | assumption | (refine OkS.sto ?_ (by omega); first | assumption | (refine OkS.sto ?_ (by omega); first | assumption | (refine OkS.sto ?_ (by omega); first | assumption | (refine OkS.sto ?_ (by omega); first | assumption)))))) | exact Pfx.refl _ | (apply Pfx.snoc; repeat (first | exact Pfx.refl _ | assumption | apply Pfx.snoc)) | with_unfolding_all exact of_eq_true (eq_true rfl) | (simp only [List.length_append, List.length_cons, List.length_nil]; omega)) only [↓wpre0, ↓wpre1, ↓reduceIte, Int.reduceToNat, Nat.reduceAdd, Nat.reduceMul, Nat.reduceEqDiff, wpost0, wpost1, wpost2, wpost3, wpost4, ite_self, ite_true, ite_false, if_true, if_false, xlen24, tze29, xst29, xfad29_1, xld2, xfad29_0, bin_add, un_not, xlen31, bin_neq, bin_lss, xbld29_0_1, xiad31, xld34, bin_geq, xcv34_45, bin_fadd, bin_fgtr, bin_feql, xlen41, xiad41, bin_eql, xcv2_45, bin_fmul, xbneq4, bin_gtr, fr3, wrap_int, wrap_u8, iteP_yes, iteP_no, long_r (hX _ rfl) hV hU (by omega) (by omega), hlong'] | refine iteP_two (fun hc hd => ?_) (fun hc hd => ?_) | refine iteP_intro (fun hc => ?_) (fun hc => ?_))
  refine cf_rel (TenP_c hW hX0 hX hx hV hro hhi (by omega)) (fun q => by cases q) ?_
  rintro r H1 ⟨n, yb, yc, l, rfl, hyb, hD, hll, hg, hr, p1⟩
  have hI := is_blk (dc := yc) hD hll
  have l1 := p1.len
  have n16 := hg.n16
  have n1 := hg.n1
  have hU1 := hU.pre p1
  have hyb1 : yb < H1.length := by
    rcases Nat.lt_or_ge yb H1.length with q | q
    · exact q
    · rw [List.getElem?_eq_none q] at hD; cases hD
  (repeat' first | simp -dsimp (disch := first | omega | assumption | (refine OkS.sto ?_ (by omega); first | assumption | (refine OkS.sto ?_ (by omega); first | assumption | (refine OkS.sto ?_ (by omega); first | assumption | (refine OkS.sto ?_ (by omega); first | assumption | (refine OkS.sto ?_ (by omega); first | assumption | (refine OkS.sto ?_ (by omega); first | assumption)))))) | exact Pfx.refl _ | (apply Pfx.snoc; repeat (first | exact Pfx.refl _ | assumption | apply Pfx.snoc)) | with_unfolding_all exact of_eq_true (eq_true rfl) | (simp only [List.length_append, List.length_cons, List.length_nil]; omega)) only [↓wpre0, ↓wpre1, ↓reduceIte, Int.reduceToNat, Nat.reduceAdd, Nat.reduceMul, Nat.reduceEqDiff, wpost0, wpost1, wpost2, wpost3, wpost4, ite_self, ite_true, ite_false, if_true, if_false, xlen24, tze29, xst29, xfad29_1, xld2, xfad29_0, bin_add, un_not, xlen31, bin_neq, bin_lss, xbld29_0_1, xiad31, xld34, bin_geq, xcv34_45, bin_fadd, bin_fgtr, bin_feql, xlen41, xiad41, bin_eql, xcv2_45, bin_fmul, xbneq4, bin_gtr, fr3, wrap_int, wrap_u8, iteP_yes, iteP_no, hI.len Try.underlying24] | refine iteP_two (fun hc hd => ?_) (fun hc hd => ?_) | refine iteP_intro (fun hc => ?_) (fun hc => ?_))
  refine cf_rel (Fine_c hW2 hX hU1 (by omega) (by omega) (by omega) (n := n) (by omega)) (fun q => by cases q) ?_
  rintro z H2 ⟨f, hf, p2, hR⟩
  have l2 := p2.len
  have hU2 := hU1.pre p2
  (repeat' first | simp -dsimp (disch := first | omega | assumption | (refine OkS.sto ?_ (by omega); first | assumption | (refine OkS.sto ?_ (by omega); first | assumption | (refine OkS.sto ?_ (by omega); first | assumption | (refine OkS.sto ?_ (by omega); first | assumption | (refine OkS.sto ?_ (by omega); first | assumption | (refine OkS.sto ?_ (by omega); first | assumption)))))) | exact Pfx.refl _ | (apply Pfx.snoc; repeat (first | exact Pfx.refl _ | assumption | apply Pfx.snoc)) | with_unfolding_all exact of_eq_true (eq_true rfl) | (simp only [List.length_append, List.length_cons, List.length_nil]; omega)) only [↓wpre0, ↓wpre1, ↓reduceIte, Int.reduceToNat, Nat.reduceAdd, Nat.reduceMul, Nat.reduceEqDiff, wpost0, wpost1, wpost2, wpost3, wpost4, ite_self, ite_true, ite_false, if_true, if_false, xlen24, tze29, xst29, xfad29_1, xld2, xfad29_0, bin_add, un_not, xlen31, bin_neq, bin_lss, xbld29_0_1, xiad31, xld34, bin_geq, xcv34_45, bin_fadd, bin_fgtr, bin_feql, xlen41, xiad41, bin_eql, xcv2_45, bin_fmul, xbneq4, bin_gtr, fr3, wrap_int, wrap_u8, iteP_yes, iteP_no] | refine iteP_two (fun hc hd => ?_) (fun hc hd => ?_) | refine iteP_intro (fun hc => ?_) (fun hc => ?_))
  refine cf_rel (TenD_c hX hU2 (by omega) (by omega) (by omega)) (fun q => by cases q) ?_
  rintro _ H2 ⟨a, b, ha, hb, rfl, e1⟩
  subst e1
  have hd : ∀ j : Nat, j ≤ 4 → dirB ((a : Int) - 35 + (j : Int)) ((b : Int) - 35) = true := fun j hj => dir_71 ha hb hj
  have ur : -35 ≤ (a : Int) - 35 ∧ (a : Int) - 35 ≤ 35 := by omega
  generalize (a : Int) - 35 = u at *
  generalize (b : Int) - 35 = v at *
  (repeat' first | simp -dsimp (disch := first | omega | assumption | (refine OkS.sto ?_ (by omega); first | assumption | (refine OkS.sto ?_ (by omega); first | assumption | (refine OkS.sto ?_ (by omega); first | assumption | (refine OkS.sto ?_ (by omega); first | assumption | (refine OkS.sto ?_ (by omega); first | assumption | (refine OkS.sto ?_ (by omega); first | assumption)))))) | exact Pfx.refl _ | (apply Pfx.snoc; repeat (first | exact Pfx.refl _ | assumption | apply Pfx.snoc)) | with_unfolding_all exact of_eq_true (eq_true rfl) | (simp only [List.length_append, List.length_cons, List.length_nil]; omega)) only [↓thenQ_normal, ↓thenQ_exit, ↓thenQ_ret, ↓blockQ_normal, ↓blockQ_exit, ↓blockQ_ret, ↓o_plain, ↓o_nil, ↓o_guard, ↓gvl_zero, ↓gvl_succ, ↓p_move, ↓p_assign, ↓p_pick, ↓p_binOp, ↓p_unOp, ↓wpre1, ↓reduceIte, Int.reduceToNat, Nat.reduceAdd, Nat.reduceMul, Nat.reduceEqDiff, wpost0, wpost1, wpost2, wpost3, wpost4, ite_self, ite_true, ite_false, if_true, if_false, xlen24, tze29, xst29, xfad29_1, xld2, xfad29_0, bin_add, un_not, xlen31, bin_neq, bin_lss, xbld29_0_1, xiad31, xld34, bin_geq, xcv34_45, bin_fadd, bin_fgtr, bin_feql, xlen41, xiad41, bin_eql, xcv2_45, bin_fmul, xbneq4, bin_gtr, fr3, wrap_int, wrap_u8, iteP_yes, iteP_no] | refine iteP_two (fun hc hd => ?_) (fun hc hd => ?_) | refine iteP_intro (fun hc => ?_) (fun hc => ?_))
  obtain ⟨G1, hG1⟩ : ∃ G, G = H2 ++ [(⟨29, [.int .i64 u, .int .i64 v]⟩ : Blk)] := ⟨_, rfl⟩
  have pG1 : Pfx H2 G1 := by rw [hG1]; exact (Pfx.refl H2).snoc
  have lG1 : G1.length = H2.length + 1 := by rw [hG1]; simp
  have dG1 : G1[H2.length]? = some ⟨29, [.int .i64 u, .int .i64 v]⟩ := by rw [hG1]; exact get_last rfl
  have cu : cell G1 H2.length 0 = some (.int .i64 u) := cellb dG1
  have cv : cell G1 H2.length 1 = some (.int .i64 v) := cellb dG1
  rw [← hG1]
  have k : PW ro G1 (.slice (some ⟨yb, 0, none⟩) n yc) z n l f := ⟨hg, ⟨yb, yb + 1, by omega, hI.pre (p2.trans pG1)⟩, fun _ => by show (G1[yb]?).map Blk.ty = _; rw [(p2.trans pG1).get hyb1, hD]; rfl, ⟨_, hR.pre pG1⟩, fun i _ => hf i⟩
  (repeat' first | simp -dsimp (disch := first | omega | assumption | (refine OkS.sto ?_ (by omega); first | assumption | (refine OkS.sto ?_ (by omega); first | assumption | (refine OkS.sto ?_ (by omega); first | assumption | (refine OkS.sto ?_ (by omega); first | assumption | (refine OkS.sto ?_ (by omega); first | assumption | (refine OkS.sto ?_ (by omega); first | assumption)))))) | exact Pfx.refl _ | (apply Pfx.snoc; repeat (first | exact Pfx.refl _ | assumption | apply Pfx.snoc)) | with_unfolding_all exact of_eq_true (eq_true rfl) | (simp only [List.length_append, List.length_cons, List.length_nil]; omega)) only [↓wpre0, ↓wpre1, ↓reduceIte, Int.reduceToNat, Nat.reduceAdd, Nat.reduceMul, Nat.reduceEqDiff, wpost0, wpost1, wpost2, wpost3, wpost4, ite_self, ite_true, ite_false, if_true, if_false, xlen24, tze29, xst29, xfad29_1, xld2, xfad29_0, bin_add, un_not, xlen31, bin_neq, bin_lss, xbld29_0_1, xiad31, xld34, bin_geq, xcv34_45, bin_fadd, bin_fgtr, bin_feql, xlen41, xiad41, bin_eql, xcv2_45, bin_fmul, xbneq4, bin_gtr, fr3, wrap_int, wrap_u8, iteP_yes, iteP_no, cu, cv] | refine iteP_two (fun hc hd => ?_) (fun hc hd => ?_) | refine iteP_intro (fun hc => ?_) (fun hc => ?_))
  refine cf_rel (CutOf_c hX hA k hd (by omega)) (fun q => by cases q) ?_
  rintro _ G2 ⟨zc, rfl, p3, hZc⟩
  have lG2 := p3.len
  have k2 := k.pre p3
  have cu2 : cell G2 H2.length 0 = some (.int .i64 u) := cellb ((p3.get (by omega)).trans dG1)
  have cv2 : cell G2 H2.length 1 = some (.int .i64 v) := cellb ((p3.get (by omega)).trans dG1)
  have hZv : VS G1.length G2.length 1 G2 zc 5 (pwV f l n u v 5) := hZc.vsl
  have hVG := hV.pre (p1.trans (p2.trans (pG1.trans p3)))
  (repeat' first | simp -dsimp (disch := first | omega | assumption | (refine OkS.sto ?_ (by omega); first | assumption | (refine OkS.sto ?_ (by omega); first | assumption | (refine OkS.sto ?_ (by omega); first | assumption | (refine OkS.sto ?_ (by omega); first | assumption | (refine OkS.sto ?_ (by omega); first | assumption | (refine OkS.sto ?_ (by omega); first | assumption)))))) | exact Pfx.refl _ | (apply Pfx.snoc; repeat (first | exact Pfx.refl _ | assumption | apply Pfx.snoc)) | with_unfolding_all exact of_eq_true (eq_true rfl) | (simp only [List.length_append, List.length_cons, List.length_nil]; omega)) only [↓wpre0, ↓wpre1, ↓reduceIte, Int.reduceToNat, Nat.reduceAdd, Nat.reduceMul, Nat.reduceEqDiff, wpost0, wpost1, wpost2, wpost3, wpost4, ite_self, ite_true, ite_false, if_true, if_false, xlen24, tze29, xst29, xfad29_1, xld2, xfad29_0, bin_add, un_not, xlen31, bin_neq, bin_lss, xbld29_0_1, xiad31, xld34, bin_geq, xcv34_45, bin_fadd, bin_fgtr, bin_feql, xlen41, xiad41, bin_eql, xcv2_45, bin_fmul, xbneq4, bin_gtr, fr3, wrap_int, wrap_u8, iteP_yes, iteP_no, cu, cv, hZv.len Try.underlying31] | refine iteP_two (fun hc hd => ?_) (fun hc hd => ?_) | refine iteP_intro (fun hc => ?_) (fun hc => ?_))
  refine loop_exit 0 (fun e h' => h' = G2 ∧ e 0 = x) ?_ ?_
  · refine loop_rounds (fun mm e h' => ∃ i : Nat, mm = 5 - i ∧ i ≤ 5 ∧ h' = G2 ∧ e 0 = x ∧ e 5 = .slice (some ⟨yb, 0, none⟩) n yc ∧ e 6 = z ∧ e 7 = .pointer (some ⟨H2.length, 0, none⟩) ∧ e 8 = zc ∧ e 10 = .int .i64 i) _ ⟨0, rfl, ?_⟩ ?_
    · simp only [updO_at, updO_not, entry_at, List.getD_cons_zero, List.getD_cons_succ, ↓reduceIte, Nat.reduceEqDiff, true_and, and_true]
      (repeat' (first | assumption | rfl | omega | refine And.intro ?_ ?_))
    · rintro mm e h' ⟨i, hmm, hle, rfl, g0, g5, g6, g7, g8, g10⟩
      have hks := toNat_succ i
      by_cases hi5 : i < 5
      · have hdi := hd i (by omega)
        have hpa := PowerAt_r (ro := ro) hX hA k2 hdi (by omega)
        have hsm := SameS_r (ro := ro) hX hB (poF_bd k2.g hdi k2.bd).2.notNaN h'
        have hldz : ld Try.prog h' 34 (ea zc (i * 1)) = some (.float .f32 (poF f l n (u + (i : Int)) v)) := by
          rw [hZv.ld1 tsz34 tag34 (by omega), Nat.mul_one, pwV_at hi5]
        (repeat' first | simp -dsimp (disch := first | omega | assumption | (refine OkS.sto ?_ (by omega); first | assumption | (refine OkS.sto ?_ (by omega); first | assumption | (refine OkS.sto ?_ (by omega); first | assumption | (refine OkS.sto ?_ (by omega); first | assumption | (refine OkS.sto ?_ (by omega); first | assumption | (refine OkS.sto ?_ (by omega); first | assumption)))))) | exact Pfx.refl _ | (apply Pfx.snoc; repeat (first | exact Pfx.refl _ | assumption | apply Pfx.snoc)) | with_unfolding_all exact of_eq_true (eq_true rfl) | (simp only [List.length_append, List.length_cons, List.length_nil]; omega)) only [↓wpre0, ↓wpre1, ↓reduceIte, Int.reduceToNat, Nat.reduceAdd, Nat.reduceMul, Nat.reduceEqDiff, wpost0, wpost1, wpost2, wpost3, wpost4, ite_self, ite_true, ite_false, if_true, if_false, xlen24, tze29, xst29, xfad29_1, xld2, xfad29_0, bin_add, un_not, xlen31, bin_neq, bin_lss, xbld29_0_1, xiad31, xld34, bin_geq, xcv34_45, bin_fadd, bin_fgtr, bin_feql, xlen41, xiad41, bin_eql, xcv2_45, bin_fmul, xbneq4, bin_gtr, fr3, wrap_int, wrap_u8, iteP_yes, iteP_no, g0, g5, g6, g7, g8, g10, cu2, cv2, hpa, hsm, hZv.iad Try.underlying31 tsz34, hldz] | refine iteP_two (fun hc hd => ?_) (fun hc hd => ?_) | refine iteP_intro (fun hc => ?_) (fun hc => ?_))
        exact ⟨5 - (i + 1), by omega, i + 1, rfl, by omega, by rw [hks]⟩
      · have hi5' : ¬ (i : Int) < 5 := by omega
        (repeat' first | simp -dsimp (disch := first | omega | assumption | (refine OkS.sto ?_ (by omega); first | assumption | (refine OkS.sto ?_ (by omega); first | assumption | (refine OkS.sto ?_ (by omega); first | assumption | (refine OkS.sto ?_ (by omega); first | assumption | (refine OkS.sto ?_ (by omega); first | assumption | (refine OkS.sto ?_ (by omega); first | assumption)))))) | exact Pfx.refl _ | (apply Pfx.snoc; repeat (first | exact Pfx.refl _ | assumption | apply Pfx.snoc)) | with_unfolding_all exact of_eq_true (eq_true rfl) | (simp only [List.length_append, List.length_cons, List.length_nil]; omega)) only [↓wpre0, ↓wpre1, ↓reduceIte, Int.reduceToNat, Nat.reduceAdd, Nat.reduceMul, Nat.reduceEqDiff, wpost0, wpost1, wpost2, wpost3, wpost4, ite_self, ite_true, ite_false, if_true, if_false, xlen24, tze29, xst29, xfad29_1, xld2, xfad29_0, bin_add, un_not, xlen31, bin_neq, bin_lss, xbld29_0_1, xiad31, xld34, bin_geq, xcv34_45, bin_fadd, bin_fgtr, bin_feql, xlen41, xiad41, bin_eql, xcv2_45, bin_fmul, xbneq4, bin_gtr, fr3, wrap_int, wrap_u8, iteP_yes, iteP_no, g0, g5, g6, g7, g8, g10] | refine iteP_two (fun hc hd => ?_) (fun hc hd => ?_) | refine iteP_intro (fun hc => ?_) (fun hc => ?_))
  · rintro e h' ⟨rfl, g0⟩
    (repeat' first | simp -dsimp (disch := first | omega | assumption | (refine OkS.sto ?_ (by omega); first | assumption | (refine OkS.sto ?_ (by omega); first | assumption | (refine OkS.sto ?_ (by omega); first | assumption | (refine OkS.sto ?_ (by omega); first | assumption | (refine OkS.sto ?_ (by omega); first | assumption | (refine OkS.sto ?_ (by omega); first | assumption)))))) | exact Pfx.refl _ | (apply Pfx.snoc; repeat (first | exact Pfx.refl _ | assumption | apply Pfx.snoc)) | with_unfolding_all exact of_eq_true (eq_true rfl) | (simp only [List.length_append, List.length_cons, List.length_nil]; omega)) only [↓wpre0, ↓wpre1, ↓reduceIte, Int.reduceToNat, Nat.reduceAdd, Nat.reduceMul, Nat.reduceEqDiff, wpost0, wpost1, wpost2, wpost3, wpost4, ite_self, ite_true, ite_false, if_true, if_false, xlen24, tze29, xst29, xfad29_1, xld2, xfad29_0, bin_add, un_not, xlen31, bin_neq, bin_lss, xbld29_0_1, xiad31, xld34, bin_geq, xcv34_45, bin_fadd, bin_fgtr, bin_feql, xlen41, xiad41, bin_eql, xcv2_45, bin_fmul, xbneq4, bin_gtr, fr3, wrap_int, wrap_u8, iteP_yes, iteP_no, g0] | refine iteP_two (fun hc hd => ?_) (fun hc hd => ?_) | refine iteP_intro (fun hc => ?_) (fun hc => ?_))
    refine cf_rel (Cut_c hX hVG (by omega) (by omega) (by omega)) (fun q => by cases q) ?_
    rintro r G3 ⟨L, hL1, p4, hC⟩
    have hn := hC.n
    have hL := hC.s
    have lG3 := p4.len
    have hlt := pkN_lt (cn L) L.length (by omega)
    (repeat' first | simp -dsimp (disch := first | omega | assumption | (refine OkS.sto ?_ (by omega); first | assumption | (refine OkS.sto ?_ (by omega); first | assumption | (refine OkS.sto ?_ (by omega); first | assumption | (refine OkS.sto ?_ (by omega); first | assumption | (refine OkS.sto ?_ (by omega); first | assumption | (refine OkS.sto ?_ (by omega); first | assumption)))))) | exact Pfx.refl _ | (apply Pfx.snoc; repeat (first | exact Pfx.refl _ | assumption | apply Pfx.snoc)) | with_unfolding_all exact of_eq_true (eq_true rfl) | (simp only [List.length_append, List.length_cons, List.length_nil]; omega)) only [↓wpre0, ↓wpre1, ↓reduceIte, Int.reduceToNat, Nat.reduceAdd, Nat.reduceMul, Nat.reduceEqDiff, wpost0, wpost1, wpost2, wpost3, wpost4, ite_self, ite_true, ite_false, if_true, if_false, xlen24, tze29, xst29, xfad29_1, xld2, xfad29_0, bin_add, un_not, xlen31, bin_neq, bin_lss, xbld29_0_1, xiad31, xld34, bin_geq, xcv34_45, bin_fadd, bin_fgtr, bin_feql, xlen41, xiad41, bin_eql, xcv2_45, bin_fmul, xbneq4, bin_gtr, fr3, wrap_int, wrap_u8, iteP_yes, iteP_no, hC.len, Peak_r hX hC hL1] | refine iteP_two (fun hc hd => ?_) (fun hc hd => ?_) | refine iteP_intro (fun hc => ?_) (fun hc => ?_))
    refine cf_rel (Lobes_c hX hC hL1 (by omega)) (fun q => by cases q) ?_
    rintro _ G4 ⟨yl, rfl, p5, hYl⟩
    have lG4 := p5.len
    (repeat' first | simp -dsimp (disch := first | omega | assumption | (refine OkS.sto ?_ (by omega); first | assumption | (refine OkS.sto ?_ (by omega); first | assumption | (refine OkS.sto ?_ (by omega); first | assumption | (refine OkS.sto ?_ (by omega); first | assumption | (refine OkS.sto ?_ (by omega); first | assumption | (refine OkS.sto ?_ (by omega); first | assumption)))))) | exact Pfx.refl _ | (apply Pfx.snoc; repeat (first | exact Pfx.refl _ | assumption | apply Pfx.snoc)) | with_unfolding_all exact of_eq_true (eq_true rfl) | (simp only [List.length_append, List.length_cons, List.length_nil]; omega)) only [↓wpre0, ↓wpre1, ↓reduceIte, Int.reduceToNat, Nat.reduceAdd, Nat.reduceMul, Nat.reduceEqDiff, wpost0, wpost1, wpost2, wpost3, wpost4, ite_self, ite_true, ite_false, if_true, if_false, xlen24, tze29, xst29, xfad29_1, xld2, xfad29_0, bin_add, un_not, xlen31, bin_neq, bin_lss, xbld29_0_1, xiad31, xld34, bin_geq, xcv34_45, bin_fadd, bin_fgtr, bin_feql, xlen41, xiad41, bin_eql, xcv2_45, bin_fmul, xbneq4, bin_gtr, fr3, wrap_int, wrap_u8, iteP_yes, iteP_no] | refine iteP_two (fun hc hd => ?_) (fun hc hd => ?_) | refine iteP_intro (fun hc => ?_) (fun hc => ?_))
    refine cf_rel (Dips_c hX (hC.pre p5) hL1 (by omega)) (fun q => by cases q) ?_
    rintro _ G5 ⟨yd, rfl, p6, hYd⟩
    have lG5 := p6.len
    have hC5 := (hC.pre p5).pre p6
    have hmean := Mean_r (ro := ro) hX hC5 hL1
    (repeat' first | simp -dsimp (disch := first | omega | assumption | (refine OkS.sto ?_ (by omega); first | assumption | (refine OkS.sto ?_ (by omega); first | assumption | (refine OkS.sto ?_ (by omega); first | assumption | (refine OkS.sto ?_ (by omega); first | assumption | (refine OkS.sto ?_ (by omega); first | assumption | (refine OkS.sto ?_ (by omega); first | assumption)))))) | exact Pfx.refl _ | (apply Pfx.snoc; repeat (first | exact Pfx.refl _ | assumption | apply Pfx.snoc)) | with_unfolding_all exact of_eq_true (eq_true rfl) | (simp only [List.length_append, List.length_cons, List.length_nil]; omega)) only [↓thenQ_normal, ↓thenQ_exit, ↓thenQ_ret, ↓blockQ_normal, ↓blockQ_exit, ↓blockQ_ret, ↓o_plain, ↓o_nil, ↓o_guard, ↓gvl_zero, ↓gvl_succ, ↓p_move, ↓p_assign, ↓p_pick, ↓p_binOp, ↓p_unOp, ↓wpre1, ↓reduceIte, Int.reduceToNat, Nat.reduceAdd, Nat.reduceMul, Nat.reduceEqDiff, wpost0, wpost1, wpost2, wpost3, wpost4, ite_self, ite_true, ite_false, if_true, if_false, xlen24, tze29, xst29, xfad29_1, xld2, xfad29_0, bin_add, un_not, xlen31, bin_neq, bin_lss, xbld29_0_1, xiad31, xld34, bin_geq, xcv34_45, bin_fadd, bin_fgtr, bin_feql, xlen41, xiad41, bin_eql, xcv2_45, bin_fmul, xbneq4, bin_gtr, fr3, wrap_int, wrap_u8, iteP_yes, iteP_no] | refine iteP_two (fun hc hd => ?_) (fun hc hd => ?_) | refine iteP_intro (fun hc => ?_) (fun hc => ?_))
    refine env_go (fun e h2 => h2 = G5 ∧ e 13 = r ∧ e 14 = .int .i64 L.length ∧ e 15 = .int .i64 (pkN (cn L) L.length : Nat) ∧ e 16 = .bool true ∧ e 17 = yl ∧ e 18 = .bool true ∧ e 19 = yd ∧ e 20 = .bool true) ?_ ?_
    · simp only [updO_at, updO_not, entry_at, List.getD_cons_zero, List.getD_cons_succ, ↓reduceIte, Nat.reduceEqDiff, true_and, and_true]
      (repeat' (first | assumption | rfl | omega | refine And.intro ?_ ?_))
    rintro e h' ⟨rfl, g13, g14, g15, g16, g17, g18, g19, g20⟩
    have hlt1 : ¬ ((pkN (cn L) L.length : Nat) : Int) < 0 := by omega
    have hlt2 : ¬ (L.length : Int) ≤ ((pkN (cn L) L.length : Nat) : Int) := by omega
    have hmax := pkN_max (cn L) L.length
    have hfst := pkN_first (cn L) L.length
    have hmem := peak_mem hL1
    have hlv0 := fun hp => Levels0_r (ro := ro) hX hF hC5 hL1 hp
    have hlv := fun hp hro => Levels_c (ro := ro) hX hF hC5 hL1 hp hro
    obtain ⟨p, hp⟩ : ∃ p, p = pkN (cn L) L.length := ⟨_, rfl⟩
    rw [← hp] at hlt hlt1 hlt2 hmax hfst hmem hlv0 hlv g15
    obtain ⟨mb, hmb⟩ : ∃ mb, mb = nr (mnW (smN L L.length) L.length) := ⟨_, rfl⟩
    rw [← hmb] at hmean
    (repeat' first | simp -dsimp (disch := first | omega | assumption | (refine OkS.sto ?_ (by omega); first | assumption | (refine OkS.sto ?_ (by omega); first | assumption | (refine OkS.sto ?_ (by omega); first | assumption | (refine OkS.sto ?_ (by omega); first | assumption | (refine OkS.sto ?_ (by omega); first | assumption | (refine OkS.sto ?_ (by omega); first | assumption)))))) | exact Pfx.refl _ | (apply Pfx.snoc; repeat (first | exact Pfx.refl _ | assumption | apply Pfx.snoc)) | with_unfolding_all exact of_eq_true (eq_true rfl) | (simp only [List.length_append, List.length_cons, List.length_nil]; omega)) only [↓wpre0, ↓wpre1, ↓reduceIte, Int.reduceToNat, Nat.reduceAdd, Nat.reduceMul, Nat.reduceEqDiff, wpost0, wpost1, wpost2, wpost3, wpost4, ite_self, ite_true, ite_false, if_true, if_false, xlen24, tze29, xst29, xfad29_1, xld2, xfad29_0, bin_add, un_not, xlen31, bin_neq, bin_lss, xbld29_0_1, xiad31, xld34, bin_geq, xcv34_45, bin_fadd, bin_fgtr, bin_feql, xlen41, xiad41, bin_eql, xcv2_45, bin_fmul, xbneq4, bin_gtr, fr3, wrap_int, wrap_u8, iteP_yes, iteP_no, g13, g14, g15, g16, g17, g18, g19, g20, hmean, decide_eq_false hlt1, decide_eq_false hlt2] | refine iteP_two (fun hc hd => ?_) (fun hc hd => ?_) | refine iteP_intro (fun hc => ?_) (fun hc => ?_))
    refine loop_exit 2 (fun e h2 => h2 = h' ∧ e 13 = r ∧ e 14 = .int .i64 L.length ∧ e 15 = .int .i64 p ∧ e 17 = yl ∧ e 19 = yd ∧ e 21 = .float .f32 mb ∧ e 23 = .float .f64 (sW (smN L L.length)) ∧ e 24 = .bool false) ?_ ?_
    · refine loop_rounds (fun mm e h2 => ∃ i : Nat, mm = L.length - i ∧ i ≤ L.length ∧ h2 = h' ∧ e 13 = r ∧ e 14 = .int .i64 L.length ∧ e 15 = .int .i64 p ∧ e 17 = yl ∧ e 19 = yd ∧ e 21 = .float .f32 mb ∧ e 23 = .float .f64 (sW (smN L i)) ∧ e 24 = .bool false ∧ e 25 = .int .i64 i) _ ⟨0, rfl, ?_⟩ ?_
      · simp only [updO_at, updO_not, entry_at, List.getD_cons_zero, List.getD_cons_succ, ↓reduceIte, Nat.reduceEqDiff, true_and, and_true]
        have e0 : sW (smN L 0) = 0 := zero_S
        rw [e0]
        (repeat' (first | assumption | rfl | omega | refine And.intro ?_ ?_))
      · rintro mm e h2 ⟨i, hmm, hle, rfl, g13, g14, g15, g17, g19, g21, g23, g24, g25⟩
        have hks := toNat_succ i
        by_cases hin : i < L.length
        · obtain ⟨st, ok⟩ := sum_step hL (show i ≤ 12 by omega)
          have c1 : decide (cn L p < cn L i) = false := decide_eq_false (by have := hmax i hin; omega)
          by_cases hip : i < p
          · have c2 : decide (cn L i = cn L p) = false := decide_eq_false (by have := hfst i hip; omega)
            (repeat' first | simp -dsimp (disch := first | omega | assumption | (refine OkS.sto ?_ (by omega); first | assumption | (refine OkS.sto ?_ (by omega); first | assumption | (refine OkS.sto ?_ (by omega); first | assumption | (refine OkS.sto ?_ (by omega); first | assumption | (refine OkS.sto ?_ (by omega); first | assumption | (refine OkS.sto ?_ (by omega); first | assumption)))))) | exact Pfx.refl _ | (apply Pfx.snoc; repeat (first | exact Pfx.refl _ | assumption | apply Pfx.snoc)) | with_unfolding_all exact of_eq_true (eq_true rfl) | (simp only [List.length_append, List.length_cons, List.length_nil]; omega)) only [↓wpre0, ↓wpre1, ↓reduceIte, Int.reduceToNat, Nat.reduceAdd, Nat.reduceMul, Nat.reduceEqDiff, wpost0, wpost1, wpost2, wpost3, wpost4, ite_self, ite_true, ite_false, if_true, if_false, xlen24, tze29, xst29, xfad29_1, xld2, xfad29_0, bin_add, un_not, xlen31, bin_neq, bin_lss, xbld29_0_1, xiad31, xld34, bin_geq, xcv34_45, bin_fadd, bin_fgtr, bin_feql, xlen41, xiad41, bin_eql, xcv2_45, bin_fmul, xbneq4, bin_gtr, fr3, wrap_int, wrap_u8, iteP_yes, iteP_no, g13, g14, g15, g17, g19, g21, g23, g24, g25, hC5.iad, hC5.ld, cv_w ok, st, lt_cn hL, c1, eq_cn hL, c2] | refine iteP_two (fun hc hd => ?_) (fun hc hd => ?_) | refine iteP_intro (fun hc => ?_) (fun hc => ?_))
            exact ⟨L.length - (i + 1), by omega, i + 1, rfl, by omega, rfl, by rw [hks]⟩
          · have c2 : decide ((i : Int) < (p : Int)) = false := decide_eq_false (by omega)
            (repeat' first | simp -dsimp (disch := first | omega | assumption | (refine OkS.sto ?_ (by omega); first | assumption | (refine OkS.sto ?_ (by omega); first | assumption | (refine OkS.sto ?_ (by omega); first | assumption | (refine OkS.sto ?_ (by omega); first | assumption | (refine OkS.sto ?_ (by omega); first | assumption | (refine OkS.sto ?_ (by omega); first | assumption)))))) | exact Pfx.refl _ | (apply Pfx.snoc; repeat (first | exact Pfx.refl _ | assumption | apply Pfx.snoc)) | with_unfolding_all exact of_eq_true (eq_true rfl) | (simp only [List.length_append, List.length_cons, List.length_nil]; omega)) only [↓wpre0, ↓wpre1, ↓reduceIte, Int.reduceToNat, Nat.reduceAdd, Nat.reduceMul, Nat.reduceEqDiff, wpost0, wpost1, wpost2, wpost3, wpost4, ite_self, ite_true, ite_false, if_true, if_false, xlen24, tze29, xst29, xfad29_1, xld2, xfad29_0, bin_add, un_not, xlen31, bin_neq, bin_lss, xbld29_0_1, xiad31, xld34, bin_geq, xcv34_45, bin_fadd, bin_fgtr, bin_feql, xlen41, xiad41, bin_eql, xcv2_45, bin_fmul, xbneq4, bin_gtr, fr3, wrap_int, wrap_u8, iteP_yes, iteP_no, g13, g14, g15, g17, g19, g21, g23, g24, g25, hC5.iad, hC5.ld, cv_w ok, st, lt_cn hL, c1, c2] | refine iteP_two (fun hc hd => ?_) (fun hc hd => ?_) | refine iteP_intro (fun hc => ?_) (fun hc => ?_))
            exact ⟨L.length - (i + 1), by omega, i + 1, rfl, by omega, rfl, by rw [hks]⟩
        · have ei : i = L.length := by omega
          rw [ei] at g23 g25
          (repeat' first | simp -dsimp (disch := first | omega | assumption | (refine OkS.sto ?_ (by omega); first | assumption | (refine OkS.sto ?_ (by omega); first | assumption | (refine OkS.sto ?_ (by omega); first | assumption | (refine OkS.sto ?_ (by omega); first | assumption | (refine OkS.sto ?_ (by omega); first | assumption | (refine OkS.sto ?_ (by omega); first | assumption)))))) | exact Pfx.refl _ | (apply Pfx.snoc; repeat (first | exact Pfx.refl _ | assumption | apply Pfx.snoc)) | with_unfolding_all exact of_eq_true (eq_true rfl) | (simp only [List.length_append, List.length_cons, List.length_nil]; omega)) only [↓wpre0, ↓wpre1, ↓reduceIte, Int.reduceToNat, Nat.reduceAdd, Nat.reduceMul, Nat.reduceEqDiff, wpost0, wpost1, wpost2, wpost3, wpost4, ite_self, ite_true, ite_false, if_true, if_false, xlen24, tze29, xst29, xfad29_1, xld2, xfad29_0, bin_add, un_not, xlen31, bin_neq, bin_lss, xbld29_0_1, xiad31, xld34, bin_geq, xcv34_45, bin_fadd, bin_fgtr, bin_feql, xlen41, xiad41, bin_eql, xcv2_45, bin_fmul, xbneq4, bin_gtr, fr3, wrap_int, wrap_u8, iteP_yes, iteP_no, g13, g14, g15, g17, g19, g21, g23, g24, g25] | refine iteP_two (fun hc hd => ?_) (fun hc hd => ?_) | refine iteP_intro (fun hc => ?_) (fun hc => ?_))
    · clear g13 g14 g15 g16 g17 g18 g19 g20
      rintro e h2 ⟨rfl, g13, g14, g15, g17, g19, g21, g23, g24⟩
      have hIl := (hYl.pre p6).vs.is
      have hId := hYd.vs.is
      (repeat' first | simp -dsimp (disch := first | omega | assumption | (refine OkS.sto ?_ (by omega); first | assumption | (refine OkS.sto ?_ (by omega); first | assumption | (refine OkS.sto ?_ (by omega); first | assumption | (refine OkS.sto ?_ (by omega); first | assumption | (refine OkS.sto ?_ (by omega); first | assumption | (refine OkS.sto ?_ (by omega); first | assumption)))))) | exact Pfx.refl _ | (apply Pfx.snoc; repeat (first | exact Pfx.refl _ | assumption | apply Pfx.snoc)) | with_unfolding_all exact of_eq_true (eq_true rfl) | (simp only [List.length_append, List.length_cons, List.length_nil]; omega)) only [↓wpre0, ↓wpre1, ↓reduceIte, Int.reduceToNat, Nat.reduceAdd, Nat.reduceMul, Nat.reduceEqDiff, wpost0, wpost1, wpost2, wpost3, wpost4, ite_self, ite_true, ite_false, if_true, if_false, xlen24, tze29, xst29, xfad29_1, xld2, xfad29_0, bin_add, un_not, xlen31, bin_neq, bin_lss, xbld29_0_1, xiad31, xld34, bin_geq, xcv34_45, bin_fadd, bin_fgtr, bin_feql, xlen41, xiad41, bin_eql, xcv2_45, bin_fmul, xbneq4, bin_gtr, fr3, wrap_int, wrap_u8, iteP_yes, iteP_no, g13, g14, g15, g17, g19, g21, g23, g24, hIl.len Try.underlying41] | refine iteP_two (fun hc hd => ?_) (fun hc hd => ?_) | refine iteP_intro (fun hc => ?_) (fun hc => ?_))
      refine loop_exit 4 (fun e h3 => h3 = h2 ∧ e 13 = r ∧ e 14 = .int .i64 L.length ∧ e 15 = .int .i64 p ∧ e 17 = yl ∧ e 19 = yd ∧ e 21 = .float .f32 mb ∧ e 23 = .float .f64 (sW (smN L L.length)) ∧ e 24 = .bool true) ?_ ?_
      · refine loop_rounds (fun mm e h3 => ∃ j : Nat, mm = (runL ltN L).length - j ∧ j ≤ (runL ltN L).length ∧ h3 = h2 ∧ e 13 = r ∧ e 14 = .int .i64 L.length ∧ e 15 = .int .i64 p ∧ e 17 = yl ∧ e 19 = yd ∧ e 21 = .float .f32 mb ∧ e 23 = .float .f64 (sW (smN L L.length)) ∧ e 24 = .bool (fnd (runL ltN L) p j) ∧ e 174 = .int .i64 (runL ltN L).length ∧ e 175 = .int .i64 j) _ ⟨0, rfl, ?_⟩ ?_
        · simp only [updO_at, updO_not, entry_at, List.getD_cons_zero, List.getD_cons_succ, ↓reduceIte, Nat.reduceEqDiff, true_and, and_true]
          exact ⟨Nat.zero_le _, g13, g14, g15, g17, g19, g21, g23, g24, rfl⟩
        · rintro mm e h3 ⟨j, hmm, hle, rfl, g13, g14, g15, g17, g19, g21, g23, g24, g174, g175⟩
          have hks := toNat_succ j
          have hrl : (runL ltN L).length ≤ L.length := by
            have := rnG_len (c := cn L) (far := ltN) (n := L.length) (L.length - 0) 0
            exact this
          by_cases hj : j < (runL ltN L).length
          · have hld := IS.ld1 (P := Try.prog) (t := 2) (c := j * 1) hIl tsz2 tag2 (by omega)
            have en : nth ((runL ltN L).map natI) (j * 1) = nth ((runL ltN L).map natI) j := by rw [Nat.mul_one]
            rw [en] at hld
            have ef : fnd (runL ltN L) p (j + 1) = (fnd (runL ltN L) p j || decide (nth ((runL ltN L).map natI) j = (p : Int))) := rfl
            cases hb : fnd (runL ltN L) p j with
            | true =>
              rw [hb] at g24 ef
              (repeat' first | simp -dsimp (disch := first | omega | assumption | (refine OkS.sto ?_ (by omega); first | assumption | (refine OkS.sto ?_ (by omega); first | assumption | (refine OkS.sto ?_ (by omega); first | assumption | (refine OkS.sto ?_ (by omega); first | assumption | (refine OkS.sto ?_ (by omega); first | assumption | (refine OkS.sto ?_ (by omega); first | assumption)))))) | exact Pfx.refl _ | (apply Pfx.snoc; repeat (first | exact Pfx.refl _ | assumption | apply Pfx.snoc)) | with_unfolding_all exact of_eq_true (eq_true rfl) | (simp only [List.length_append, List.length_cons, List.length_nil]; omega)) only [↓wpre0, ↓wpre1, ↓reduceIte, Int.reduceToNat, Nat.reduceAdd, Nat.reduceMul, Nat.reduceEqDiff, wpost0, wpost1, wpost2, wpost3, wpost4, ite_self, ite_true, ite_false, if_true, if_false, xlen24, tze29, xst29, xfad29_1, xld2, xfad29_0, bin_add, un_not, xlen31, bin_neq, bin_lss, xbld29_0_1, xiad31, xld34, bin_geq, xcv34_45, bin_fadd, bin_fgtr, bin_feql, xlen41, xiad41, bin_eql, xcv2_45, bin_fmul, xbneq4, bin_gtr, fr3, wrap_int, wrap_u8, iteP_yes, iteP_no, g13, g14, g15, g17, g19, g21, g23, g24, g174, g175] | refine iteP_two (fun hc hd => ?_) (fun hc hd => ?_) | refine iteP_intro (fun hc => ?_) (fun hc => ?_))
              refine ⟨(runL ltN L).length - (j + 1), by omega, j + 1, rfl, by omega, ?_⟩
              rw [ef, hks]
              exact ⟨rfl, rfl⟩
            | false =>
              rw [hb, Bool.false_or] at ef
              rw [hb] at g24
              (repeat' first | simp -dsimp (disch := first | omega | assumption | (refine OkS.sto ?_ (by omega); first | assumption | (refine OkS.sto ?_ (by omega); first | assumption | (refine OkS.sto ?_ (by omega); first | assumption | (refine OkS.sto ?_ (by omega); first | assumption | (refine OkS.sto ?_ (by omega); first | assumption | (refine OkS.sto ?_ (by omega); first | assumption)))))) | exact Pfx.refl _ | (apply Pfx.snoc; repeat (first | exact Pfx.refl _ | assumption | apply Pfx.snoc)) | with_unfolding_all exact of_eq_true (eq_true rfl) | (simp only [List.length_append, List.length_cons, List.length_nil]; omega)) only [↓wpre0, ↓wpre1, ↓reduceIte, Int.reduceToNat, Nat.reduceAdd, Nat.reduceMul, Nat.reduceEqDiff, wpost0, wpost1, wpost2, wpost3, wpost4, ite_self, ite_true, ite_false, if_true, if_false, xlen24, tze29, xst29, xfad29_1, xld2, xfad29_0, bin_add, un_not, xlen31, bin_neq, bin_lss, xbld29_0_1, xiad31, xld34, bin_geq, xcv34_45, bin_fadd, bin_fgtr, bin_feql, xlen41, xiad41, bin_eql, xcv2_45, bin_fmul, xbneq4, bin_gtr, fr3, wrap_int, wrap_u8, iteP_yes, iteP_no, g13, g14, g15, g17, g19, g21, g23, g24, g174, g175, hIl.iad Try.underlying41 tsz2, hld] | refine iteP_two (fun hc hd => ?_) (fun hc hd => ?_) | refine iteP_intro (fun hc => ?_) (fun hc => ?_))
              refine ⟨(runL ltN L).length - (j + 1), by omega, j + 1, rfl, by omega, ?_⟩
              rw [ef, hks]
              exact ⟨rfl, rfl⟩
          · have ej : j = (runL ltN L).length := by omega
            rw [ej, fnd_all hmem] at g24
            rw [ej] at g175
            (repeat' first | simp -dsimp (disch := first | omega | assumption | (refine OkS.sto ?_ (by omega); first | assumption | (refine OkS.sto ?_ (by omega); first | assumption | (refine OkS.sto ?_ (by omega); first | assumption | (refine OkS.sto ?_ (by omega); first | assumption | (refine OkS.sto ?_ (by omega); first | assumption | (refine OkS.sto ?_ (by omega); first | assumption)))))) | exact Pfx.refl _ | (apply Pfx.snoc; repeat (first | exact Pfx.refl _ | assumption | apply Pfx.snoc)) | with_unfolding_all exact of_eq_true (eq_true rfl) | (simp only [List.length_append, List.length_cons, List.length_nil]; omega)) only [↓wpre0, ↓wpre1, ↓reduceIte, Int.reduceToNat, Nat.reduceAdd, Nat.reduceMul, Nat.reduceEqDiff, wpost0, wpost1, wpost2, wpost3, wpost4, ite_self, ite_true, ite_false, if_true, if_false, xlen24, tze29, xst29, xfad29_1, xld2, xfad29_0, bin_add, un_not, xlen31, bin_neq, bin_lss, xbld29_0_1, xiad31, xld34, bin_geq, xcv34_45, bin_fadd, bin_fgtr, bin_feql, xlen41, xiad41, bin_eql, xcv2_45, bin_fmul, xbneq4, bin_gtr, fr3, wrap_int, wrap_u8, iteP_yes, iteP_no, g13, g14, g15, g17, g19, g21, g23, g24, g174, g175] | refine iteP_two (fun hc hd => ?_) (fun hc hd => ?_) | refine iteP_intro (fun hc => ?_) (fun hc => ?_))
      · clear g13 g14 g15 g17 g19 g21 g23 g24
        rintro e h3 ⟨rfl, g13, g14, g15, g17, g19, g21, g23, g24⟩
        have hm := mn_ok (m := smN L L.length) (by have := smN_le hL L.length; omega) hL1 hn
        unfold mnOk at hm
        simp only [Bool.and_eq_true, decide_eq_true_eq, ← hmb] at hm
        obtain ⟨⟨hm1', hm2⟩, hm3⟩ := hm
        have okb : okW mb := hm2
        have ecv : cf .f64 (FloatKind.f64.nearest (L.length : Int)) = sW L.length := rfl
        have hm3' : fcmp .lss .f64 4562254508917369340 (gapF (farith .mul .f64 (wd mb) (sW L.length)) (sW (smN L L.length))) = false := by simpa using hm3
        have r1 := Runs_r (ro := ro) hX hC5 true hIl
        have r2 := Runs_r (ro := ro) hX hC5 false hId
        have hgap := Gap_r (ro := ro) hX (farith .mul .f64 (wd mb) (sW L.length)) (sW (smN L L.length)) h3
        by_cases hp0 : cn L p = 0
        · have f4 : fcmp .lss .f32 0 (fS (cn L p)) = false := by rw [(fs_tab ⟨cn L p, Nat.lt_succ_of_le (hL p)⟩).2.2.2.1]; exact decide_eq_false (by show ¬ 0 < cn L p; omega)
          have hlv' := hlv0 hp0
          (repeat' first | simp -dsimp (disch := first | omega | assumption | (refine OkS.sto ?_ (by omega); first | assumption | (refine OkS.sto ?_ (by omega); first | assumption | (refine OkS.sto ?_ (by omega); first | assumption | (refine OkS.sto ?_ (by omega); first | assumption | (refine OkS.sto ?_ (by omega); first | assumption | (refine OkS.sto ?_ (by omega); first | assumption)))))) | exact Pfx.refl _ | (apply Pfx.snoc; repeat (first | exact Pfx.refl _ | assumption | apply Pfx.snoc)) | with_unfolding_all exact of_eq_true (eq_true rfl) | (simp only [List.length_append, List.length_cons, List.length_nil]; omega)) only [↓wpre0, ↓wpre1, ↓reduceIte, Int.reduceToNat, Nat.reduceAdd, Nat.reduceMul, Nat.reduceEqDiff, wpost0, wpost1, wpost2, wpost3, wpost4, ite_self, ite_true, ite_false, if_true, if_false, xlen24, tze29, xst29, xfad29_1, xld2, xfad29_0, bin_add, un_not, xlen31, bin_neq, bin_lss, xbld29_0_1, xiad31, xld34, bin_geq, xcv34_45, bin_fadd, bin_fgtr, bin_feql, xlen41, xiad41, bin_eql, xcv2_45, bin_fmul, xbneq4, bin_gtr, fr3, wrap_int, wrap_u8, iteP_yes, iteP_no, g13, g14, g15, g17, g19, g21, g23, g24, cv_w okb, conv_if Try.underlying2 Try.underlying45, ecv, hgap, hm3', r1, r2, hlv', hC5.iad, hC5.ld, f4] | refine iteP_two (fun hc hd => ?_) (fun hc hd => ?_) | refine iteP_intro (fun hc => ?_) (fun hc => ?_))
          refine loop_rounds (fun mm e h4 => h4 = h3 ∧ e 14 = .int .i64 L.length ∧ e 28 = .bool false ∧ e 29 = .int .i64 0) 0 ?_ ?_
          · simp only [updO_at, updO_not, entry_at, List.getD_cons_zero, List.getD_cons_succ, ↓reduceIte, Nat.reduceEqDiff, true_and, and_true]
            exact g14
          · rintro mm e h4 ⟨rfl, g14, g28, g29⟩
            have c0 : decide ((0 : Int) < (L.length : Int)) = true := decide_eq_true (by omega)
            (repeat' first | simp -dsimp (disch := first | omega | assumption | (refine OkS.sto ?_ (by omega); first | assumption | (refine OkS.sto ?_ (by omega); first | assumption | (refine OkS.sto ?_ (by omega); first | assumption | (refine OkS.sto ?_ (by omega); first | assumption | (refine OkS.sto ?_ (by omega); first | assumption | (refine OkS.sto ?_ (by omega); first | assumption)))))) | exact Pfx.refl _ | (apply Pfx.snoc; repeat (first | exact Pfx.refl _ | assumption | apply Pfx.snoc)) | with_unfolding_all exact of_eq_true (eq_true rfl) | (simp only [List.length_append, List.length_cons, List.length_nil]; omega)) only [↓wpre0, ↓wpre1, ↓reduceIte, Int.reduceToNat, Nat.reduceAdd, Nat.reduceMul, Nat.reduceEqDiff, wpost0, wpost1, wpost2, wpost3, wpost4, ite_self, ite_true, ite_false, if_true, if_false, xlen24, tze29, xst29, xfad29_1, xld2, xfad29_0, bin_add, un_not, xlen31, bin_neq, bin_lss, xbld29_0_1, xiad31, xld34, bin_geq, xcv34_45, bin_fadd, bin_fgtr, bin_feql, xlen41, xiad41, bin_eql, xcv2_45, bin_fmul, xbneq4, bin_gtr, fr3, wrap_int, wrap_u8, iteP_yes, iteP_no, g14, g28, g29, c0] | refine iteP_two (fun hc hd => ?_) (fun hc hd => ?_) | refine iteP_intro (fun hc => ?_) (fun hc => ?_))
        · have f4 : fcmp .lss .f32 0 (fS (cn L p)) = true := by rw [(fs_tab ⟨cn L p, Nat.lt_succ_of_le (hL p)⟩).2.2.2.1]; exact decide_eq_true (by show 0 < cn L p; omega)
          (repeat' first | simp -dsimp (disch := first | omega | assumption | (refine OkS.sto ?_ (by omega); first | assumption | (refine OkS.sto ?_ (by omega); first | assumption | (refine OkS.sto ?_ (by omega); first | assumption | (refine OkS.sto ?_ (by omega); first | assumption | (refine OkS.sto ?_ (by omega); first | assumption | (refine OkS.sto ?_ (by omega); first | assumption)))))) | exact Pfx.refl _ | (apply Pfx.snoc; repeat (first | exact Pfx.refl _ | assumption | apply Pfx.snoc)) | with_unfolding_all exact of_eq_true (eq_true rfl) | (simp only [List.length_append, List.length_cons, List.length_nil]; omega)) only [↓wpre0, ↓wpre1, ↓reduceIte, Int.reduceToNat, Nat.reduceAdd, Nat.reduceMul, Nat.reduceEqDiff, wpost0, wpost1, wpost2, wpost3, wpost4, ite_self, ite_true, ite_false, if_true, if_false, xlen24, tze29, xst29, xfad29_1, xld2, xfad29_0, bin_add, un_not, xlen31, bin_neq, bin_lss, xbld29_0_1, xiad31, xld34, bin_geq, xcv34_45, bin_fadd, bin_fgtr, bin_feql, xlen41, xiad41, bin_eql, xcv2_45, bin_fmul, xbneq4, bin_gtr, fr3, wrap_int, wrap_u8, iteP_yes, iteP_no, g13, g14, g15, g17, g19, g21, g23, g24, cv_w okb, conv_if Try.underlying2 Try.underlying45, ecv, hgap, hm3', r1, r2, hC5.iad, hC5.ld, f4] | refine iteP_two (fun hc hd => ?_) (fun hc hd => ?_) | refine iteP_intro (fun hc => ?_) (fun hc => ?_))
          refine cf_rel (hlv hp0 (by omega)) (fun q => by cases q) ?_
          rintro _ G6 ⟨zl, rfl, p7, hZl⟩
          have hC6 := hC5.pre p7
          have hIz := hZl.vs.is
          (repeat' first | simp -dsimp (disch := first | omega | assumption | (refine OkS.sto ?_ (by omega); first | assumption | (refine OkS.sto ?_ (by omega); first | assumption | (refine OkS.sto ?_ (by omega); first | assumption | (refine OkS.sto ?_ (by omega); first | assumption | (refine OkS.sto ?_ (by omega); first | assumption | (refine OkS.sto ?_ (by omega); first | assumption)))))) | exact Pfx.refl _ | (apply Pfx.snoc; repeat (first | exact Pfx.refl _ | assumption | apply Pfx.snoc)) | with_unfolding_all exact of_eq_true (eq_true rfl) | (simp only [List.length_append, List.length_cons, List.length_nil]; omega)) only [↓wpre0, ↓wpre1, ↓reduceIte, Int.reduceToNat, Nat.reduceAdd, Nat.reduceMul, Nat.reduceEqDiff, wpost0, wpost1, wpost2, wpost3, wpost4, ite_self, ite_true, ite_false, if_true, if_false, xlen24, tze29, xst29, xfad29_1, xld2, xfad29_0, bin_add, un_not, xlen31, bin_neq, bin_lss, xbld29_0_1, xiad31, xld34, bin_geq, xcv34_45, bin_fadd, bin_fgtr, bin_feql, xlen41, xiad41, bin_eql, xcv2_45, bin_fmul, xbneq4, bin_gtr, fr3, wrap_int, wrap_u8, iteP_yes, iteP_no, g13, g14, g15, g17, g19, g21, g23, g24, hC6.iad, hC6.ld, f4] | refine iteP_two (fun hc hd => ?_) (fun hc hd => ?_) | refine iteP_intro (fun hc => ?_) (fun hc => ?_))
          refine loop_rounds (fun mm e h4 => ∃ i : Nat, mm = L.length - i ∧ i ≤ L.length ∧ h4 = G6 ∧ e 13 = r ∧ e 14 = .int .i64 L.length ∧ e 15 = .int .i64 p ∧ e 27 = zl ∧ e 28 = .bool true ∧ e 29 = .int .i64 i) _ ⟨0, rfl, ?_⟩ ?_
          · simp only [updO_at, updO_not, entry_at, List.getD_cons_zero, List.getD_cons_succ, ↓reduceIte, Nat.reduceEqDiff, true_and, and_true]
            exact ⟨Nat.zero_le _, g13, g14, g15, rfl⟩
          · rintro mm e h4 ⟨i, hmm, hle, rfl, g13, g14, g15, g27, g28, g29⟩
            have hks := toNat_succ i
            by_cases hin : i < L.length
            · have c0 : decide ((i : Int) < (L.length : Int)) = true := decide_eq_true (by omega)
              obtain ⟨a1, a2, a3, a4⟩ := lv_facts hL (p := p) (i := i) (by omega) (hmax i hin)
              have hld := IS.ld1 (P := Try.prog) (t := 2) (c := i * 1) hIz tsz2 tag2 (by omega)
              have en : nth (lvL L p L.length) (i * 1) = lvN L p i := by rw [Nat.mul_one]; exact lvL_at hin
              rw [en] at hld
              have hldp := IS.ld1 (P := Try.prog) (t := 2) (c := p * 1) hIz tsz2 tag2 (by omega)
              have enp : nth (lvL L p L.length) (p * 1) = 0 := by rw [Nat.mul_one, lvL_at hlt]; exact a4
              rw [enp] at hldp
              have f5 := (fs_tab ⟨cn L i, Nat.lt_succ_of_le (hL i)⟩).2.2.2.2
              have c1 : decide ((0 : Int) < lvN L p i) = false := decide_eq_false (by omega)
              have c2 : decide (lvN L p i < -2000) = false := decide_eq_false (by omega)
              generalize lvN L p i = z at *
              by_cases hz : cn L i = 0
              · have f6 : fcmp .eql .f32 (fS (cn L i)) 0 = true := by rw [f5]; exact decide_eq_true hz
                have c3 : decide (z = -2000) = true := decide_eq_true (a3.2 hz)
                (repeat' first | simp -dsimp (disch := first | omega | assumption | (refine OkS.sto ?_ (by omega); first | assumption | (refine OkS.sto ?_ (by omega); first | assumption | (refine OkS.sto ?_ (by omega); first | assumption | (refine OkS.sto ?_ (by omega); first | assumption | (refine OkS.sto ?_ (by omega); first | assumption | (refine OkS.sto ?_ (by omega); first | assumption)))))) | exact Pfx.refl _ | (apply Pfx.snoc; repeat (first | exact Pfx.refl _ | assumption | apply Pfx.snoc)) | with_unfolding_all exact of_eq_true (eq_true rfl) | (simp only [List.length_append, List.length_cons, List.length_nil]; omega)) only [↓wpre0, ↓wpre1, ↓reduceIte, Int.reduceToNat, Nat.reduceAdd, Nat.reduceMul, Nat.reduceEqDiff, wpost0, wpost1, wpost2, wpost3, wpost4, ite_self, ite_true, ite_false, if_true, if_false, xlen24, tze29, xst29, xfad29_1, xld2, xfad29_0, bin_add, un_not, xlen31, bin_neq, bin_lss, xbld29_0_1, xiad31, xld34, bin_geq, xcv34_45, bin_fadd, bin_fgtr, bin_feql, xlen41, xiad41, bin_eql, xcv2_45, bin_fmul, xbneq4, bin_gtr, fr3, wrap_int, wrap_u8, iteP_yes, iteP_no, g13, g14, g15, g27, g28, g29, c0, hIz.len Try.underlying41, hIz.iad Try.underlying41 tsz2, hld, hldp, c1, c2, hC6.iad, hC6.ld, f6, c3] | refine iteP_two (fun hc hd => ?_) (fun hc hd => ?_) | refine iteP_intro (fun hc => ?_) (fun hc => ?_))
                exact ⟨L.length - (i + 1), by omega, i + 1, rfl, by omega, by rw [hks]⟩
              · have f6 : fcmp .eql .f32 (fS (cn L i)) 0 = false := by rw [f5]; exact decide_eq_false hz
                have c3 : decide (z = -2000) = false := decide_eq_false (fun q => hz (a3.1 q))
                (repeat' first | simp -dsimp (disch := first | omega | assumption | (refine OkS.sto ?_ (by omega); first | assumption | (refine OkS.sto ?_ (by omega); first | assumption | (refine OkS.sto ?_ (by omega); first | assumption | (refine OkS.sto ?_ (by omega); first | assumption | (refine OkS.sto ?_ (by omega); first | assumption | (refine OkS.sto ?_ (by omega); first | assumption)))))) | exact Pfx.refl _ | (apply Pfx.snoc; repeat (first | exact Pfx.refl _ | assumption | apply Pfx.snoc)) | with_unfolding_all exact of_eq_true (eq_true rfl) | (simp only [List.length_append, List.length_cons, List.length_nil]; omega)) only [↓wpre0, ↓wpre1, ↓reduceIte, Int.reduceToNat, Nat.reduceAdd, Nat.reduceMul, Nat.reduceEqDiff, wpost0, wpost1, wpost2, wpost3, wpost4, ite_self, ite_true, ite_false, if_true, if_false, xlen24, tze29, xst29, xfad29_1, xld2, xfad29_0, bin_add, un_not, xlen31, bin_neq, bin_lss, xbld29_0_1, xiad31, xld34, bin_geq, xcv34_45, bin_fadd, bin_fgtr, bin_feql, xlen41, xiad41, bin_eql, xcv2_45, bin_fmul, xbneq4, bin_gtr, fr3, wrap_int, wrap_u8, iteP_yes, iteP_no, g13, g14, g15, g27, g28, g29, c0, hIz.len Try.underlying41, hIz.iad Try.underlying41 tsz2, hld, hldp, c1, c2, hC6.iad, hC6.ld, f6, c3] | refine iteP_two (fun hc hd => ?_) (fun hc hd => ?_) | refine iteP_intro (fun hc => ?_) (fun hc => ?_))
                exact ⟨L.length - (i + 1), by omega, i + 1, rfl, by omega, by rw [hks]⟩
            · have c0 : decide ((i : Int) < (L.length : Int)) = false := decide_eq_false (by omega)
              (repeat' first | simp -dsimp (disch := first | omega | assumption | (refine OkS.sto ?_ (by omega); first | assumption | (refine OkS.sto ?_ (by omega); first | assumption | (refine OkS.sto ?_ (by omega); first | assumption | (refine OkS.sto ?_ (by omega); first | assumption | (refine OkS.sto ?_ (by omega); first | assumption | (refine OkS.sto ?_ (by omega); first | assumption)))))) | exact Pfx.refl _ | (apply Pfx.snoc; repeat (first | exact Pfx.refl _ | assumption | apply Pfx.snoc)) | with_unfolding_all exact of_eq_true (eq_true rfl) | (simp only [List.length_append, List.length_cons, List.length_nil]; omega)) only [↓wpre0, ↓wpre1, ↓reduceIte, Int.reduceToNat, Nat.reduceAdd, Nat.reduceMul, Nat.reduceEqDiff, wpost0, wpost1, wpost2, wpost3, wpost4, ite_self, ite_true, ite_false, if_true, if_false, xlen24, tze29, xst29, xfad29_1, xld2, xfad29_0, bin_add, un_not, xlen31, bin_neq, bin_lss, xbld29_0_1, xiad31, xld34, bin_geq, xcv34_45, bin_fadd, bin_fgtr, bin_feql, xlen41, xiad41, bin_eql, xcv2_45, bin_fmul, xbneq4, bin_gtr, fr3, wrap_int, wrap_u8, iteP_yes, iteP_no, g13, g14, g15, g27, g28, g29, c0] | refine iteP_two (fun hc hd => ?_) (fun hc hd => ?_) | refine iteP_intro (fun hc => ?_) (fun hc => ?_))
theorem lawC_c (hV : VS lo hi 1 h x cd.length (cd.map u8v)) (hU : VS lo' hi' 1 h y md.length (md.map u8v)) (hhi : hi ≤ h.length) (hhi' : hi' ≤ h.length) (hro : ro ≤ h.length) (hl : cd.length ≤ 140737488351232) (hl' : md.length ≤ 140737488351232) :
    CallR Try.prog ro (xS1 ro) 3 [x, y] h (fun r h' => r = .bool true) :=
  lawCut_c (xn_S1 ro) xn_S0 (XDW.of xn_S0) ⟨rfl, rfl⟩ rfl rfl rfl (XDW.of (xn_S1 ro)) hV hU hhi hhi' hro hl hl'
end Go.Proofs.Ytjonhaebeeoimaa.Sim
