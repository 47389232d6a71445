/- Tapers and steered weights, walked. Lemmas only; no condition. -/
import Derived.Test.YtelogajobjflfaaTpb
import Derived.Test.YtelogajobjflfaaPhy
import Derived.Test.YtelogajobjflfaaSne
set_option linter.unusedSimpArgs false
set_option linter.unusedVariables false
set_option maxRecDepth 8000
namespace Go.Proofs.Ytelogajobjflfaa.Sim
open Go Go.RowKit Fl
variable {ro lo hi n : Nat} {X : Ext} {h : Heap} {x y : Value} {l : List Int} {u v : Int}
theorem qq_lt {n k : Nat} (hk : k < n) : qqF n k < 4 := by
  unfold qqF
  exact Nat.div_lt_of_lt_mul (by omega)
theorem taperAt_r (hX : XN X) (hA : XAbs X) {c n k : Nat} (hc : c < 4) (hn : n ≤ 16) (hk : k < n) (h : Heap) : Ret Try.prog ro X 187 [.int .i64 c, .int .i64 n, .int .i64 k] h (.float .f32 (tpF c n k)) := by
  have hc' : c = 0 ∨ c = 1 ∨ c = 2 ∨ c = 3 := by omega
  rcases hc' with rfl | rfl | rfl | rfl
  · refine ret_of (callR_of (hX _ rfl) Try.func187 rfl (by kernel_rfl) (Nat.le_of_ble_eq_true rfl) ?_)
    (repeat' first | simp -dsimp (disch := first | omega | assumption | (refine OkS.sto ?_ (by omega); first | assumption | (refine OkS.sto ?_ (by omega); first | assumption | (refine OkS.sto ?_ (by omega); first | assumption | (refine OkS.sto ?_ (by omega); first | assumption | (refine OkS.sto ?_ (by omega); first | assumption | (refine OkS.sto ?_ (by omega); first | assumption)))))) | exact Pfx.refl _ | (apply Pfx.snoc; repeat (first | exact Pfx.refl _ | assumption | apply Pfx.snoc)) | with_unfolding_all exact of_eq_true (eq_true rfl) | (simp only [List.length_append, List.length_cons, List.length_nil]; omega)) only [↓wpre0, ↓wpre1, ↓reduceIte, Int.reduceToNat, Nat.reduceAdd, Nat.reduceMul, Nat.reduceEqDiff, wpost0, wpost1, wpost2, wpost3, wpost4, ite_self, ite_true, ite_false, if_true, if_false, bin_eql, bin_add, bin_sub, blt_minI, xcv2_29, bin_fmul, bin_fquo, xcv2_59, blt_real, bin_fsub, bin_quo, fr187, wrap_int, wrap_u8, iteP_yes, iteP_no] | refine iteP_two (fun hc hd => ?_) (fun hc hd => ?_) | refine iteP_intro (fun hc => ?_) (fun hc => ?_))
    all_goals rfl
  · have e : tpF 1 n k = farith .quo .f32 (farith .mul .f32 1073741824 (cf .f32 (FloatKind.f32.nearest (min ((k : Int) + 1) ((n : Int) - k))))) (cf .f32 (FloatKind.f32.nearest ((n : Int) + 1))) := rfl
    rw [e]
    refine ret_of (callR_of (hX _ rfl) Try.func187 rfl (by kernel_rfl) (Nat.le_of_ble_eq_true rfl) ?_)
    (repeat' first | simp -dsimp (disch := first | omega | assumption | (refine OkS.sto ?_ (by omega); first | assumption | (refine OkS.sto ?_ (by omega); first | assumption | (refine OkS.sto ?_ (by omega); first | assumption | (refine OkS.sto ?_ (by omega); first | assumption | (refine OkS.sto ?_ (by omega); first | assumption | (refine OkS.sto ?_ (by omega); first | assumption)))))) | exact Pfx.refl _ | (apply Pfx.snoc; repeat (first | exact Pfx.refl _ | assumption | apply Pfx.snoc)) | with_unfolding_all exact of_eq_true (eq_true rfl) | (simp only [List.length_append, List.length_cons, List.length_nil]; omega)) only [↓wpre0, ↓wpre1, ↓reduceIte, Int.reduceToNat, Nat.reduceAdd, Nat.reduceMul, Nat.reduceEqDiff, wpost0, wpost1, wpost2, wpost3, wpost4, ite_self, ite_true, ite_false, if_true, if_false, bin_eql, bin_add, bin_sub, blt_minI, xcv2_29, bin_fmul, bin_fquo, xcv2_59, blt_real, bin_fsub, bin_quo, fr187, wrap_int, wrap_u8, iteP_yes, iteP_no, conv_if Try.underlying2 Try.underlying29] | refine iteP_two (fun hc hd => ?_) (fun hc hd => ?_) | refine iteP_intro (fun hc => ?_) (fun hc => ?_))
    all_goals rfl
  · have e : tpF 2 n k = farith .sub .f32 1056964608 (farith .quo .f32 (phG (xqF n k) (qqF n k)).a 1073741824) := rfl
    rw [e]
    have hP := PhasorG_r (ro := ro) hX hA (qq_lt hk) (ph_at hn hk) h
    have ex : xqF n k = farith .quo .f64 (cf .f64 (FloatKind.f64.nearest ((k : Int) + 1))) (cf .f64 (FloatKind.f64.nearest ((n : Int) + 1))) := rfl
    rw [ex] at hP ⊢
    simp only [toV] at hP
    refine ret_of (callR_of (hX _ rfl) Try.func187 rfl (by kernel_rfl) (Nat.le_of_ble_eq_true rfl) ?_)
    (repeat' first | simp -dsimp (disch := first | omega | assumption | (refine OkS.sto ?_ (by omega); first | assumption | (refine OkS.sto ?_ (by omega); first | assumption | (refine OkS.sto ?_ (by omega); first | assumption | (refine OkS.sto ?_ (by omega); first | assumption | (refine OkS.sto ?_ (by omega); first | assumption | (refine OkS.sto ?_ (by omega); first | assumption)))))) | exact Pfx.refl _ | (apply Pfx.snoc; repeat (first | exact Pfx.refl _ | assumption | apply Pfx.snoc)) | with_unfolding_all exact of_eq_true (eq_true rfl) | (simp only [List.length_append, List.length_cons, List.length_nil]; omega)) only [↓wpre0, ↓wpre1, ↓reduceIte, Int.reduceToNat, Nat.reduceAdd, Nat.reduceMul, Nat.reduceEqDiff, wpost0, wpost1, wpost2, wpost3, wpost4, ite_self, ite_true, ite_false, if_true, if_false, bin_eql, bin_add, bin_sub, blt_minI, xcv2_29, bin_fmul, bin_fquo, xcv2_59, blt_real, bin_fsub, bin_quo, fr187, wrap_int, wrap_u8, iteP_yes, iteP_no, conv_if Try.underlying2 Try.underlying59, hP] | refine iteP_two (fun hc hd => ?_) (fun hc hd => ?_) | refine iteP_intro (fun hc => ?_) (fun hc => ?_))
    all_goals rfl
  · have e : tpF 3 n k = farith .quo .f32 (cf .f32 (FloatKind.f32.nearest (wyF (n - 1) k : Nat))) (cf .f32 (FloatKind.f32.nearest (wyF (n - 1) ((n - 1) / 2) : Nat))) := rfl
    rw [e]
    have w1 := waysOf_r (ro := ro) (X := X) hX (n := n - 1) (k := k) (by omega) (by omega) h
    have w2 := waysOf_r (ro := ro) (X := X) hX (n := n - 1) (k := (n - 1) / 2) (by omega) (by omega) h
    have e1 : (n : Int) - 1 = ((n - 1 : Nat) : Int) := by omega
    have e2 : ((n : Int) - 1).tdiv 2 = (((n - 1) / 2 : Nat) : Int) := by
      rw [Int.tdiv_eq_ediv_of_nonneg (by omega)]; omega
    have hz : (2 : Int) ≠ 0 := by decide
    rw [← e1] at w1 w2
    refine ret_of (callR_of (hX _ rfl) Try.func187 rfl (by kernel_rfl) (Nat.le_of_ble_eq_true rfl) ?_)
    simp -dsimp (disch := first | omega | assumption | (refine OkS.sto ?_ (by omega); first | assumption | (refine OkS.sto ?_ (by omega); first | assumption | (refine OkS.sto ?_ (by omega); first | assumption | (refine OkS.sto ?_ (by omega); first | assumption | (refine OkS.sto ?_ (by omega); first | assumption | (refine OkS.sto ?_ (by omega); first | assumption)))))) | exact Pfx.refl _ | (apply Pfx.snoc; repeat (first | exact Pfx.refl _ | assumption | apply Pfx.snoc)) | with_unfolding_all exact of_eq_true (eq_true rfl) | (simp only [List.length_append, List.length_cons, List.length_nil]; omega)) only [↓wpre0, ↓wpre1, ↓reduceIte, Int.reduceToNat, Nat.reduceAdd, Nat.reduceMul, Nat.reduceEqDiff, wpost0, wpost1, wpost2, wpost3, wpost4, ite_self, ite_true, ite_false, if_true, if_false, bin_eql, bin_add, bin_sub, blt_minI, xcv2_29, bin_fmul, bin_fquo, xcv2_59, blt_real, bin_fsub, bin_quo, fr187, wrap_int, wrap_u8, iteP_yes, iteP_no, conv_if Try.underlying2 Try.underlying29, bin_quo, hz, e2, w1, w2]
    all_goals rfl
/-- Numbers that are told. -/
def rowF (n : Nat) (f : Nat → Nat) : List Value := (List.range n).map fun i => .float .f32 (f i)
theorem rowF_len (n : Nat) (f : Nat → Nat) : (rowF n f).length = n := by simp [rowF]
theorem rowF_succ (n : Nat) (f : Nat → Nat) : rowF (n + 1) f = rowF n f ++ [.float .f32 (f n)] := by simp [rowF, List.range_succ]
theorem rowF_at {n : Nat} {f : Nat → Nat} {i : Nat} (h : i < n) : vth (rowF n f) i = .float .f32 (f i) := by
  rw [vth_eq (by rw [rowF_len]; exact h)]
  simp [rowF]
set_option maxHeartbeats 2000000 in
theorem TaperOf_c (hX : XN X) (hA : XAbs X) {c : Nat} (hc : c < 4) (hn : n ≤ 16) (hn1 : 1 ≤ n) (hro : ro ≤ h.length) :
    CallR Try.prog ro X 101 [.int .i64 c, .int .i64 n] h (fun r h' => ∃ z, r = .tuple ⟨[z, .bool true]⟩ ∧ Pfx h h' ∧ VG h.length 29 1 h' z n (rowF n (tpF c n))) := by
  have kn := isCnt_r (ro := ro) hX (n : Int)
  have wn : (decide ((1 : Int) ≤ (n : Int)) && decide ((n : Int) ≤ 16)) = true := by simp; omega
  rw [wn] at kn
  refine callR_of (hX _ rfl) Try.func101 rfl (by kernel_rfl) (Nat.le_of_ble_eq_true rfl) ?_
  (repeat' first | simp -dsimp (disch := first | omega | assumption | (refine OkS.sto ?_ (by omega); first | assumption | (refine OkS.sto ?_ (by omega); first | assumption | (refine OkS.sto ?_ (by omega); first | assumption | (refine OkS.sto ?_ (by omega); first | assumption | (refine OkS.sto ?_ (by omega); first | assumption | (refine OkS.sto ?_ (by omega); first | assumption)))))) | exact Pfx.refl _ | (apply Pfx.snoc; repeat (first | exact Pfx.refl _ | assumption | apply Pfx.snoc)) | with_unfolding_all exact of_eq_true (eq_true rfl) | (simp only [List.length_append, List.length_cons, List.length_nil]; omega)) only [↓wpre0, ↓wpre1, ↓reduceIte, Int.reduceToNat, Nat.reduceAdd, Nat.reduceMul, Nat.reduceEqDiff, wpost0, wpost1, wpost2, wpost3, wpost4, ite_self, ite_true, ite_false, if_true, if_false, un_not, xbls24_0, xbls24_1, bin_lss, bin_add, fr101, wrap_int, wrap_u8, iteP_yes, iteP_no, kn, wit_r hX] | refine iteP_two (fun hc hd => ?_) (fun hc hd => ?_) | refine iteP_intro (fun hc => ?_) (fun hc => ?_))
  refine loop_rounds (fun mm e h' => ∃ (i : Nat) (z : Value), mm = n - i ∧ i ≤ n ∧ Pfx h h' ∧ e 0 = .int .i64 c ∧ e 1 = .int .i64 n ∧ e 6 = z ∧ e 17 = .int .i64 n ∧ e 18 = .int .i64 i ∧ VG h.length 29 1 h' z i (rowF i (tpF c n))) _ ⟨0, .slice (some ⟨h.length, 0, none⟩) 0 0, rfl, ?_⟩ ?_
  · simp only [updO_at, updO_not, entry_at, List.getD_cons_zero, List.getD_cons_succ, ↓reduceIte, Nat.reduceEqDiff, true_and, and_true]
    have q1 : Pfx h (h ++ [(⟨29, []⟩ : Blk)]) := (Pfx.refl h).snoc
    have q2 : VG h.length 29 1 (h ++ [(⟨29, []⟩ : Blk)]) (.slice (some ⟨h.length, 0, none⟩) 0 0) 0 (rowF 0 (tpF c n)) := vg_new h (Nat.le_refl _)
    (repeat' (first | assumption | rfl | omega | exact q1 | exact q2 | exact Nat.zero_le _ | refine And.intro ?_ ?_))
  · rintro mm e h' ⟨i, z, hmm, hle, hp, g0, g1, g6, g17, g18, hZ⟩
    have hks : (i : Int) + 1 = ((i + 1 : Nat) : Int) := by omega
    have hlp := hp.len
    by_cases hin : i < n
    · have hT := taperAt_r (ro := ro) (X := X) hX hA hc hn hin h'
      obtain ⟨H, ap, vg, old, hlen⟩ := acc1 (P := Try.prog) (ro := ro) (T := 24) (h := h') (v := .float .f32 (tpF c n i)) tel24 tsz29 tby29 tze29 (.inl hZ) (by omega) (by omega) rfl (by omega) (by omega)
      rw [← rowF_succ] at vg
      have pH := old.1 h hp (Nat.le_refl _)
      (repeat' first | simp -dsimp (disch := first | omega | assumption | (refine OkS.sto ?_ (by omega); first | assumption | (refine OkS.sto ?_ (by omega); first | assumption | (refine OkS.sto ?_ (by omega); first | assumption | (refine OkS.sto ?_ (by omega); first | assumption | (refine OkS.sto ?_ (by omega); first | assumption | (refine OkS.sto ?_ (by omega); first | assumption)))))) | exact Pfx.refl _ | (apply Pfx.snoc; repeat (first | exact Pfx.refl _ | assumption | apply Pfx.snoc)) | with_unfolding_all exact of_eq_true (eq_true rfl) | (simp only [List.length_append, List.length_cons, List.length_nil]; omega)) only [↓wpre0, ↓wpre1, ↓reduceIte, Int.reduceToNat, Nat.reduceAdd, Nat.reduceMul, Nat.reduceEqDiff, wpost0, wpost1, wpost2, wpost3, wpost4, ite_self, ite_true, ite_false, if_true, if_false, un_not, xbls24_0, xbls24_1, bin_lss, bin_add, fr101, wrap_int, wrap_u8, iteP_yes, iteP_no, g0, g1, g6, g17, g18, hT, ap] | refine iteP_two (fun hc hd => ?_) (fun hc hd => ?_) | refine iteP_intro (fun hc => ?_) (fun hc => ?_))
      exact ⟨n - (i + 1), by omega, i + 1, _, rfl, by omega, pH, rfl, by rw [hks], vg⟩
    · have ei : i = n := by omega
      subst ei
      have hnf : Sim.flat (.tuple ⟨[z, .bool true]⟩) = false := by obtain ⟨_, b, cap, rfl, _⟩ := hZ; rfl
      (repeat' first | simp -dsimp (disch := first | omega | assumption | (refine OkS.sto ?_ (by omega); first | assumption | (refine OkS.sto ?_ (by omega); first | assumption | (refine OkS.sto ?_ (by omega); first | assumption | (refine OkS.sto ?_ (by omega); first | assumption | (refine OkS.sto ?_ (by omega); first | assumption | (refine OkS.sto ?_ (by omega); first | assumption)))))) | exact Pfx.refl _ | (apply Pfx.snoc; repeat (first | exact Pfx.refl _ | assumption | apply Pfx.snoc)) | with_unfolding_all exact of_eq_true (eq_true rfl) | (simp only [List.length_append, List.length_cons, List.length_nil]; omega)) only [↓wpre0, ↓wpre1, ↓reduceIte, Int.reduceToNat, Nat.reduceAdd, Nat.reduceMul, Nat.reduceEqDiff, wpost0, wpost1, wpost2, wpost3, wpost4, ite_self, ite_true, ite_false, if_true, if_false, un_not, xbls24_0, xbls24_1, bin_lss, bin_add, fr101, wrap_int, wrap_u8, iteP_yes, iteP_no, g0, g1, g6, g17, g18, endH_not hnf] | refine iteP_two (fun hc hd => ?_) (fun hc hd => ?_) | refine iteP_intro (fun hc => ?_) (fun hc => ?_))
      exact ⟨z, rfl, hp, hZ⟩
end Go.Proofs.Ytelogajobjflfaa.Sim

/- Steered weights and gaps, walked. Lemmas only; no condition. -/
set_option linter.unusedSimpArgs false
set_option linter.unusedVariables false
set_option maxRecDepth 8000
namespace Go.Proofs.Ytelogajobjflfaa.Sim
open Go Go.RowKit Fl
variable {ro lo hi lo' hi' n : Nat} {X : Ext} {h : Heap} {x y : Value} {l : List Int} {u v : Int}
set_option maxHeartbeats 4000000 in
theorem SteerW_c {f : Nat → Nat} (hX : XN X) (hA : XAbs X) (hI : IS lo hi 2 h x n l) (ht : tyP ro h x) (hg : goodP n l) (hd : dirB u v = true) (hF : VS lo' hi' 1 h y n (rowF n f)) (hro : ro ≤ h.length) (hlo : hi ≤ h.length) (hlo' : hi' ≤ h.length) :
    CallR Try.prog ro X 102 [x, .agg ⟨[.int .i64 u, .int .i64 v]⟩, y] h (fun r h' => ∃ z, r = .tuple ⟨[z, .bool true]⟩ ∧ Pfx h h' ∧ RowB h.length h' z n (fun i => scB (PH (stpN l u v i)) (f i))) := by
  have n1 := hg.n1
  have n16 := hg.n16
  have hb : boxV h 62 (.agg ⟨[.int .i64 u, .int .i64 v]⟩) = some (.pointer (some ⟨h.length, 0, none⟩), h ++ [⟨62, [.int .i64 u, .int .i64 v]⟩]) := box_go rfl
  have p0 : Pfx h (h ++ [(⟨62, [.int .i64 u, .int .i64 v]⟩ : Blk)]) := (Pfx.refl h).snoc
  have hro0 : ro ≤ (h ++ [(⟨62, [.int .i64 u, .int .i64 v]⟩ : Blk)]).length := by simp; omega
  have hv := vPlaces_r (ro := ro) hX (hI.pre p0) (ht.pre hI (by omega) p0) hg hro0
  have hdr := vDir_r (ro := ro) hX u v _ hro0
  rw [hd] at hdr
  have el : (h ++ [(⟨62, [.int .i64 u, .int .i64 v]⟩ : Blk)]).length = h.length + 1 := by simp
  have p1 : Pfx h (h ++ [(⟨62, [.int .i64 u, .int .i64 v]⟩ : Blk)] ++ [(⟨46, []⟩ : Blk)]) := p0.snoc
  have cD : cells (h ++ [(⟨62, [.int .i64 u, .int .i64 v]⟩ : Blk)] ++ [(⟨46, []⟩ : Blk)]) h.length 0 2 = some (.agg ⟨[.int .i64 u, .int .i64 v]⟩) := cellsb (o := 0) (n := 2) (t := 62) (cs := [.int .i64 u, .int .i64 v]) (by simp) (by simp)
  refine callR_of (hX _ rfl) Try.func102 rfl (by kernel_rfl) (Nat.le_of_ble_eq_true rfl) ?_
  (repeat' first | simp -dsimp (disch := first | omega | assumption | (refine OkS.sto ?_ (by omega); first | assumption | (refine OkS.sto ?_ (by omega); first | assumption | (refine OkS.sto ?_ (by omega); first | assumption | (refine OkS.sto ?_ (by omega); first | assumption | (refine OkS.sto ?_ (by omega); first | assumption | (refine OkS.sto ?_ (by omega); first | assumption)))))) | exact Pfx.refl _ | (apply Pfx.snoc; repeat (first | exact Pfx.refl _ | assumption | apply Pfx.snoc)) | with_unfolding_all exact of_eq_true (eq_true rfl) | (simp only [List.length_append, List.length_cons, List.length_nil]; omega)) only [↓wpre0, ↓wpre1, ↓reduceIte, Int.reduceToNat, Nat.reduceAdd, Nat.reduceMul, Nat.reduceEqDiff, wpost0, wpost1, wpost2, wpost3, wpost4, ite_self, ite_true, ite_false, if_true, if_false, un_not, xld62, xlen24, xlen54, bin_neq, xbls44_0, xbls44_1, xlen44, bin_lss, xiad44, xld46, xiad24, xld29, bin_add, fr102, wrap_int, wrap_u8, iteP_yes, iteP_no, hb, hv, hdr, el, cD, (hF.pre p0).len Try.underlying24, (hI.pre p0).len Try.underlying54] | refine iteP_two (fun hc hd => ?_) (fun hc hd => ?_) | refine iteP_intro (fun hc => ?_) (fun hc => ?_))
  refine cf_rel (steering_c hX hA (hI.pre p1) hg hd (by simp; omega) (by simp; omega)) (fun q => by cases q) ?_
  rintro z1 H1 ⟨q1, hZ1⟩
  have lq := q1.len
  have eQ : (h ++ [(⟨62, [.int .i64 u, .int .i64 v]⟩ : Blk)] ++ [(⟨46, []⟩ : Blk)]).length = h.length + 2 := by simp
  rw [eQ] at lq hZ1
  have hO : VG (h.length + 1) 46 1 H1 (.slice (some ⟨h.length + 1, 0, none⟩) 0 0) 0 (rowV 0 (fun i => scB (PH (stpN l u v i)) (f i))) := by
    have := vg_new (lo := h.length + 1) (t := 46) (k := 1) (h ++ [(⟨62, [.int .i64 u, .int .i64 v]⟩ : Blk)]) (by simp)
    rw [el] at this
    exact this.pre q1
  have pG : Pfx (h ++ [(⟨62, [.int .i64 u, .int .i64 v]⟩ : Blk)]) H1 := (Pfx.refl _).snoc.trans q1
  have hR0 : VS (h.length + 2) H1.length 1 H1 z1 n (rowV n (fun i => PH (stpN l u v i))) := hZ1
  (repeat' first | simp -dsimp (disch := first | omega | assumption | (refine OkS.sto ?_ (by omega); first | assumption | (refine OkS.sto ?_ (by omega); first | assumption | (refine OkS.sto ?_ (by omega); first | assumption | (refine OkS.sto ?_ (by omega); first | assumption | (refine OkS.sto ?_ (by omega); first | assumption | (refine OkS.sto ?_ (by omega); first | assumption)))))) | exact Pfx.refl _ | (apply Pfx.snoc; repeat (first | exact Pfx.refl _ | assumption | apply Pfx.snoc)) | with_unfolding_all exact of_eq_true (eq_true rfl) | (simp only [List.length_append, List.length_cons, List.length_nil]; omega)) only [↓wpre0, ↓wpre1, ↓reduceIte, Int.reduceToNat, Nat.reduceAdd, Nat.reduceMul, Nat.reduceEqDiff, wpost0, wpost1, wpost2, wpost3, wpost4, ite_self, ite_true, ite_false, if_true, if_false, un_not, xld62, xlen24, xlen54, bin_neq, xbls44_0, xbls44_1, xlen44, bin_lss, xiad44, xld46, xiad24, xld29, bin_add, fr102, wrap_int, wrap_u8, iteP_yes, iteP_no, hZ1.len] | refine iteP_two (fun hc hd => ?_) (fun hc hd => ?_) | refine iteP_intro (fun hc => ?_) (fun hc => ?_))
  refine loop_rounds (fun mm e h' => ∃ (i : Nat) (z : Value), mm = n - i ∧ i ≤ n ∧ Pfx (h ++ [(⟨62, [.int .i64 u, .int .i64 v]⟩ : Blk)]) h' ∧ H1.length ≤ h'.length ∧ (∀ b, h.length + 2 ≤ b → b < H1.length → h'[b]? = H1[b]?) ∧ (bOf z = h.length + 1 ∨ H1.length ≤ bOf z) ∧ e 2 = y ∧ e 8 = z ∧ e 29 = z1 ∧ e 30 = .int .i64 n ∧ e 31 = .int .i64 i ∧ VG (h.length + 1) 46 1 h' z i (rowV i (fun i => scB (PH (stpN l u v i)) (f i)))) _ ⟨0, .slice (some ⟨h.length + 1, 0, none⟩) 0 0, rfl, ?_⟩ ?_
  · simp only [updO_at, updO_not, entry_at, List.getD_cons_zero, List.getD_cons_succ, ↓reduceIte, Nat.reduceEqDiff, true_and, and_true]
    have k0 : ∀ b, h.length + 2 ≤ b → b < H1.length → H1[b]? = H1[b]? := fun _ _ _ => rfl
    exact ⟨Nat.zero_le _, pG, Nat.le_refl _, fun _ _ _ => trivial, .inl rfl, rfl, hO⟩
  · rintro mm e h' ⟨i, z, hmm, hle, hp, hlp, hk, hbz, g2, g8, g29, g30, g31, hZ⟩
    have hks : (i : Int) + 1 = ((i + 1 : Nat) : Int) := by omega
    have hF' := hF.pre (p0.trans hp)
    have hR : RowB (h.length + 2) h' z1 n (fun i => PH (stpN l u v i)) := (hR0.frame hk).wide (Nat.le_refl _) hlp
    by_cases hin : i < n
    · obtain ⟨H, ap, vg, old, hlen⟩ := acc1 (P := Try.prog) (ro := ro) (T := 44) (h := h') (v := toV (scB (PH (stpN l u v i)) (f i))) tel44 tsz46 tby46 tze46 (.inl hZ) (by omega) (by omega) rfl (by omega) (by omega)
      rw [← rowV_succ] at vg
      have hld : ld Try.prog h' 29 (ea y (i * 1)) = some (.float .f32 (f i)) := by
        rw [hF'.ld1 tsz29 tag29 (by omega), Nat.mul_one, rowF_at hin]
      have pH := old.1 _ hp (by rw [el]; exact Nat.le_refl _)
      have kH : ∀ b, h.length + 2 ≤ b → b < H1.length → H[b]? = H1[b]? := fun b b1 b2 => (old.2.1 b (by omega) (.inr (by omega))).trans (hk b b1 b2)
      (repeat' first | simp -dsimp (disch := first | omega | assumption | (refine OkS.sto ?_ (by omega); first | assumption | (refine OkS.sto ?_ (by omega); first | assumption | (refine OkS.sto ?_ (by omega); first | assumption | (refine OkS.sto ?_ (by omega); first | assumption | (refine OkS.sto ?_ (by omega); first | assumption | (refine OkS.sto ?_ (by omega); first | assumption)))))) | exact Pfx.refl _ | (apply Pfx.snoc; repeat (first | exact Pfx.refl _ | assumption | apply Pfx.snoc)) | with_unfolding_all exact of_eq_true (eq_true rfl) | (simp only [List.length_append, List.length_cons, List.length_nil]; omega)) only [↓wpre0, ↓wpre1, ↓reduceIte, Int.reduceToNat, Nat.reduceAdd, Nat.reduceMul, Nat.reduceEqDiff, wpost0, wpost1, wpost2, wpost3, wpost4, ite_self, ite_true, ite_false, if_true, if_false, un_not, xld62, xlen24, xlen54, bin_neq, xbls44_0, xbls44_1, xlen44, bin_lss, xiad44, xld46, xiad24, xld29, bin_add, fr102, wrap_int, wrap_u8, iteP_yes, iteP_no, g2, g8, g29, g30, g31, hR.iad, hR.ld, hF'.iad Try.underlying24 tsz29, hld, Scale_r hX, ap] | refine iteP_two (fun hc hd => ?_) (fun hc hd => ?_) | refine iteP_intro (fun hc => ?_) (fun hc => ?_))
      exact ⟨n - (i + 1), by omega, i + 1, _, rfl, by omega, pH, by omega, kH, .inr (by show H1.length ≤ h'.length + 1; omega), rfl, by rw [hks], vg⟩
    · have ei : i = n := by omega
      subst ei
      have hnf : Sim.flat (.tuple ⟨[z, .bool true]⟩) = false := by obtain ⟨_, b, cap, rfl, _⟩ := hZ; rfl
      (repeat' first | simp -dsimp (disch := first | omega | assumption | (refine OkS.sto ?_ (by omega); first | assumption | (refine OkS.sto ?_ (by omega); first | assumption | (refine OkS.sto ?_ (by omega); first | assumption | (refine OkS.sto ?_ (by omega); first | assumption | (refine OkS.sto ?_ (by omega); first | assumption | (refine OkS.sto ?_ (by omega); first | assumption)))))) | exact Pfx.refl _ | (apply Pfx.snoc; repeat (first | exact Pfx.refl _ | assumption | apply Pfx.snoc)) | with_unfolding_all exact of_eq_true (eq_true rfl) | (simp only [List.length_append, List.length_cons, List.length_nil]; omega)) only [↓wpre0, ↓wpre1, ↓reduceIte, Int.reduceToNat, Nat.reduceAdd, Nat.reduceMul, Nat.reduceEqDiff, wpost0, wpost1, wpost2, wpost3, wpost4, ite_self, ite_true, ite_false, if_true, if_false, un_not, xld62, xlen24, xlen54, bin_neq, xbls44_0, xbls44_1, xlen44, bin_lss, xiad44, xld46, xiad24, xld29, bin_add, fr102, wrap_int, wrap_u8, iteP_yes, iteP_no, g2, g8, g29, g30, g31, endH_not hnf] | refine iteP_two (fun hc hd => ?_) (fun hc hd => ?_) | refine iteP_intro (fun hc => ?_) (fun hc => ?_))
      exact ⟨z, rfl, p0.trans hp, hZ.vsl.wide (by omega) (Nat.le_refl _)⟩
end Go.Proofs.Ytelogajobjflfaa.Sim

/- Scaled and summed numbers that are near. Lemmas only; no condition. -/
set_option linter.unusedSimpArgs false
set_option linter.unusedVariables false
set_option maxRecDepth 8000
namespace Go.Proofs.Ytelogajobjflfaa.Sim
open Go Go.RowKit Fl
theorem small_num2 : 2 ^ 49 + (2 ^ 43 * 2 ^ 36 + 2 ^ 43 * 2 ^ 35) + (2 ^ 49 + (2 ^ 43 * 2 ^ 36 + 2 ^ 43 * 2 ^ 35)) + 2 ^ 50 ≤ 2 ^ 81 := by decide
theorem small_sum2 {E F m c : Nat} (hc : c = 281) (hE : E ≤ 2 ^ 43) (hF : F ≤ 2 ^ 43) : 2 ^ (m + 249) + (E * 2 ^ 236 + F * 2 ^ 235) * 2 ^ m + (2 ^ (m + 249) + (E * 2 ^ 236 + F * 2 ^ 235) * 2 ^ m) + 2 ^ (m + 250) ≤ 2 ^ c * 2 ^ m := by
  rw [one_gen (a := 81) (b := c) (m := m) (k := 200) (by omega)]
  exact sum_tot (one_gen2 (a := 49) (b := 249) (k := 200) rfl) (two_gen (a := 236) (b := 235) (a' := 36) (b' := 35) (k := 200) rfl rfl) (one_gen2 (a := 50) (b := 250) (k := 200) rfl) (sum_gen (Nat.mul_le_mul_right (2 ^ 36) hE) (Nat.mul_le_mul_right (2 ^ 35) hF) small_num2)
theorem part_near2 {b m D c : Nat} {s R T : Int} (hc : c = 281) (hm : m = 776) (hD : D = 925) (hb : Fl.fin .f64 b s) (hs : (s - R * 2 ^ 170 * 2 ^ m).natAbs ≤ 2 ^ c * 2 ^ m) (hT : (T * 2 ^ 64 - R).natAbs ≤ 2 ^ 111) (hT2 : T.natAbs ≤ 2 ^ 64 + 2 ^ 40) : okN b ∧ nearP (nr b) T (2 ^ 49) := by
  obtain ⟨c3, hc3⟩ : ∃ c, c = 281 := ⟨_, rfl⟩
  have h1 : (R * 2 ^ 170 * 2 ^ m - T * 2 ^ 85 * 2 ^ D).natAbs ≤ 2 ^ c3 * 2 ^ m := by
    have e : T * 2 ^ 85 * 2 ^ D = T * 2 ^ 64 * 2 ^ 170 * 2 ^ m := by
      rw [Int.mul_assoc, Int.mul_assoc (T * 2 ^ 64), Int.mul_assoc T, ← Int.pow_add, ← Int.pow_add, ← Int.pow_add]
      congr 2
      omega
    have e2 : R * 2 ^ 170 * 2 ^ m - T * 2 ^ 85 * 2 ^ D = -((T * 2 ^ 64 - R) * 2 ^ 170 * 2 ^ m) := by
      rw [e, Int.sub_mul, Int.sub_mul]; omega
    rw [e2, Int.natAbs_neg, abs_mul_pow, abs_mul_pow]
    exact Nat.mul_le_mul_right _ (Nat.le_trans (Nat.mul_le_mul_right _ hT) (mul_pow2 (a := 111) (b := 170) (c := c3) (by omega)))
  have h2 := abs_tri hs h1
  have h3 : 2 ^ c * 2 ^ m + 2 ^ c3 * 2 ^ m ≤ 2 ^ 133 * 2 ^ D := by
    have e1 : 2 ^ c * 2 ^ m ≤ 2 ^ c3 * 2 ^ m := Nat.mul_le_mul_right _ (Nat.pow_le_pow_right (by decide) (by omega))
    have e2 : 2 ^ c3 * 2 ^ m + 2 ^ c3 * 2 ^ m = 2 ^ 133 * 2 ^ D := by
      rw [← Nat.pow_add, ← Nat.pow_add, ← Nat.two_mul, ← Nat.pow_succ', show (c3 + m).succ = 133 + D by omega]
    rw [← e2]
    exact Nat.add_le_add_right e1 _
  have h4 := Nat.le_trans h2 h3
  have hsb : s.natAbs ≤ 2 ^ (150 + D) := by
    refine abs_sum h4 (q := (2 ^ 64 + 2 ^ 40) * 2 ^ 85 * 2 ^ D) (by rw [abs_mul_pow, abs_mul_pow]; exact Nat.mul_le_mul_right _ (Nat.mul_le_mul_right _ hT2)) ?_
    rw [← Nat.add_mul, Nat.pow_add]
    exact Nat.mul_le_mul_right _ (by decide)
  obtain ⟨u, hu⟩ : ∃ u, u = 150 := ⟨_, rfl⟩
  obtain ⟨k1, w, w1, w2⟩ := nr_near0 hu hb (by rw [hu, ← hD]; exact hsb)
  refine ⟨k1, w, w1, ?_⟩
  rw [← hD] at w2
  have w3 := abs_tri w2 h4
  rw [← Nat.add_mul] at w3
  have e : w * 2 ^ D - T * 2 ^ 85 * 2 ^ D = (w - T * 2 ^ 85) * 2 ^ D := (Int.sub_mul _ _ _).symm
  rw [e, abs_mul_pow] at w3
  exact Nat.le_trans (Nat.le_of_mul_le_mul_right w3 (Nat.two_pow_pos D)) (by decide)
/-- A product of complex numbers that are near to two pairs is near to a third pair, if that is nearly the product. -/
theorem mul_near2 {c d : CB} {X1 Y1 X2 Y2 T U : Int} {E F : Nat} (hc : nearC c X1 Y1 E) (hd : nearC d X2 Y2 F) (x1 : X1.natAbs ≤ 2 ^ 65) (y1 : Y1.natAbs ≤ 2 ^ 65) (x2 : X2.natAbs ≤ 2 ^ 65) (y2 : Y2.natAbs ≤ 2 ^ 65) (hE : E ≤ 2 ^ 43) (hF : F ≤ 2 ^ 43) (hT : (T * 2 ^ 64 - (X1 * X2 - Y1 * Y2)).natAbs ≤ 2 ^ 111) (hU : (U * 2 ^ 64 - (X1 * Y2 + Y1 * X2)).natAbs ≤ 2 ^ 111) (hT2 : T.natAbs ≤ 2 ^ 64 + 2 ^ 40) (hU2 : U.natAbs ≤ 2 ^ 64 + 2 ^ 40) : okM c d ∧ nearC (mulB c d) T U (2 ^ 49) := by
  obtain ⟨m, hm⟩ : ∃ m, m = 776 := ⟨_, rfl⟩
  obtain ⟨D, hD⟩ : ∃ D, D = 925 := ⟨_, rfl⟩
  have hE' : E ≤ 2 ^ 50 := Nat.le_trans hE (by decide)
  have hF' : F ≤ 2 ^ 50 := Nat.le_trans hF (by decide)
  obtain ⟨w1, w2, p1, f1, n1, b1⟩ := prod_near hm hD hc.a hd.a x1 x2 hE' hF'
  obtain ⟨w3, w4, p2, f2, n2, b2⟩ := prod_near hm hD hc.b hd.b y1 y2 hE' hF'
  obtain ⟨_, _, p3, f3, n3, b3⟩ := prod_near hm hD hc.a hd.b x1 y2 hE' hF'
  obtain ⟨_, _, p4, f4, n4, b4⟩ := prod_near hm hD hc.b hd.a y1 x2 hE' hF'
  have hf : FloatKind.f64.format.fractionBits = 52 := rfl
  have two : ∀ {a b : Nat}, a ≤ 2 ^ (m + 302) → b ≤ 2 ^ (m + 302) → a + b ≤ 2 ^ (m + 303) := fun ha hb => by
    rw [show m + 303 = (m + 302) + 1 by omega, Nat.pow_succ]; omega
  obtain ⟨s, g1, g2, g3⟩ := sub_err (u := m + 303) f1 f2 (Nat.le_trans (by have := Int.natAbs_sub_le p1 p2; exact this) (two b1 b2)) (by rw [mx64]; omega)
  obtain ⟨r, k1, k2, k3⟩ := add_err (u := m + 303) f3 f4 (Nat.le_trans (Int.natAbs_add_le p3 p4) (two b3 b4)) (by rw [mx64]; omega)
  rw [hf, show m + 303 - 52 = (m + 250) + 1 by omega] at g3 k3
  have g4 := abs_sub2 n1 n2
  have k4 := abs_add2 n3 n4
  have g5 := abs_tri (half_le g3) g4
  have k5 := abs_tri (half_le k3) k4
  have eg : X1 * X2 * 2 ^ 170 * 2 ^ m - Y1 * Y2 * 2 ^ 170 * 2 ^ m = (X1 * X2 - Y1 * Y2) * 2 ^ 170 * 2 ^ m := by rw [Int.sub_mul, Int.sub_mul]
  have ek : X1 * Y2 * 2 ^ 170 * 2 ^ m + Y1 * X2 * 2 ^ 170 * 2 ^ m = (X1 * Y2 + Y1 * X2) * 2 ^ 170 * 2 ^ m := by rw [Int.add_mul, Int.add_mul]
  rw [eg] at g5
  rw [ek] at k5
  obtain ⟨c0, hc0⟩ : ∃ c, c = 281 := ⟨_, rfl⟩
  have sm := small_sum2 (m := m) hc0 hE hF
  have A := part_near2 hc0 hm hD (b := mre c d) g1 (Nat.le_trans g5 (by rw [Nat.add_comm]; exact sm)) hT hT2
  have B := part_near2 hc0 hm hD (b := mim c d) k1 (Nat.le_trans k5 (by rw [Nat.add_comm]; exact sm)) hU hU2
  exact ⟨⟨⟨w1, w3⟩, ⟨w2, w4⟩, A.1, B.1⟩, ⟨A.2, B.2⟩⟩
/-! ### Conjugates, multiples, sums -/
theorem neg_near {b : Nat} {X : Int} {E : Nat} (h : nearP b X E) : nearP (cf .f32 (Op.negFloat .f32 b)) (-X) E := by
  obtain ⟨v, h1, h2⟩ := h
  refine ⟨-v, neg_fin h1, ?_⟩
  have e : -v - -X * 2 ^ 85 = -(v - X * 2 ^ 85) := by rw [Int.neg_mul]; omega
  rw [e, Int.natAbs_neg]
  exact h2
theorem conj_near {c : CB} {X Y : Int} {E : Nat} (h : nearC c X Y E) : nearC (cjB c) X (-Y) E := ⟨h.a, neg_near h.b⟩
theorem div_rest (T : Nat) (X : Int) : ∃ r : Int, (T : Int) * X = ((T : Int) * X / 2 ^ 64) * 2 ^ 64 + r ∧ 0 ≤ r ∧ r < 2 ^ 64 := by
  refine ⟨(T : Int) * X % 2 ^ 64, ?_, Int.emod_nonneg _ (by decide), Int.emod_lt_of_pos _ (by decide)⟩
  have := Int.mul_ediv_add_emod ((T : Int) * X) (2 ^ 64)
  rw [Int.mul_comm] at this
  exact this.symm
theorem rest_abs {r : Int} (h0 : 0 ≤ r) (h1 : r < 2 ^ 64) : r.natAbs ≤ 2 ^ 64 := by
  have e : (2 : Int) ^ 64 = 18446744073709551616 := by decide
  have e2 : (2 : Nat) ^ 64 = 18446744073709551616 := by decide
  rw [e] at h1
  rw [e2]
  omega
/-- A number that is near, times one of at most 1 that is known. -/
theorem scale_near {p t T : Nat} {X : Int} (hp : nearP p X (2 ^ 41)) (hX : X.natAbs ≤ 18446744073710600192) (ht : Fl.fin .f32 t ((T : Nat) * 2 ^ 85)) (hT : T ≤ 2 ^ 64) : nearP (farith .mul .f32 p t) ((T : Int) * X / 2 ^ 64) (2 ^ 43) := by
  obtain ⟨va, ha, hv⟩ := hp
  obtain ⟨c, hc⟩ : ∃ c, c = 149 := ⟨_, rfl⟩
  have hlp : (-lp .f32).toNat = c := by rw [hc]; decide
  have hab : va.natAbs ≤ 2 ^ 150 := abs_sum hv (by rw [abs_mul_pow]; exact Nat.mul_le_mul_right _ hX) (by decide)
  have hvt : (va * ((T : Int) * 2 ^ 85)).natAbs ≤ 2 ^ (150 + c) := by
    rw [Int.natAbs_mul, Nat.pow_add]
    refine Nat.mul_le_mul hab ?_
    rw [abs_mul_pow, Int.natAbs_natCast]
    refine Nat.le_trans (Nat.mul_le_mul_right _ hT) ?_
    rw [← Nat.pow_add]
    exact Nat.pow_le_pow_right (by decide) (by omega)
  obtain ⟨v, h1, _, h3⟩ := mul_err (u := 150) ha ht (by rw [hlp]; exact hvt) (by decide)
  have hf : FloatKind.f32.format.fractionBits = 23 := rfl
  rw [hlp, hf, show c + (150 - 23) = (126 + c) + 1 by omega] at h3
  have h4 := half_le h3
  refine ⟨v, h1, ?_⟩
  obtain ⟨r, er, r0, r1⟩ := div_rest T X
  have hr := rest_abs r0 r1
  generalize (T : Int) * X / 2 ^ 64 = R at *
  -- va * (T * 2^85) against R * 2^85 * 2^c
  have k1 : (va * ((T : Int) * 2 ^ 85) - R * 2 ^ 85 * 2 ^ c).natAbs ≤ 2 ^ 126 * 2 ^ c + 2 ^ 85 * 2 ^ c := by
    have e : va * ((T : Int) * 2 ^ 85) - R * 2 ^ 85 * 2 ^ c = (va - X * 2 ^ 85) * ((T : Int) * 2 ^ 85) + r * 2 ^ 170 := by
      have ec : (2 : Int) ^ c = 2 ^ 64 * 2 ^ 85 := by rw [hc]; decide
      have e170 : (2 : Int) ^ 170 = 2 ^ 85 * 2 ^ 85 := by decide
      rw [ec, e170]
      generalize (2 : Int) ^ 85 = P at *
      generalize (2 : Int) ^ 64 = Q at *
      grind
    rw [e]
    refine Nat.le_trans (Int.natAbs_add_le _ _) (Nat.add_le_add ?_ ?_)
    · rw [Int.natAbs_mul]
      have q : ((T : Int) * 2 ^ 85).natAbs ≤ 2 ^ c := by
        rw [abs_mul_pow, Int.natAbs_natCast, show c = 64 + 85 by omega, Nat.pow_add]
        exact Nat.mul_le_mul_right _ hT
      refine Nat.mul_le_mul (Nat.le_trans hv (by decide)) q
    · rw [abs_mul_pow]
      refine Nat.le_trans (Nat.mul_le_mul_right _ hr) ?_
      rw [← Nat.pow_add, ← Nat.pow_add]
      exact Nat.pow_le_pow_right (by decide) (by omega)
  have k2 := abs_tri h4 k1
  rw [Nat.pow_add, ← Nat.add_mul, ← Nat.add_mul] at k2
  have e2 : v * 2 ^ c - R * 2 ^ 85 * 2 ^ c = (v - R * 2 ^ 85) * 2 ^ c := (Int.sub_mul _ _ _).symm
  rw [e2, abs_mul_pow] at k2
  exact Nat.le_trans (Nat.le_of_mul_le_mul_right k2 (Nat.two_pow_pos c)) (by decide)
theorem scaleC_near {c : CB} {t T : Nat} {X Y : Int} (hp : nearC c X Y (2 ^ 41)) (hX : X.natAbs ≤ 18446744073710600192) (hY : Y.natAbs ≤ 18446744073710600192) (ht : Fl.fin .f32 t ((T : Nat) * 2 ^ 85)) (hT : T ≤ 2 ^ 64) : nearC (scB c t) ((T : Int) * X / 2 ^ 64) ((T : Int) * Y / 2 ^ 64) (2 ^ 43) := ⟨scale_near hp.a hX ht hT, scale_near hp.b hY ht hT⟩
theorem add_near {a b : Nat} {X Y : Int} {E F : Nat} (ha : nearP a X E) (hb : nearP b Y F) (h : X.natAbs + Y.natAbs + (E + F) ≤ 2 ^ 69) : nearP (farith .add .f32 a b) (X + Y) (E + F + 2 ^ 45) := by
  obtain ⟨va, h1, h2⟩ := ha
  obtain ⟨vb, h3, h4⟩ := hb
  have h5 := abs_add2 h2 h4
  rw [← Int.add_mul, ← Nat.add_mul] at h5
  have hs : (va + vb).natAbs ≤ 2 ^ 154 := by
    refine abs_sum h5 (q := (X.natAbs + Y.natAbs) * 2 ^ 85) (by rw [abs_mul_pow]; exact Nat.mul_le_mul_right _ (Int.natAbs_add_le X Y)) ?_
    rw [← Nat.add_mul, show 154 = 69 + 85 from rfl, Nat.pow_add]
    exact Nat.mul_le_mul_right _ (by omega)
  obtain ⟨v, g1, _, g3⟩ := add_err (u := 154) h1 h3 hs (by decide)
  have hf : FloatKind.f32.format.fractionBits = 23 := rfl
  rw [hf, show 154 - 23 = 130 + 1 from rfl] at g3
  have g4 := abs_tri (half_le g3) h5
  refine ⟨v, g1, Nat.le_trans g4 ?_⟩
  rw [Nat.add_mul (E + F), show 130 = 45 + 85 from rfl, Nat.pow_add, Nat.add_comm]
  exact Nat.le_refl _
theorem addC_near {c d : CB} {X Y U V : Int} {E F : Nat} (hc : nearC c X Y E) (hd : nearC d U V F) (h : X.natAbs + U.natAbs + (E + F) ≤ 2 ^ 69) (h' : Y.natAbs + V.natAbs + (E + F) ≤ 2 ^ 69) : nearC (addB c d) (X + U) (Y + V) (E + F + 2 ^ 45) := ⟨add_near hc.a hd.a h, add_near hc.b hd.b h'⟩
theorem zeroP_near : nearP 0 0 0 := ⟨0, zero_fin, by decide⟩
/-- Sums of so many. -/
def suZ (T : Nat → Int) : Nat → Int
  | 0 => 0
  | n + 1 => suZ T n + T n
theorem suZ_le {T : Nat → Int} {B : Nat} : ∀ {n : Nat}, (∀ i, i < n → (T i).natAbs ≤ B) → (suZ T n).natAbs ≤ n * B
  | 0, _ => by simp [suZ]
  | n + 1, h => by
    have ih := suZ_le (fun i hi => h i (Nat.lt_succ_of_lt hi))
    have := h n (Nat.lt_succ_self n)
    have e : suZ T (n + 1) = suZ T n + T n := rfl
    have q := Int.natAbs_add_le (suZ T n) (T n)
    rw [e, Nat.add_mul, Nat.one_mul]
    omega
theorem dot_ar {a b m1 m2 A B C R : Nat} (h1 : a ≤ m1) (h2 : m1 ≤ 15 * A) (h3 : b ≤ A) (h4 : m2 ≤ 15 * B) (hb : 15 * A + A + (15 * B + C) ≤ R) : a + b + (m2 + C) ≤ R := by omega
theorem dot_nearG {f g : Nat → CB} {T U : Nat → Int} {K A B : Nat} (hB : B = K + 2 ^ 45) (hb : 15 * A + A + (15 * B + K) ≤ 2 ^ 69) : ∀ {n : Nat}, n ≤ 16 → (∀ i, i < n → (T i).natAbs ≤ A) → (∀ i, i < n → (U i).natAbs ≤ A) → (∀ i, i < n → nearC (mulB (f i) (g i)) (T i) (U i) K) → nearC (dotB f g n) (suZ T n) (suZ U n) (n * B) := by
  intro n
  induction n with
  | zero =>
    intro _ _ _ _
    rw [Nat.zero_mul]
    exact ⟨zeroP_near, zeroP_near⟩
  | succ n IH =>
    intro hn hT hU h
    have ih := IH (by omega) (fun i hi => hT i (Nat.lt_succ_of_lt hi)) (fun i hi => hU i (Nat.lt_succ_of_lt hi)) (fun i hi => h i (Nat.lt_succ_of_lt hi))
    have s1 := suZ_le (n := n) (B := A) (fun i hi => hT i (Nat.lt_succ_of_lt hi))
    have s2 := suZ_le (n := n) (B := A) (fun i hi => hU i (Nat.lt_succ_of_lt hi))
    have t1 := hT n (Nat.lt_succ_self n)
    have t2 := hU n (Nat.lt_succ_self n)
    have m1 : n * A ≤ 15 * A := Nat.mul_le_mul_right _ (by omega)
    have m2 : n * B ≤ 15 * B := Nat.mul_le_mul_right _ (by omega)
    have k := addC_near ih (h n (Nat.lt_succ_self n)) (dot_ar s1 m1 t1 m2 hb) (dot_ar s2 m1 t2 m2 hb)
    have e : n * B + K + 2 ^ 45 = (n + 1) * B := by rw [Nat.add_mul, Nat.one_mul, Nat.add_assoc, ← hB]
    rw [e] at k
    exact k
theorem dot_near {f g : Nat → CB} {T U : Nat → Int} {n : Nat} (hn : n ≤ 16) (hT : ∀ i, i < n → (T i).natAbs ≤ 2 ^ 64 + 2 ^ 40) (hU : ∀ i, i < n → (U i).natAbs ≤ 2 ^ 64 + 2 ^ 40) (h : ∀ i, i < n → nearC (mulB (f i) (g i)) (T i) (U i) (2 ^ 49)) : nearC (dotB f g n) (suZ T n) (suZ U n) (n * (2 ^ 49 + 2 ^ 45)) := dot_nearG rfl (by decide) hn hT hU h
end Go.Proofs.Ytelogajobjflfaa.Sim

/- Tapered sums: what they are near to. Lemmas only; no condition. -/
set_option linter.unusedSimpArgs false
set_option linter.unusedVariables false
set_option maxRecDepth 8000
namespace Go.Proofs.Ytelogajobjflfaa.Sim
open Go Go.RowKit Fl
/-- What bits of a narrow float are worth, in units of 2 ^ -64. -/
def tW (b : Nat) : Nat := (8388608 + b % 8388608) * 2 ^ (b / 8388608 - 86)
theorem tW_fin {b : Nat} (h1 : 86 ≤ b / 8388608) (h2 : b / 8388608 < 255) : Fl.fin .f32 b ((tW b : Nat) * 2 ^ 85) := by
  have hB : FloatKind.f32.format.binade = 8388608 := by decide
  have hS : FloatKind.f32.format.signWeight = 2147483648 := by decide
  have hI : FloatKind.f32.format.infRung = 2139095040 := by decide
  have hlt : b < 2139095040 := by omega
  have hd : FloatKind.f32.decode b = .number false (8388608 + b % 8388608) (lp .f32 + (b / 8388608 - 1 : Nat)) := by
    unfold FloatKind.decode Ieee.Format.read
    have e1 : b / 2147483648 = 0 := Nat.div_eq_of_lt (by omega)
    have e2 : b % 2147483648 = b := Nat.mod_eq_of_lt (by omega)
    simp only [hS, e1, e2, hB, hI]
    rw [if_neg (by omega), if_pos hlt]
    rfl
  refine ⟨false, _, _, hd, ?_⟩
  unfold tW
  have e : b / 8388608 - 1 = (b / 8388608 - 86) + 85 := by omega
  rw [e]
  generalize b / 8388608 - 86 = q
  generalize 8388608 + b % 8388608 = m
  simp only [sg, Bool.false_eq_true, if_false]
  rw [Int.natCast_mul, Int.natCast_pow, Int.pow_add, Int.mul_assoc]
  rfl
def smF (c n : Nat) : Nat → Nat
  | 0 => 0
  | k + 1 => farith .add .f64 (smF c n k) (wd (tpL c n k))
def mxF (c n : Nat) : Nat → Nat
  | 0 => 0
  | k + 1 => fmax true .f64 (mxF c n k) (wd (tpL c n k))
def thF (n : Nat) : Nat := farith .mul .f64 4562254508917369340 (nf64 ((n : Int) + 1))
def tpOk (c n k : Nat) : Bool :=
  let b := tpL c n k
  decide (86 ≤ b / 8388608) && decide (b / 8388608 < 255) && decide (tW b ≤ 18446744073709551616) && decide (fconv .f32 b .f64 = some (wd b)) && fcmp .leq .f32 0 b && !(fcmp .lss .f64 4607182869159980145 (wd b)) && !(fcmp .lss .f64 4547007122018943789 (gpF (wd b) (wd (tpL c n (n - 1 - k)))))
def suOk (c n : Nat) : Bool :=
  decide (((wOf (smF c n n) : Nat) : Int) = suZ (fun k => ((tW (tpL c n k) : Nat) : Int)) n) && decide (1011 ≤ smF c n n / 4503599627370496) && decide (smF c n n / 4503599627370496 < 2047) && fcmp .lss .f64 4603579539098121011 (mxF c n n)
def thOk (n : Nat) : Bool := decide (18014398509481984 < wOf (thF n)) && decide (1011 ≤ thF n / 4503599627370496) && decide (thF n / 4503599627370496 < 2047)
def okRow (c n : Nat) : Bool := n == 0 || ((List.range n).all (tpOk c n) && suOk c n)
theorem th_all : (List.range 17).all thOk = true := by kernel_rfl
theorem ok_row0 : (List.range 17).all (okRow 0) = true := by kernel_rfl
theorem ok_row1 : (List.range 17).all (okRow 1) = true := by kernel_rfl
theorem ok_row2 : (List.range 17).all (okRow 2) = true := by kernel_rfl
theorem ok_row3 : (List.range 17).all (okRow 3) = true := by kernel_rfl
theorem ok_rowc {c n : Nat} (hc : c < 4) (hn : n ≤ 16) : okRow c n = true := by
  match c, hc with
  | 0, _ => exact (List.all_eq_true.1 ok_row0) n (List.mem_range.2 (by omega))
  | 1, _ => exact (List.all_eq_true.1 ok_row1) n (List.mem_range.2 (by omega))
  | 2, _ => exact (List.all_eq_true.1 ok_row2) n (List.mem_range.2 (by omega))
  | 3, _ => exact (List.all_eq_true.1 ok_row3) n (List.mem_range.2 (by omega))
theorem tp_ok {c n k : Nat} (hc : c < 4) (hn : n ≤ 16) (hk : k < n) : 86 ≤ tpL c n k / 8388608 ∧ tpL c n k / 8388608 < 255 ∧ tW (tpL c n k) ≤ 2 ^ 64 ∧ okW (tpL c n k) ∧ fcmp .leq .f32 0 (tpL c n k) = true ∧ fcmp .lss .f64 4607182869159980145 (wd (tpL c n k)) = false ∧ fcmp .lss .f64 4547007122018943789 (gpF (wd (tpL c n k)) (wd (tpL c n (n - 1 - k)))) = false := by
  have h := ok_rowc hc hn
  unfold okRow at h
  have hn0 : (n == 0) = false := by rw [beq_eq_false_iff_ne]; omega
  rw [hn0, Bool.false_or, Bool.and_eq_true] at h
  have h1 := (List.all_eq_true.1 h.1) k (List.mem_range.2 hk)
  unfold tpOk at h1
  simp only [Bool.and_eq_true, decide_eq_true_eq, Bool.not_eq_true'] at h1
  obtain ⟨⟨⟨⟨⟨⟨a, b⟩, c⟩, d⟩, e⟩, f⟩, g⟩ := h1
  exact ⟨a, b, c, d, e, f, g⟩
theorem su_ok {c n : Nat} (hc : c < 4) (hn : n ≤ 16) (h0 : 1 ≤ n) : Fl.fin .f64 (smF c n n) (suZ (fun k => ((tW (tpL c n k) : Nat) : Int)) n * 2 ^ 1010) ∧ fcmp .lss .f64 4603579539098121011 (mxF c n n) = true := by
  have h := ok_rowc hc hn
  unfold okRow at h
  have hn0 : (n == 0) = false := by rw [beq_eq_false_iff_ne]; omega
  rw [hn0, Bool.false_or, Bool.and_eq_true] at h
  have h1 := h.2
  unfold suOk at h1
  simp only [Bool.and_eq_true, decide_eq_true_eq] at h1
  obtain ⟨⟨⟨a, b⟩, c⟩, d⟩ := h1
  rw [← a]
  exact ⟨wOf_fin b c, d⟩
theorem th_ok {n : Nat} (hn : n ≤ 16) : 18014398509481984 < wOf (thF n) ∧ Fl.fin .f64 (thF n) ((wOf (thF n) : Nat) * 2 ^ 1010) := by
  have h := (List.all_eq_true.1 th_all) n (List.mem_range.2 (by omega))
  unfold thOk at h
  simp only [Bool.and_eq_true, decide_eq_true_eq] at h
  exact ⟨h.1.1, wOf_fin h.1.2 h.2⟩
/-! ### Products -/
theorem wt_le {k : Nat} (hk : k ≤ 1024) : ((Wt k : Nat) : Int).natAbs ≤ 18446744073710600192 := by
  have h := allK_at t1_all k (Nat.zero_le _) (by omega)
  unfold t1K at h
  simp only [Bool.and_eq_true, decide_eq_true_eq] at h
  rw [Int.natAbs_natCast]
  exact h.2
theorem q_le (s : Nat) : (qX Wt s).natAbs ≤ 18446744073710600192 ∧ (qY Wt s).natAbs ≤ 18446744073710600192 := by
  unfold qX qY
  exact rot_le (wt_le (by omega)) (wt_le (by omega))
theorem rot_sq (q : Nat) (C S : Int) : rotX q C S * rotX q C S + rotY q C S * rotY q C S = S * S + C * C := by
  unfold rotX rotY
  split
  · exact Int.add_comm _ _
  · split
    · rw [Int.neg_mul_neg]
    · split
      · rw [Int.neg_mul_neg, Int.neg_mul_neg]; exact Int.add_comm _ _
      · rw [Int.neg_mul_neg]
theorem le65 {z : Int} (h : z.natAbs ≤ 18446744073710600192) : z.natAbs ≤ 2 ^ 65 := Nat.le_trans h (by decide)
theorem q_sq2 (s : Nat) : ((340282366920938463463374607431768211456 : Int) - (qX Wt s * qX Wt s + qY Wt s * qY Wt s)).natAbs ≤ 2 ^ 86 := by
  have h := wt_sq (k := s % 1024) (by omega)
  unfold qX qY
  rw [rot_sq]
  have e2 : (38685626227668133590597632 : Nat) ≤ 2 ^ 86 := by decide
  generalize (Wt (s % 1024) : Int) * Wt (s % 1024) + (Wt (1024 - s % 1024) : Int) * Wt (1024 - s % 1024) = z at *
  omega
theorem abs3 {a b c : Int} {p q r R : Nat} (h1 : a.natAbs ≤ p) (h2 : b.natAbs ≤ q) (h3 : c.natAbs ≤ r) (h : p + q + r ≤ R) : (a + b + c).natAbs ≤ R := by omega
theorem mul_abs {a b : Int} {p q : Nat} (h1 : a.natAbs ≤ p) (h2 : b.natAbs ≤ q) : (a * b).natAbs ≤ p * q := by
  rw [Int.natAbs_mul]; exact Nat.mul_le_mul h1 h2
theorem abs_of_mul {Z : Int} {K N : Nat} {Q : Int} (hQ : Q = (N : Nat)) (hN : 0 < N) (h : (Z * Q).natAbs ≤ K * N) : Z.natAbs ≤ K := by
  rw [hQ, Int.natAbs_mul, Int.natAbs_natCast] at h
  exact Nat.le_of_mul_le_mul_right h hN
theorem tp_prod {T : Nat} {X Y : Int} (hT : T ≤ 2 ^ 64) (hx : X.natAbs ≤ 2 ^ 65) (hy : Y.natAbs ≤ 2 ^ 65) (hsq : ((340282366920938463463374607431768211456 : Int) - (X * X + Y * Y)).natAbs ≤ 2 ^ 86) :
    ((T : Int) * 2 ^ 64 - ((T : Int) * X / 2 ^ 64 * X - -((T : Int) * Y / 2 ^ 64) * Y)).natAbs ≤ 2 ^ 111 ∧ ((0 : Int) * 2 ^ 64 - ((T : Int) * X / 2 ^ 64 * Y + -((T : Int) * Y / 2 ^ 64) * X)).natAbs ≤ 2 ^ 111 := by
  obtain ⟨r1, e1, a1, b1⟩ := div_rest T X
  obtain ⟨r2, e2, a2, b2⟩ := div_rest T Y
  have c1 := rest_abs a1 b1
  have c2 := rest_abs a2 b2
  have hTa : ((T : Nat) : Int).natAbs ≤ 2 ^ 64 := by rw [Int.natAbs_natCast]; exact hT
  have eQ : (340282366920938463463374607431768211456 : Int) = 2 ^ 64 * 2 ^ 64 := by decide
  rw [eQ] at hsq
  have hN : (2 : Int) ^ 64 = ((2 ^ 64 : Nat) : Int) := by decide
  generalize (T : Int) * X / 2 ^ 64 = A at *
  generalize (T : Int) * Y / 2 ^ 64 = B at *
  generalize (2 : Int) ^ 64 = Q at *
  refine ⟨abs_of_mul hN (by decide) ?_, abs_of_mul hN (by decide) ?_⟩
  · have e : ((T : Int) * Q - (A * X - -B * Y)) * Q = (T : Int) * (Q * Q - (X * X + Y * Y)) + r1 * X + r2 * Y := by grind
    rw [e]
    exact abs3 (mul_abs hTa hsq) (mul_abs c1 hx) (mul_abs c2 hy) (by decide)
  · have e : ((0 : Int) * Q - (A * Y + -B * X)) * Q = r1 * Y + -(r2 * X) + 0 := by grind
    rw [e]
    exact abs3 (r := 0) (mul_abs c1 hy) (by rw [Int.natAbs_neg]; exact mul_abs c2 hx) (Nat.le_refl _) (by decide)
theorem div_abs {T : Nat} {X : Int} (hT : T ≤ 2 ^ 64) (hx : X.natAbs ≤ 18446744073710600192) : ((T : Int) * X / 2 ^ 64).natAbs ≤ 2 ^ 65 := by
  obtain ⟨r1, e1, a1, b1⟩ := div_rest T X
  have c1 := rest_abs a1 b1
  have hTa : ((T : Nat) : Int).natAbs ≤ 2 ^ 64 := by rw [Int.natAbs_natCast]; exact hT
  have hN : (2 : Int) ^ 64 = ((2 ^ 64 : Nat) : Int) := by decide
  generalize (T : Int) * X / 2 ^ 64 = A at *
  generalize (2 : Int) ^ 64 = Q at *
  refine abs_of_mul hN (by decide) ?_
  have e : A * Q = (T : Int) * X + -r1 + 0 := by grind
  rw [e]
  exact abs3 (r := 0) (mul_abs hTa hx) (by rw [Int.natAbs_neg]; exact c1) (Nat.le_refl _) (by decide)
theorem tp_near {s : Int} {t T : Nat} (hs : s.natAbs < 2 ^ 27) (ht : Fl.fin .f32 t ((T : Nat) * 2 ^ 85)) (hT : T ≤ 2 ^ 64) : okM (cjB (scB (PH s) t)) (PH s) ∧ nearC (mulB (cjB (scB (PH s) t)) (PH s)) ((T : Nat) : Int) 0 (2 ^ 49) := by
  have q := q_le (stM s)
  obtain ⟨p1, p2⟩ := tp_prod (T := T) hT (le65 q.1) (le65 q.2) (q_sq2 (stM s))
  have b : (-((T : Int) * qY Wt (stM s) / 2 ^ 64)).natAbs ≤ 2 ^ 65 := by rw [Int.natAbs_neg]; exact div_abs hT q.2
  exact mul_near2 (conj_near (scaleC_near (PH_near hs) q.1 q.2 ht hT)) (PH_near hs) (div_abs hT q.1) b (le65 q.1) (le65 q.2) (Nat.le_refl _) (by decide) p1 p2 (by rw [Int.natAbs_natCast]; exact Nat.le_trans hT (by decide)) (by decide)
/-! ### Gaps -/
theorem near_gap {b s t M E : Nat} {S : Int} (hb : nearP b S E) (hE : E ≤ 2 ^ 54) (hs : Fl.fin .f64 s (S * 2 ^ 1010)) (ht : Fl.fin .f64 t ((M : Nat) * 2 ^ 1010)) (hM : 18014398509481984 < M) : okW b ∧ fcmp .lss .f64 (gpF (wd b) s) t = true := by
  obtain ⟨D, hD⟩ : ∃ D, D = 925 := ⟨_, rfl⟩
  obtain ⟨c, hc⟩ : ∃ c, c = 1010 := ⟨_, rfl⟩
  obtain ⟨w, hw⟩ : ∃ w, w = 1064 := ⟨_, rfl⟩
  rw [← hc] at hs ht
  obtain ⟨v, h1, h2⟩ := hb
  have ok : okW b := by
    obtain ⟨r, g1, _⟩ := widen_fin h1
    exact (okW_of g1).1
  have hv := wd_fin h1
  rw [← hD] at hv
  have e85 : (2 : Int) ^ c = 2 ^ 85 * 2 ^ D := by rw [← Int.pow_add, show c = 85 + D by omega]
  have hdif : (v * 2 ^ D - S * 2 ^ c).natAbs ≤ 2 ^ w := by
    have e : v * 2 ^ D - S * 2 ^ c = (v - S * 2 ^ 85) * 2 ^ D := by rw [e85, ← Int.mul_assoc]; exact (Int.sub_mul _ _ _).symm
    rw [e, abs_mul_pow]
    refine Nat.le_trans (Nat.mul_le_mul_right _ (Nat.le_trans h2 (Nat.mul_le_mul_right _ hE))) ?_
    rw [← Nat.pow_add, ← Nat.pow_add]
    exact Nat.pow_le_pow_right (by decide) (by omega)
  obtain ⟨v1, f1, g1, _⟩ := sub_err (u := w) hv hs hdif (by rw [mx64]; omega)
  obtain ⟨v2, f2, g2, _⟩ := sub_err (u := w) hs hv (by rw [← Int.natAbs_neg, Int.neg_sub]; exact hdif) (by rw [mx64]; omega)
  have e54 : 2 ^ w = 18014398509481984 * 2 ^ c := by rw [show w = 54 + c by omega, Nat.pow_add]
  have hlt : 2 ^ w < M * 2 ^ c := by rw [e54]; exact Nat.mul_lt_mul_of_pos_right hM (Nat.two_pow_pos c)
  have eM : ((M : Nat) : Int) * 2 ^ c = ((M * 2 ^ c : Nat) : Int) := by rw [Int.natCast_mul, Int.natCast_pow]; rfl
  rw [eM] at ht
  generalize M * 2 ^ c = m at *
  refine ⟨ok, ?_⟩
  unfold gpF
  rcases fmax_or f1 f2 with q | q <;> rw [q]
  · rw [cmp_lt f1 ht]
    exact decide_eq_true (by omega)
  · rw [cmp_lt f2 ht]
    exact decide_eq_true (by omega)
end Go.Proofs.Ytelogajobjflfaa.Sim

/- The law FnTapers. Lemmas only; no condition. -/
set_option linter.unusedSimpArgs false
set_option linter.unusedVariables false
set_option maxRecDepth 8000
namespace Go.Proofs.Ytelogajobjflfaa.Sim
open Go Go.RowKit Fl
variable {ro lo hi lo' hi' n : Nat} {X : Ext} {h : Heap} {x y : Value} {l : List Int} {u v : Int} {cd md : List UInt8}
set_option maxHeartbeats 16000000 in
theorem lawTaper_c (hX : XN X) (hX0 : XN xS0) (hW : XDW xS0) (hA : XAbs X) (hx : X 127 = xPl ro xS0 127) (hV : VS lo hi 1 h x cd.length (cd.map u8v)) (hU : VS lo' hi' 1 h y md.length (md.map u8v)) (hhi : hi ≤ h.length) (hhi' : hi' ≤ h.length) (hro : ro ≤ h.length) (hl : cd.length ≤ 140737488351232) (hl' : md.length ≤ 140737488351232) :
    CallR Try.prog ro X 14 [x, y] h (fun r h' => r = .bool true) := by
  refine callR_of (hX _ rfl) Try.func14 rfl (by kernel_rfl) (Nat.le_of_ble_eq_true rfl) ?_
  by_cases hlong : (decide (48 < cd.length) || decide (48 < md.length)) = true
  · (repeat' first | simp -dsimp (disch := first | omega | assumption | (refine OkS.sto ?_ (by omega); first | assumption | (refine OkS.sto ?_ (by omega); first | assumption | (refine OkS.sto ?_ (by omega); first | assumption | (refine OkS.sto ?_ (by omega); first | assumption | (refine OkS.sto ?_ (by omega); first | assumption | (refine OkS.sto ?_ (by omega); first | assumption)))))) | exact Pfx.refl _ | (apply Pfx.snoc; repeat (first | exact Pfx.refl _ | assumption | apply Pfx.snoc)) | with_unfolding_all exact of_eq_true (eq_true rfl) | (simp only [List.length_append, List.length_cons, List.length_nil]; omega)) only [↓wpre0, ↓wpre1, ↓reduceIte, Int.reduceToNat, Nat.reduceAdd, Nat.reduceMul, Nat.reduceEqDiff, wpost0, wpost1, wpost2, wpost3, wpost4, ite_self, ite_true, ite_false, if_true, if_false, tze62, xst62, xlen54, xld62, un_not, xlen24, bin_neq, xlen44, bin_lss, xiad24, xld29, bin_fgeq, xcv29_59, bin_fgtr, bin_sub, bin_fadd, blt_maxI, bin_add, blt_real, xcv2_59, bin_fmul, bin_flss, blt_imag, fr14, wrap_int, wrap_u8, iteP_yes, iteP_no, r8Long_r (hX _ rfl) hV hU (by omega) (by omega), hlong] | refine iteP_two (fun hc hd => ?_) (fun hc hd => ?_) | refine iteP_intro (fun hc => ?_) (fun hc => ?_))
  have hlong' : (decide (48 < cd.length) || decide (48 < md.length)) = false := by simpa using hlong
  have hc1 : cd.length ≤ 48 := by simp at hlong'; omega
  have hm1 : md.length ≤ 48 := by simp at hlong'; omega
  (repeat' first | simp -dsimp (disch := first | omega | assumption | (refine OkS.sto ?_ (by omega); first | assumption | (refine OkS.sto ?_ (by omega); first | assumption | (refine OkS.sto ?_ (by omega); first | assumption | (refine OkS.sto ?_ (by omega); first | assumption | (refine OkS.sto ?_ (by omega); first | assumption | (refine OkS.sto ?_ (by omega); first | assumption)))))) | exact Pfx.refl _ | (apply Pfx.snoc; repeat (first | exact Pfx.refl _ | assumption | apply Pfx.snoc)) | with_unfolding_all exact of_eq_true (eq_true rfl) | (simp only [List.length_append, List.length_cons, List.length_nil]; omega)) only [↓wpre0, ↓wpre1, ↓reduceIte, Int.reduceToNat, Nat.reduceAdd, Nat.reduceMul, Nat.reduceEqDiff, wpost0, wpost1, wpost2, wpost3, wpost4, ite_self, ite_true, ite_false, if_true, if_false, tze62, xst62, xlen54, xld62, un_not, xlen24, bin_neq, xlen44, bin_lss, xiad24, xld29, bin_fgeq, xcv29_59, bin_fgtr, bin_sub, bin_fadd, blt_maxI, bin_add, blt_real, xcv2_59, bin_fmul, bin_flss, blt_imag, fr14, wrap_int, wrap_u8, iteP_yes, iteP_no, r8Long_r (hX _ rfl) hV hU (by omega) (by omega), hlong'] | refine iteP_two (fun hc hd => ?_) (fun hc hd => ?_) | refine iteP_intro (fun hc => ?_) (fun hc => ?_))
  refine cf_rel (Places_c hW hX0 (hX _ rfl) (hX _ rfl) hx hV hro hhi (by omega)) (fun q => by cases q) ?_
  rintro r H1 ⟨n, yb, yc, l, rfl, hyb, hD, hll, hg, hr, p1⟩
  have hI := is_blk (dc := yc) hD hll
  have l1 := p1.len
  have n16 := hg.n16
  have n1 := hg.n1
  have hU1 := hU.pre p1
  have hyb1 : yb < H1.length := by
    rcases Nat.lt_or_ge yb H1.length with q | q
    · exact q
    · rw [List.getElem?_eq_none q] at hD; cases hD
  have ht1 : tyP ro H1 (.slice (some ⟨yb, 0, none⟩) n yc) := fun _ => by show (H1[yb]?).map Blk.ty = _; rw [hD]; rfl
  (repeat' first | simp -dsimp (disch := first | omega | assumption | (refine OkS.sto ?_ (by omega); first | assumption | (refine OkS.sto ?_ (by omega); first | assumption | (refine OkS.sto ?_ (by omega); first | assumption | (refine OkS.sto ?_ (by omega); first | assumption | (refine OkS.sto ?_ (by omega); first | assumption | (refine OkS.sto ?_ (by omega); first | assumption)))))) | exact Pfx.refl _ | (apply Pfx.snoc; repeat (first | exact Pfx.refl _ | assumption | apply Pfx.snoc)) | with_unfolding_all exact of_eq_true (eq_true rfl) | (simp only [List.length_append, List.length_cons, List.length_nil]; omega)) only [↓wpre0, ↓wpre1, ↓reduceIte, Int.reduceToNat, Nat.reduceAdd, Nat.reduceMul, Nat.reduceEqDiff, wpost0, wpost1, wpost2, wpost3, wpost4, ite_self, ite_true, ite_false, if_true, if_false, tze62, xst62, xlen54, xld62, un_not, xlen24, bin_neq, xlen44, bin_lss, xiad24, xld29, bin_fgeq, xcv29_59, bin_fgtr, bin_sub, bin_fadd, blt_maxI, bin_add, blt_real, xcv2_59, bin_fmul, bin_flss, blt_imag, fr14, wrap_int, wrap_u8, iteP_yes, iteP_no] | refine iteP_two (fun hc hd => ?_) (fun hc hd => ?_) | refine iteP_intro (fun hc => ?_) (fun hc => ?_))
  refine cf_rel (EightD_c hX hU1 (by omega) (by omega) (by omega)) (fun q => by cases q) ?_
  rintro _ H1 ⟨a, b, ha, hb, rfl, e1⟩
  subst e1
  have hd := dir_91 ha hb
  generalize (a : Int) - 45 = u at *
  generalize (b : Int) - 45 = v at *
  have pG1 : Pfx H1 (H1 ++ [(⟨62, [.int .i64 u, .int .i64 v]⟩ : Blk)]) := (Pfx.refl H1).snoc
  obtain ⟨c, hc, hat⟩ := r8At_r (ro := ro) (X := X) (hX _ rfl) (hU1.pre pG1) (i := 40) (n := 4) (by omega) (by omega) (by omega) (by omega) (by omega)
  have hc4 : c < 4 := by omega
  have cG1 : cells (H1 ++ [(⟨62, [.int .i64 u, .int .i64 v]⟩ : Blk)]) H1.length 0 2 = some (.agg ⟨[.int .i64 u, .int .i64 v]⟩) := cells_last rfl (by simp)
  (repeat' first | simp -dsimp (disch := first | omega | assumption | (refine OkS.sto ?_ (by omega); first | assumption | (refine OkS.sto ?_ (by omega); first | assumption | (refine OkS.sto ?_ (by omega); first | assumption | (refine OkS.sto ?_ (by omega); first | assumption | (refine OkS.sto ?_ (by omega); first | assumption | (refine OkS.sto ?_ (by omega); first | assumption)))))) | exact Pfx.refl _ | (apply Pfx.snoc; repeat (first | exact Pfx.refl _ | assumption | apply Pfx.snoc)) | with_unfolding_all exact of_eq_true (eq_true rfl) | (simp only [List.length_append, List.length_cons, List.length_nil]; omega)) only [↓wpre0, ↓wpre1, ↓reduceIte, Int.reduceToNat, Nat.reduceAdd, Nat.reduceMul, Nat.reduceEqDiff, wpost0, wpost1, wpost2, wpost3, wpost4, ite_self, ite_true, ite_false, if_true, if_false, tze62, xst62, xlen54, xld62, un_not, xlen24, bin_neq, xlen44, bin_lss, xiad24, xld29, bin_fgeq, xcv29_59, bin_fgtr, bin_sub, bin_fadd, blt_maxI, bin_add, blt_real, xcv2_59, bin_fmul, bin_flss, blt_imag, fr14, wrap_int, wrap_u8, iteP_yes, iteP_no, hat, (hI.pre pG1).len Try.underlying54] | refine iteP_two (fun hc hd => ?_) (fun hc hd => ?_) | refine iteP_intro (fun hc => ?_) (fun hc => ?_))
  obtain ⟨G1, hG1⟩ : ∃ G, G = H1 ++ [(⟨62, [.int .i64 u, .int .i64 v]⟩ : Blk)] := ⟨_, rfl⟩
  have lG1 : G1.length = H1.length + 1 := by rw [hG1]; simp
  have dG1 : G1[H1.length]? = some ⟨62, [.int .i64 u, .int .i64 v]⟩ := by rw [hG1]; exact get_last rfl
  rw [← hG1] at pG1 cG1 hat ⊢
  have cD : ∀ {G : Heap}, Pfx G1 G → cells G H1.length 0 2 = some (.agg ⟨[.int .i64 u, .int .i64 v]⟩) := fun p => cellsb (o := 0) (n := 2) ((p.get (by omega)).trans dG1) (by simp)
  have mI : ∀ {G : Heap}, Pfx G1 G → IS yb (yb + 1) 2 G (.slice (some ⟨yb, 0, none⟩) n yc) n l := fun p => hI.pre (pG1.trans p)
  have mT : ∀ {G : Heap}, Pfx G1 G → tyP ro G (.slice (some ⟨yb, 0, none⟩) n yc) := fun p => ht1.pre hI (by omega) (pG1.trans p)
  have x0 := Pfx.refl G1
  refine cf_rel (TaperOf_c hX hA hc4 n16 n1 (by omega)) (fun q => by cases q) ?_
  rintro _ G2 ⟨z1, rfl, x2, hz1⟩
  have lG2 := x2.len
  (repeat' first | simp -dsimp (disch := first | omega | assumption | (refine OkS.sto ?_ (by omega); first | assumption | (refine OkS.sto ?_ (by omega); first | assumption | (refine OkS.sto ?_ (by omega); first | assumption | (refine OkS.sto ?_ (by omega); first | assumption | (refine OkS.sto ?_ (by omega); first | assumption | (refine OkS.sto ?_ (by omega); first | assumption)))))) | exact Pfx.refl _ | (apply Pfx.snoc; repeat (first | exact Pfx.refl _ | assumption | apply Pfx.snoc)) | with_unfolding_all exact of_eq_true (eq_true rfl) | (simp only [List.length_append, List.length_cons, List.length_nil]; omega)) only [↓wpre0, ↓wpre1, ↓reduceIte, Int.reduceToNat, Nat.reduceAdd, Nat.reduceMul, Nat.reduceEqDiff, wpost0, wpost1, wpost2, wpost3, wpost4, ite_self, ite_true, ite_false, if_true, if_false, tze62, xst62, xlen54, xld62, un_not, xlen24, bin_neq, xlen44, bin_lss, xiad24, xld29, bin_fgeq, xcv29_59, bin_fgtr, bin_sub, bin_fadd, blt_maxI, bin_add, blt_real, xcv2_59, bin_fmul, bin_flss, blt_imag, fr14, wrap_int, wrap_u8, iteP_yes, iteP_no, cD x2] | refine iteP_two (fun hc hd => ?_) (fun hc hd => ?_) | refine iteP_intro (fun hc => ?_) (fun hc => ?_))
  refine cf_rel (SteerW_c hX hA (mI x2) (mT x2) hg hd hz1.vsl (by omega) (by omega) (by omega)) (fun q => by cases q) ?_
  rintro _ G3 ⟨z2, rfl, y3, hz2⟩
  have lG3 := y3.len
  have x3 := x2.trans y3
  (repeat' first | simp -dsimp (disch := first | omega | assumption | (refine OkS.sto ?_ (by omega); first | assumption | (refine OkS.sto ?_ (by omega); first | assumption | (refine OkS.sto ?_ (by omega); first | assumption | (refine OkS.sto ?_ (by omega); first | assumption | (refine OkS.sto ?_ (by omega); first | assumption | (refine OkS.sto ?_ (by omega); first | assumption)))))) | exact Pfx.refl _ | (apply Pfx.snoc; repeat (first | exact Pfx.refl _ | assumption | apply Pfx.snoc)) | with_unfolding_all exact of_eq_true (eq_true rfl) | (simp only [List.length_append, List.length_cons, List.length_nil]; omega)) only [↓wpre0, ↓wpre1, ↓reduceIte, Int.reduceToNat, Nat.reduceAdd, Nat.reduceMul, Nat.reduceEqDiff, wpost0, wpost1, wpost2, wpost3, wpost4, ite_self, ite_true, ite_false, if_true, if_false, tze62, xst62, xlen54, xld62, un_not, xlen24, bin_neq, xlen44, bin_lss, xiad24, xld29, bin_fgeq, xcv29_59, bin_fgtr, bin_sub, bin_fadd, blt_maxI, bin_add, blt_real, xcv2_59, bin_fmul, bin_flss, blt_imag, fr14, wrap_int, wrap_u8, iteP_yes, iteP_no, cD x3] | refine iteP_two (fun hc hd => ?_) (fun hc hd => ?_) | refine iteP_intro (fun hc => ?_) (fun hc => ?_))
  refine cf_rel (SteeringOf_c hX hA (mI x3) (mT x3) hg hd (by omega) (by omega)) (fun q => by cases q) ?_
  rintro _ G4 ⟨z3, rfl, y4, hz3⟩
  have lG4 := y4.len
  have x4 := x3.trans y4
  have tn : ∀ i, i < n → okM (cjB (scB (PH (stpN l u v i)) (tpF c n i))) (PH (stpN l u v i)) ∧ nearC (mulB (cjB (scB (PH (stpN l u v i)) (tpF c n i))) (PH (stpN l u v i))) ((tW (tpL c n i) : Nat) : Int) 0 (2 ^ 49) := fun i hi => by
    have q := tp_ok hc4 n16 hi
    rw [tp_at hc4 n16 hi]
    exact tp_near (stp_lt (l := l) hg hd hi) (tW_fin q.1 q.2.1) q.2.2.1
  have hdot := DotC_r (ro := ro) hX (hz2.pre y4) hz3 (by omega) (fun i hi => (tn i hi).1)
  obtain ⟨D, hD'⟩ : ∃ D, D = dotB (fun i => cjB (scB (PH (stpN l u v i)) (tpF c n i))) (fun i => PH (stpN l u v i)) n := ⟨_, rfl⟩
  have hDn : nearC D (suZ (fun k => ((tW (tpL c n k) : Nat) : Int)) n) (suZ (fun _ => 0) n) (n * (2 ^ 49 + 2 ^ 45)) := by
    rw [hD']
    exact dot_near n16 (fun i hi => by rw [Int.natAbs_natCast]; exact Nat.le_trans (tp_ok hc4 n16 hi).2.2.1 (by decide)) (fun i _ => by decide) (fun i hi => (tn i hi).2)
  rw [← hD'] at hdot
  have hE : n * (2 ^ 49 + 2 ^ 45) ≤ 2 ^ 54 := Nat.le_trans (Nat.mul_le_mul_right _ n16) (by decide)
  obtain ⟨sF, sM⟩ := su_ok hc4 n16 n1
  obtain ⟨tM, tF⟩ := th_ok n16
  obtain ⟨w1, c1⟩ := near_gap hDn.a hE sF tF tM
  have z0 : suZ (fun _ => 0) n = 0 := by
    have := suZ_le (T := fun _ => 0) (B := 0) (n := n) (fun _ _ => by decide)
    omega
  obtain ⟨w2, c2⟩ := near_gap (s := 0) hDn.b hE (by rw [z0, Int.zero_mul]; exact zero_fin64) tF tM
  clear hD' hDn hE tn sF tF
  have eth : thF n = farith .mul .f64 4562254508917369340 (cf .f64 (FloatKind.f64.nearest ((n : Int) + 1))) := rfl
  rw [eth] at c1 c2
  simp only [toV] at hdot
  (repeat' first | simp -dsimp (disch := first | omega | assumption | (refine OkS.sto ?_ (by omega); first | assumption | (refine OkS.sto ?_ (by omega); first | assumption | (refine OkS.sto ?_ (by omega); first | assumption | (refine OkS.sto ?_ (by omega); first | assumption | (refine OkS.sto ?_ (by omega); first | assumption | (refine OkS.sto ?_ (by omega); first | assumption)))))) | exact Pfx.refl _ | (apply Pfx.snoc; repeat (first | exact Pfx.refl _ | assumption | apply Pfx.snoc)) | with_unfolding_all exact of_eq_true (eq_true rfl) | (simp only [List.length_append, List.length_cons, List.length_nil]; omega)) only [↓thenQ_normal, ↓thenQ_exit, ↓thenQ_ret, ↓blockQ_normal, ↓blockQ_exit, ↓blockQ_ret, ↓o_plain, ↓o_nil, ↓o_guard, ↓gvl_zero, ↓gvl_succ, ↓p_move, ↓p_assign, ↓p_pick, ↓p_binOp, ↓p_unOp, ↓wpre1, ↓reduceIte, Int.reduceToNat, Nat.reduceAdd, Nat.reduceMul, Nat.reduceEqDiff, wpost0, wpost1, wpost2, wpost3, wpost4, ite_self, ite_true, ite_false, if_true, if_false, tze62, xst62, xlen54, xld62, un_not, xlen24, bin_neq, xlen44, bin_lss, xiad24, xld29, bin_fgeq, xcv29_59, bin_fgtr, bin_sub, bin_fadd, blt_maxI, bin_add, blt_real, xcv2_59, bin_fmul, bin_flss, blt_imag, fr14, wrap_int, wrap_u8, iteP_yes, iteP_no] | refine iteP_two (fun hc hd => ?_) (fun hc hd => ?_) | refine iteP_intro (fun hc => ?_) (fun hc => ?_))
  refine env_cut (fun e h2 => h2 = G4 ∧ e 8 = .int .i64 n ∧ e 9 = z1 ∧ e 10 = .bool true ∧ e 11 = z2 ∧ e 12 = .bool true ∧ e 13 = z3 ∧ e 14 = .bool true) ?_ ?_
  · simp only [updO_at, updO_not, entry_at, List.getD_cons_zero, List.getD_cons_succ, ↓reduceIte, Nat.reduceEqDiff, true_and, and_true]
    (repeat' (first | assumption | rfl | omega | refine And.intro ?_ ?_))
  rintro e h' ⟨rfl, g8, g9, g10, g11, g12, g13, g14⟩
  have hT := hz1.vsl.pre (y3.trans y4)
  have hW2 := hz2.pre y4
  (repeat' first | simp -dsimp (disch := first | omega | assumption | (refine OkS.sto ?_ (by omega); first | assumption | (refine OkS.sto ?_ (by omega); first | assumption | (refine OkS.sto ?_ (by omega); first | assumption | (refine OkS.sto ?_ (by omega); first | assumption | (refine OkS.sto ?_ (by omega); first | assumption | (refine OkS.sto ?_ (by omega); first | assumption)))))) | exact Pfx.refl _ | (apply Pfx.snoc; repeat (first | exact Pfx.refl _ | assumption | apply Pfx.snoc)) | with_unfolding_all exact of_eq_true (eq_true rfl) | (simp only [List.length_append, List.length_cons, List.length_nil]; omega)) only [↓wpre0, ↓wpre1, ↓reduceIte, Int.reduceToNat, Nat.reduceAdd, Nat.reduceMul, Nat.reduceEqDiff, wpost0, wpost1, wpost2, wpost3, wpost4, ite_self, ite_true, ite_false, if_true, if_false, tze62, xst62, xlen54, xld62, un_not, xlen24, bin_neq, xlen44, bin_lss, xiad24, xld29, bin_fgeq, xcv29_59, bin_fgtr, bin_sub, bin_fadd, blt_maxI, bin_add, blt_real, xcv2_59, bin_fmul, bin_flss, blt_imag, fr14, wrap_int, wrap_u8, iteP_yes, iteP_no, hdot, g8, g9, g10, g11, g12, g13, g14, hT.len Try.underlying24, hW2.len] | refine iteP_two (fun hc hd => ?_) (fun hc hd => ?_) | refine iteP_intro (fun hc => ?_) (fun hc => ?_))
  refine loop_exit 0 (fun e h2 => h2 = h' ∧ e 8 = .int .i64 n ∧ e 15 = .complex .f32 D.a D.b ∧ e 17 = .float .f64 (smF c n n) ∧ e 18 = .float .f64 (mxF c n n)) ?_ ?_
  · refine loop_rounds (fun mm e h2 => ∃ i : Nat, mm = n - i ∧ i ≤ n ∧ h2 = h' ∧ e 8 = .int .i64 n ∧ e 9 = z1 ∧ e 15 = .complex .f32 D.a D.b ∧ e 17 = .float .f64 (smF c n i) ∧ e 18 = .float .f64 (mxF c n i) ∧ e 19 = .int .i64 i) _ ⟨0, rfl, ?_⟩ ?_
    · simp only [updO_at, updO_not, entry_at, List.getD_cons_zero, List.getD_cons_succ, ↓reduceIte, Nat.reduceEqDiff, true_and, and_true]
      (repeat' (first | assumption | rfl | omega | exact Nat.zero_le _ | refine And.intro ?_ ?_))
    · clear g8 g9 g10 g11 g12 g13 g14
      rintro mm e h2 ⟨i, hmm, hle, rfl, g8, g9, g15, g17, g18, g19⟩
      have hks : (i : Int) + 1 = ((i + 1 : Nat) : Int) := by omega
      by_cases hi : i < n
      · have hin : (i : Int) < (n : Int) := by omega
        obtain ⟨_, _, _, k4, k5, k6, k7⟩ := tp_ok hc4 n16 hi
        obtain ⟨_, _, _, j4, _⟩ := tp_ok hc4 n16 (show n - 1 - i < n by omega)
        have hla : ∀ j, j < n → ld Try.prog h2 29 (ea z1 (j * 1)) = some (.float .f32 (tpL c n j)) := fun j hj => by
          rw [hT.ld1 tsz29 tag29 (by omega), Nat.mul_one, rowF_at hj, tp_at hc4 n16 hj]
        have hl1 := hla i hi
        have hl2 := hla (n - 1 - i) (by omega)
        have hj : (n : Int) - 1 - (i : Int) = ((n - 1 - i : Nat) : Int) := by omega
        have hg2 := Gap_r (ro := ro) (X := X) hX (wd (tpL c n i)) (wd (tpL c n (n - 1 - i))) h2
        have e17 : farith .add .f64 (smF c n i) (wd (tpL c n i)) = smF c n (i + 1) := rfl
        have e18 : fmax true .f64 (mxF c n i) (wd (tpL c n i)) = mxF c n (i + 1) := rfl
        simp -dsimp (disch := first | omega | assumption | (refine OkS.sto ?_ (by omega); first | assumption | (refine OkS.sto ?_ (by omega); first | assumption | (refine OkS.sto ?_ (by omega); first | assumption | (refine OkS.sto ?_ (by omega); first | assumption | (refine OkS.sto ?_ (by omega); first | assumption | (refine OkS.sto ?_ (by omega); first | assumption)))))) | exact Pfx.refl _ | (apply Pfx.snoc; repeat (first | exact Pfx.refl _ | assumption | apply Pfx.snoc)) | with_unfolding_all exact of_eq_true (eq_true rfl) | (simp only [List.length_append, List.length_cons, List.length_nil]; omega)) only [↓wpre0, ↓wpre1, ↓reduceIte, Int.reduceToNat, Nat.reduceAdd, Nat.reduceMul, Nat.reduceEqDiff, wpost0, wpost1, wpost2, wpost3, wpost4, ite_self, ite_true, ite_false, if_true, if_false, tze62, xst62, xlen54, xld62, un_not, xlen24, bin_neq, xlen44, bin_lss, xiad24, xld29, bin_fgeq, xcv29_59, bin_fgtr, bin_sub, bin_fadd, blt_maxI, bin_add, blt_real, xcv2_59, bin_fmul, bin_flss, blt_imag, fr14, wrap_int, wrap_u8, iteP_yes, iteP_no, g8, g9, g15, g17, g18, g19, hin, hT.iad Try.underlying24 tsz29, hl1, hl2, hj, k5, cv_w k4, cv_w j4, k6, hg2, k7, e17, e18, blt_maxG, Bool.not_true, Bool.not_false]
        exact ⟨n - (i + 1), by omega, i + 1, rfl, by omega, rfl, rfl, by rw [hks]⟩
      · have ei : i = n := by omega
        subst ei
        simp -dsimp (disch := first | omega | assumption | (refine OkS.sto ?_ (by omega); first | assumption | (refine OkS.sto ?_ (by omega); first | assumption | (refine OkS.sto ?_ (by omega); first | assumption | (refine OkS.sto ?_ (by omega); first | assumption | (refine OkS.sto ?_ (by omega); first | assumption | (refine OkS.sto ?_ (by omega); first | assumption)))))) | exact Pfx.refl _ | (apply Pfx.snoc; repeat (first | exact Pfx.refl _ | assumption | apply Pfx.snoc)) | with_unfolding_all exact of_eq_true (eq_true rfl) | (simp only [List.length_append, List.length_cons, List.length_nil]; omega)) only [↓wpre0, ↓wpre1, ↓reduceIte, Int.reduceToNat, Nat.reduceAdd, Nat.reduceMul, Nat.reduceEqDiff, wpost0, wpost1, wpost2, wpost3, wpost4, ite_self, ite_true, ite_false, if_true, if_false, tze62, xst62, xlen54, xld62, un_not, xlen24, bin_neq, xlen44, bin_lss, xiad24, xld29, bin_fgeq, xcv29_59, bin_fgtr, bin_sub, bin_fadd, blt_maxI, bin_add, blt_real, xcv2_59, bin_fmul, bin_flss, blt_imag, fr14, wrap_int, wrap_u8, iteP_yes, iteP_no, g8, g9, g15, g17, g18, g19, hi]
  clear g8 g9 g10 g11 g12 g13 g14
  rintro e h2 ⟨rfl, g8, g15, g17, g18⟩
  (repeat' first | simp -dsimp (disch := first | omega | assumption | (refine OkS.sto ?_ (by omega); first | assumption | (refine OkS.sto ?_ (by omega); first | assumption | (refine OkS.sto ?_ (by omega); first | assumption | (refine OkS.sto ?_ (by omega); first | assumption | (refine OkS.sto ?_ (by omega); first | assumption | (refine OkS.sto ?_ (by omega); first | assumption)))))) | exact Pfx.refl _ | (apply Pfx.snoc; repeat (first | exact Pfx.refl _ | assumption | apply Pfx.snoc)) | with_unfolding_all exact of_eq_true (eq_true rfl) | (simp only [List.length_append, List.length_cons, List.length_nil]; omega)) only [↓wpre0, ↓wpre1, ↓reduceIte, Int.reduceToNat, Nat.reduceAdd, Nat.reduceMul, Nat.reduceEqDiff, wpost0, wpost1, wpost2, wpost3, wpost4, ite_self, ite_true, ite_false, if_true, if_false, tze62, xst62, xlen54, xld62, un_not, xlen24, bin_neq, xlen44, bin_lss, xiad24, xld29, bin_fgeq, xcv29_59, bin_fgtr, bin_sub, bin_fadd, blt_maxI, bin_add, blt_real, xcv2_59, bin_fmul, bin_flss, blt_imag, fr14, wrap_int, wrap_u8, iteP_yes, iteP_no, g8, g15, g17, g18, sM, cv_w w1, cv_w w2, Gap_r hX, conv_if Try.underlying2 Try.underlying59, c1, c2] | refine iteP_two (fun hc hd => ?_) (fun hc hd => ?_) | refine iteP_intro (fun hc => ?_) (fun hc => ?_))
theorem lawTp_c (hV : VS lo hi 1 h x cd.length (cd.map u8v)) (hU : VS lo' hi' 1 h y md.length (md.map u8v)) (hhi : hi ≤ h.length) (hhi' : hi' ≤ h.length) (hro : ro ≤ h.length) (hl : cd.length ≤ 140737488351232) (hl' : md.length ≤ 140737488351232) :
    CallR Try.prog ro (xS1 ro) 14 [x, y] h (fun r h' => r = .bool true) :=
  lawTaper_c (xn_S1 ro) xn_S0 (XDW.of xn_S0 rfl) ⟨rfl, rfl⟩ rfl hV hU hhi hhi' hro hl hl'
end Go.Proofs.Ytelogajobjflfaa.Sim
