/- The power of the sky, walked. Lemmas only; no condition. -/
import Derived.Test.YtjonhaebeeoimaaSkc
import Derived.Test.YtjonhaebeeoimaaDrr
import Derived.Test.YtjonhaebeeoimaaLah
import Derived.Test.YtjonhaebeeoimaaSkx
set_option linter.unusedSimpArgs false
set_option linter.unusedVariables false
set_option maxRecDepth 8000
namespace Go.Proofs.Ytjonhaebeeoimaa.Sim
open Go Go.RowKit Fl
variable {ro n : Nat} {X : Ext} {h : Heap} {x y : Value} {l : List Int} {f : Nat → CB} {u v : Int}
end Go.Proofs.Ytjonhaebeeoimaa.Sim

/- Places and numbers in sixteenths as a law draws them; whether numbers are the same. Lemmas only; no condition. -/
set_option linter.unusedSimpArgs false
set_option linter.unusedVariables false
set_option maxRecDepth 8000
namespace Go.Proofs.Ytjonhaebeeoimaa.Sim
open Go Go.RowKit Fl
variable {ro lo hi n : Nat} {X X' : Ext} {h : Heap} {x y : Value} {l : List Int} {cd : List UInt8}
set_option maxHeartbeats 4000000 in
theorem Fine_c (hW : XDW X) (hX : XN X) (hV : VS lo hi 1 h x cd.length (cd.map u8v)) (hhi : hi ≤ h.length) (hl : cd.length ≤ 1099511627776) (hro : ro ≤ h.length) (hn : n ≤ 1024) :
    CallR Try.prog ro X 6 [x, .int .i64 n] h (fun r h' => ∃ z : Nat → CB, (∀ i, bdC 150 (z i)) ∧ Pfx h h' ∧ RowB h.length h' r n z) := by
  refine callR_of (hX _ rfl) Try.func6 rfl (by kernel_rfl) (Nat.le_of_ble_eq_true rfl) ?_
  (repeat' first | simp -dsimp (disch := first | omega | assumption | (refine OkS.sto ?_ (by omega); first | assumption | (refine OkS.sto ?_ (by omega); first | assumption | (refine OkS.sto ?_ (by omega); first | assumption | (refine OkS.sto ?_ (by omega); first | assumption | (refine OkS.sto ?_ (by omega); first | assumption | (refine OkS.sto ?_ (by omega); first | assumption)))))) | exact Pfx.refl _ | (apply Pfx.snoc; repeat (first | exact Pfx.refl _ | assumption | apply Pfx.snoc)) | with_unfolding_all exact of_eq_true (eq_true rfl) | (simp only [List.length_append, List.length_cons, List.length_nil]; omega)) only [↓wpre0, ↓wpre1, ↓reduceIte, Int.reduceToNat, Nat.reduceAdd, Nat.reduceMul, Nat.reduceEqDiff, wpost0, wpost1, wpost2, wpost3, wpost4, ite_self, ite_true, ite_false, if_true, if_false, xbls26_0, xbls26_1, bin_gtr, bin_sub, fr6, wrap_int, wrap_u8, iteP_yes, iteP_no] | refine iteP_two (fun hc hd => ?_) (fun hc hd => ?_) | refine iteP_intro (fun hc => ?_) (fun hc => ?_))
  refine cf_rel (From_c (hX _ rfl) hV hro) (fun q => by cases q) ?_
  rintro r H1 ⟨rfl, p1, l1, S1⟩
  (repeat' first | simp -dsimp (disch := first | omega | assumption | (refine OkS.sto ?_ (by omega); first | assumption | (refine OkS.sto ?_ (by omega); first | assumption | (refine OkS.sto ?_ (by omega); first | assumption | (refine OkS.sto ?_ (by omega); first | assumption | (refine OkS.sto ?_ (by omega); first | assumption | (refine OkS.sto ?_ (by omega); first | assumption)))))) | exact Pfx.refl _ | (apply Pfx.snoc; repeat (first | exact Pfx.refl _ | assumption | apply Pfx.snoc)) | with_unfolding_all exact of_eq_true (eq_true rfl) | (simp only [List.length_append, List.length_cons, List.length_nil]; omega)) only [↓wpre0, ↓wpre1, ↓reduceIte, Int.reduceToNat, Nat.reduceAdd, Nat.reduceMul, Nat.reduceEqDiff, wpost0, wpost1, wpost2, wpost3, wpost4, ite_self, ite_true, ite_false, if_true, if_false, xbls26_0, xbls26_1, bin_gtr, bin_sub, fr6, wrap_int, wrap_u8, iteP_yes, iteP_no] | refine iteP_two (fun hc hd => ?_) (fun hc hd => ?_) | refine iteP_intro (fun hc => ?_) (fun hc => ?_))
  have p2 : Pfx H1 (H1 ++ [(⟨54, []⟩ : Blk)]) := (Pfx.refl H1).snoc
  refine loop_rounds (fun m e h' => ∃ (y : Value) (Z : List CB), m = n - Z.length ∧ Z.length ≤ n ∧ (∀ z ∈ Z, bdC 150 z) ∧ e 1 = .int .i64 ((n - Z.length : Nat) : Int) ∧ e 5 = .pointer (some ⟨h.length, 0, none⟩) ∧ e 6 = y ∧ VG H1.length 54 1 h' y Z.length (rowV Z.length (cat Z)) ∧ SRC lo hi h.length (Z.length * 4) x cd h' ∧ Pfx h h' ∧ h.length < h'.length) _ ⟨.slice (some ⟨H1.length, 0, none⟩) 0 0, [], rfl, ?_⟩ ?_
  · simp only [updO_at, updO_not, entry_at, List.getD_cons_zero, List.getD_cons_succ, ↓reduceIte, Nat.reduceEqDiff, true_and, and_true]
    have V2 : VG H1.length 54 1 (H1 ++ [(⟨54, []⟩ : Blk)]) (.slice (some ⟨H1.length, 0, none⟩) 0 0) 0 (rowV 0 (cat [])) := vg_new H1 (Nat.le_refl _)
    have S2 := (S1.pre p2).more (A' := 0 * 4) (by omega)
    have pA := p1.trans p2
    have lA : h.length < (H1 ++ [(⟨54, []⟩ : Blk)]).length := by simp; omega
    (repeat' (first | assumption | rfl | omega | exact V2 | exact S2 | exact pA | exact lA | exact Nat.zero_le _ | (intro a ha; cases ha) | refine And.intro ?_ ?_))
  · rintro m e h' ⟨y, Z, hm, hle, hz, g1, g5, g6, hY, hS, hd, hlh⟩
    have hb := hY.bof
    by_cases hin : Z.length < n
    · (repeat' first | simp -dsimp (disch := first | omega | assumption | (refine OkS.sto ?_ (by omega); first | assumption | (refine OkS.sto ?_ (by omega); first | assumption | (refine OkS.sto ?_ (by omega); first | assumption | (refine OkS.sto ?_ (by omega); first | assumption | (refine OkS.sto ?_ (by omega); first | assumption | (refine OkS.sto ?_ (by omega); first | assumption)))))) | exact Pfx.refl _ | (apply Pfx.snoc; repeat (first | exact Pfx.refl _ | assumption | apply Pfx.snoc)) | with_unfolding_all exact of_eq_true (eq_true rfl) | (simp only [List.length_append, List.length_cons, List.length_nil]; omega)) only [↓wpre0, ↓wpre1, ↓reduceIte, Int.reduceToNat, Nat.reduceAdd, Nat.reduceMul, Nat.reduceEqDiff, wpost0, wpost1, wpost2, wpost3, wpost4, ite_self, ite_true, ite_false, if_true, if_false, xbls26_0, xbls26_1, bin_gtr, bin_sub, fr6, wrap_int, wrap_u8, iteP_yes, iteP_no, g1, g5, g6] | refine iteP_two (fun hc hd => ?_) (fun hc hd => ?_) | refine iteP_intro (fun hc => ?_) (fun hc => ?_))
      refine cf_rel (DrawFineB_c hW hS (by omega) (by omega) (by omega) hl) (fun q => by cases q) ?_
      rintro r H5 ⟨w, rfl, hw, S5, o6⟩
      have l5 := o6.1
      have hY5 : VG H1.length 54 1 H5 y Z.length (rowV Z.length (cat Z)) := hY.frame (o6.2 _ (by omega))
      obtain ⟨H, ap, vg, old, hlen⟩ := acc1 (P := Try.prog) (ro := ro) (T := 26) (h := H5) (v := toV w) tel26 tsz54 tby54 tze54 (.inl hY5) (by omega) (by omega) rfl (by omega) (by omega)
      have vg' : VG H1.length 54 1 H (.slice (some ⟨H5.length + 1, 0, none⟩) (Z.length + 1) (Z.length + 1 + 1)) (Z ++ [w]).length (rowV (Z ++ [w]).length (cat (Z ++ [w]))) := by
        rw [List.length_append, List.length_singleton, rowC_snoc]; exact vg
      have d5 := pfx_onl hd o6 (Nat.le_refl _)
      have dH := old.1 h d5 (by omega)
      have sv : SRC lo hi h.length ((Z ++ [w]).length * 4) x cd H := ((S5.frame (old.2.1 _ (by omega) (.inr (by omega))) fun j h1 h2 => old.2.1 j (by omega) (.inr (by omega)))).more (by simp; omega)
      have hcast : ((n - Z.length : Nat) : Int) - 1 = ((n - (Z ++ [w]).length : Nat) : Int) := by simp; omega
      simp only [toV] at ap
      (repeat' first | simp -dsimp (disch := first | omega | assumption | (refine OkS.sto ?_ (by omega); first | assumption | (refine OkS.sto ?_ (by omega); first | assumption | (refine OkS.sto ?_ (by omega); first | assumption | (refine OkS.sto ?_ (by omega); first | assumption | (refine OkS.sto ?_ (by omega); first | assumption | (refine OkS.sto ?_ (by omega); first | assumption)))))) | exact Pfx.refl _ | (apply Pfx.snoc; repeat (first | exact Pfx.refl _ | assumption | apply Pfx.snoc)) | with_unfolding_all exact of_eq_true (eq_true rfl) | (simp only [List.length_append, List.length_cons, List.length_nil]; omega)) only [↓wpre0, ↓wpre1, ↓reduceIte, Int.reduceToNat, Nat.reduceAdd, Nat.reduceMul, Nat.reduceEqDiff, wpost0, wpost1, wpost2, wpost3, wpost4, ite_self, ite_true, ite_false, if_true, if_false, xbls26_0, xbls26_1, bin_gtr, bin_sub, fr6, wrap_int, wrap_u8, iteP_yes, iteP_no, g1, g5, g6, ap] | refine iteP_two (fun hc hd => ?_) (fun hc hd => ?_) | refine iteP_intro (fun hc => ?_) (fun hc => ?_))
      refine ⟨n - (Z ++ [w]).length, by simp; omega, .slice (some ⟨H5.length + 1, 0, none⟩) (Z.length + 1) (Z.length + 1 + 1), Z ++ [w], ?_⟩
      have hz' : ∀ z ∈ Z ++ [w], bdC 150 z := by
        intro z hz'
        rcases List.mem_append.1 hz' with q | q
        · exact hz z q
        · rw [List.mem_singleton] at q; subst q; exact hw
      have hll : (Z ++ [w]).length ≤ n := by simp; omega
      have hlh' : h.length < H.length := by omega
      (repeat' (first | assumption | rfl | omega | (rw [hcast]) | refine And.intro ?_ ?_))
    · have ei : n = Z.length := by omega
      have hnf : Sim.flat y = false := by obtain ⟨_, b, cap, rfl, _⟩ := hY; rfl
      (repeat' first | simp -dsimp (disch := first | omega | assumption | (refine OkS.sto ?_ (by omega); first | assumption | (refine OkS.sto ?_ (by omega); first | assumption | (refine OkS.sto ?_ (by omega); first | assumption | (refine OkS.sto ?_ (by omega); first | assumption | (refine OkS.sto ?_ (by omega); first | assumption | (refine OkS.sto ?_ (by omega); first | assumption)))))) | exact Pfx.refl _ | (apply Pfx.snoc; repeat (first | exact Pfx.refl _ | assumption | apply Pfx.snoc)) | with_unfolding_all exact of_eq_true (eq_true rfl) | (simp only [List.length_append, List.length_cons, List.length_nil]; omega)) only [↓wpre0, ↓wpre1, ↓reduceIte, Int.reduceToNat, Nat.reduceAdd, Nat.reduceMul, Nat.reduceEqDiff, wpost0, wpost1, wpost2, wpost3, wpost4, ite_self, ite_true, ite_false, if_true, if_false, xbls26_0, xbls26_1, bin_gtr, bin_sub, fr6, wrap_int, wrap_u8, iteP_yes, iteP_no, g1, g5, g6, endH_not hnf] | refine iteP_two (fun hc hd => ?_) (fun hc hd => ?_) | refine iteP_intro (fun hc => ?_) (fun hc => ?_))
      refine ⟨cat Z, cat_bd hz, hd, ?_⟩
      rw [ei]
      exact (hY.low (show h.length ≤ H1.length by omega)).vsl
theorem TenP_c (hW : XDW X) (hX : XN X) (hX' : XN X') (hx : X' 20 = xPl ro X 20) (hV : VS lo hi 1 h x n (cd.map u8v)) (hro : ro ≤ h.length) (hhi : hi ≤ h.length) (hl : cd.length ≤ 1099511627776) :
    CallR Try.prog ro X' 5 [x] h (fun r h' => Places h r h') := by
  refine callR_of (hX' _ rfl) Try.func5 rfl (by kernel_rfl) (Nat.le_of_ble_eq_true rfl) ?_
  (repeat' first | simp -dsimp (disch := first | omega | assumption | (refine OkS.sto ?_ (by omega); first | assumption | (refine OkS.sto ?_ (by omega); first | assumption | (refine OkS.sto ?_ (by omega); first | assumption | (refine OkS.sto ?_ (by omega); first | assumption | (refine OkS.sto ?_ (by omega); first | assumption | (refine OkS.sto ?_ (by omega); first | assumption)))))) | exact Pfx.refl _ | (apply Pfx.snoc; repeat (first | exact Pfx.refl _ | assumption | apply Pfx.snoc)) | with_unfolding_all exact of_eq_true (eq_true rfl) | (simp only [List.length_append, List.length_cons, List.length_nil]; omega)) only [↓wpre0, ↓wpre1, ↓reduceIte, Int.reduceToNat, Nat.reduceAdd, Nat.reduceMul, Nat.reduceEqDiff, wpost0, wpost1, wpost2, wpost3, wpost4, ite_self, ite_true, ite_false, if_true, if_false, un_not, xbld53, xbld53_0, xbls24_0, xbls24_1, fr5, wrap_int, wrap_u8, iteP_yes, iteP_no] | refine iteP_two (fun hc hd => ?_) (fun hc hd => ?_) | refine iteP_intro (fun hc => ?_) (fun hc => ?_))
  refine cf_rel (From_c (hX' _ rfl) hV hro) (fun q => by cases q) ?_
  rintro r H1 ⟨rfl, p1, l1, S1⟩
  (repeat' first | simp -dsimp (disch := first | omega | assumption | (refine OkS.sto ?_ (by omega); first | assumption | (refine OkS.sto ?_ (by omega); first | assumption | (refine OkS.sto ?_ (by omega); first | assumption | (refine OkS.sto ?_ (by omega); first | assumption | (refine OkS.sto ?_ (by omega); first | assumption | (refine OkS.sto ?_ (by omega); first | assumption)))))) | exact Pfx.refl _ | (apply Pfx.snoc; repeat (first | exact Pfx.refl _ | assumption | apply Pfx.snoc)) | with_unfolding_all exact of_eq_true (eq_true rfl) | (simp only [List.length_append, List.length_cons, List.length_nil]; omega)) only [↓wpre0, ↓wpre1, ↓reduceIte, Int.reduceToNat, Nat.reduceAdd, Nat.reduceMul, Nat.reduceEqDiff, wpost0, wpost1, wpost2, wpost3, wpost4, ite_self, ite_true, ite_false, if_true, if_false, un_not, xbld53, xbld53_0, xbls24_0, xbls24_1, fr5, wrap_int, wrap_u8, iteP_yes, iteP_no] | refine iteP_two (fun hc hd => ?_) (fun hc hd => ?_) | refine iteP_intro (fun hc => ?_) (fun hc => ?_))
  refine cf_rel (DrawOk_c hW hX hx S1 hro hhi (by omega) hl) (fun q => by cases q) ?_
  rintro r H2 ⟨n, yb, yc, l, rfl, hyb, hD, hll, hg, hr, d2, S2⟩
  have hnf : ∀ a m c, Sim.flat (.slice a m c) = false := fun a m c => rfl
  have hI := is_blk (dc := yc) hD hll
  have h16 := hg.n16
  (repeat' first | simp -dsimp (disch := first | omega | assumption | (refine OkS.sto ?_ (by omega); first | assumption | (refine OkS.sto ?_ (by omega); first | assumption | (refine OkS.sto ?_ (by omega); first | assumption | (refine OkS.sto ?_ (by omega); first | assumption | (refine OkS.sto ?_ (by omega); first | assumption | (refine OkS.sto ?_ (by omega); first | assumption)))))) | exact Pfx.refl _ | (apply Pfx.snoc; repeat (first | exact Pfx.refl _ | assumption | apply Pfx.snoc)) | with_unfolding_all exact of_eq_true (eq_true rfl) | (simp only [List.length_append, List.length_cons, List.length_nil]; omega)) only [↓wpre0, ↓wpre1, ↓reduceIte, Int.reduceToNat, Nat.reduceAdd, Nat.reduceMul, Nat.reduceEqDiff, wpost0, wpost1, wpost2, wpost3, wpost4, ite_self, ite_true, ite_false, if_true, if_false, un_not, xbld53, xbld53_0, xbls24_0, xbls24_1, fr5, wrap_int, wrap_u8, iteP_yes, iteP_no] | refine iteP_two (fun hc hd => ?_) (fun hc hd => ?_) | refine iteP_intro (fun hc => ?_) (fun hc => ?_))
  refine cf_rel (l02Is_c hX' hI (by omega)) (fun q => by cases q) ?_
  rintro r H3 ⟨b, rfl, rfl, hb⟩
  have hbt : b = true := hb.2 hg
  subst hbt
  (repeat' first | simp -dsimp (disch := first | omega | assumption | (refine OkS.sto ?_ (by omega); first | assumption | (refine OkS.sto ?_ (by omega); first | assumption | (refine OkS.sto ?_ (by omega); first | assumption | (refine OkS.sto ?_ (by omega); first | assumption | (refine OkS.sto ?_ (by omega); first | assumption | (refine OkS.sto ?_ (by omega); first | assumption)))))) | exact Pfx.refl _ | (apply Pfx.snoc; repeat (first | exact Pfx.refl _ | assumption | apply Pfx.snoc)) | with_unfolding_all exact of_eq_true (eq_true rfl) | (simp only [List.length_append, List.length_cons, List.length_nil]; omega)) only [↓wpre0, ↓wpre1, ↓reduceIte, Int.reduceToNat, Nat.reduceAdd, Nat.reduceMul, Nat.reduceEqDiff, wpost0, wpost1, wpost2, wpost3, wpost4, ite_self, ite_true, ite_false, if_true, if_false, un_not, xbld53, xbld53_0, xbls24_0, xbls24_1, fr5, wrap_int, wrap_u8, iteP_yes, iteP_no, endH_not (hnf _ _ _)] | refine iteP_two (fun hc hd => ?_) (fun hc hd => ?_) | refine iteP_intro (fun hc => ?_) (fun hc => ?_))
  exact ⟨n, yb, yc, l, rfl, by omega, hD, hll, hg, hr, Dst.pfx p1 d2 (Nat.le_refl _)⟩
theorem bitsS_r (hX : XN X) (hB : X 55 = some (ext1 fBits)) {b : Nat} (hn : (FloatKind.f32.decode b).isNaN = false) (h : Heap) : ∃ z, Ret Try.prog ro X 44 [.float .f32 b] h (.int .i64 z) := by
  have hc : Ret Try.prog ro X 55 [.float .f32 b] h (.int .u32 b) := fun _ _ => cf_eq (call_ext hB (by simp only [ext1, fBits, hn, Bool.false_eq_true, if_false, Option.map_some]))
  have e1 : fcmp .eql .f32 b b = true := by rw [order_self, hn]; rfl
  have : CallR Try.prog ro X 44 [.float .f32 b] h (fun r h' => (∃ t, r = .int .i64 t) ∧ h' = h) := by
    refine callR_of (hX _ rfl) Try.func44 rfl (by kernel_rfl) (Nat.le_of_ble_eq_true rfl) ?_
    (repeat' first | simp -dsimp (disch := first | omega | assumption | (refine OkS.sto ?_ (by omega); first | assumption | (refine OkS.sto ?_ (by omega); first | assumption | (refine OkS.sto ?_ (by omega); first | assumption | (refine OkS.sto ?_ (by omega); first | assumption | (refine OkS.sto ?_ (by omega); first | assumption | (refine OkS.sto ?_ (by omega); first | assumption)))))) | exact Pfx.refl _ | (apply Pfx.snoc; repeat (first | exact Pfx.refl _ | assumption | apply Pfx.snoc)) | with_unfolding_all exact of_eq_true (eq_true rfl) | (simp only [List.length_append, List.length_cons, List.length_nil]; omega)) only [↓wpre0, ↓wpre1, ↓reduceIte, Int.reduceToNat, Nat.reduceAdd, Nat.reduceMul, Nat.reduceEqDiff, wpost0, wpost1, wpost2, wpost3, wpost4, ite_self, ite_true, ite_false, if_true, if_false, bin_fneq, xcv86_2, fr44, wrap_int, wrap_u8, iteP_yes, iteP_no, hc, e1] | refine iteP_two (fun hc hd => ?_) (fun hc hd => ?_) | refine iteP_intro (fun hc => ?_) (fun hc => ?_))
    all_goals exact ⟨_, rfl⟩
  obtain ⟨r, h', h1, ⟨t, rfl⟩, rfl⟩ := this
  exact ⟨t, fun _ _ => cf_eq h1⟩
theorem SameS_r (hX : XN X) (hB : X 55 = some (ext1 fBits)) {b : Nat} (hn : (FloatKind.f32.decode b).isNaN = false) (h : Heap) : Ret Try.prog ro X 10 [.float .f32 b, .float .f32 b] h (.bool true) := by
  obtain ⟨t, ht⟩ := bitsS_r (ro := ro) hX hB hn h
  have key : Ret Try.prog ro X 29 [.float .f32 b, .float .f32 b] h (.bool true) := by
    refine ret_of (callR_of (hX _ rfl) Try.func29 rfl (by kernel_rfl) (Nat.le_of_ble_eq_true rfl) ?_)
    (repeat' first | simp -dsimp (disch := first | omega | assumption | (refine OkS.sto ?_ (by omega); first | assumption | (refine OkS.sto ?_ (by omega); first | assumption | (refine OkS.sto ?_ (by omega); first | assumption | (refine OkS.sto ?_ (by omega); first | assumption | (refine OkS.sto ?_ (by omega); first | assumption | (refine OkS.sto ?_ (by omega); first | assumption)))))) | exact Pfx.refl _ | (apply Pfx.snoc; repeat (first | exact Pfx.refl _ | assumption | apply Pfx.snoc)) | with_unfolding_all exact of_eq_true (eq_true rfl) | (simp only [List.length_append, List.length_cons, List.length_nil]; omega)) only [↓wpre0, ↓wpre1, ↓reduceIte, Int.reduceToNat, Nat.reduceAdd, Nat.reduceMul, Nat.reduceEqDiff, wpost0, wpost1, wpost2, wpost3, wpost4, ite_self, ite_true, ite_false, if_true, if_false, bin_eql, fr29, wrap_int, wrap_u8, iteP_yes, iteP_no, ht] | refine iteP_two (fun hc hd => ?_) (fun hc hd => ?_) | refine iteP_intro (fun hc => ?_) (fun hc => ?_))
    all_goals first | rfl | simp
  refine ret_of (callR_of (hX _ rfl) Try.func10 rfl (by kernel_rfl) (Nat.le_of_ble_eq_true rfl) ?_)
  (repeat' first | simp -dsimp (disch := first | omega | assumption | (refine OkS.sto ?_ (by omega); first | assumption | (refine OkS.sto ?_ (by omega); first | assumption | (refine OkS.sto ?_ (by omega); first | assumption | (refine OkS.sto ?_ (by omega); first | assumption | (refine OkS.sto ?_ (by omega); first | assumption | (refine OkS.sto ?_ (by omega); first | assumption)))))) | exact Pfx.refl _ | (apply Pfx.snoc; repeat (first | exact Pfx.refl _ | assumption | apply Pfx.snoc)) | with_unfolding_all exact of_eq_true (eq_true rfl) | (simp only [List.length_append, List.length_cons, List.length_nil]; omega)) only [↓wpre0, ↓wpre1, ↓reduceIte, Int.reduceToNat, Nat.reduceAdd, Nat.reduceMul, Nat.reduceEqDiff, wpost0, wpost1, wpost2, wpost3, wpost4, ite_self, ite_true, ite_false, if_true, if_false, fr10, wrap_int, wrap_u8, iteP_yes, iteP_no, key] | refine iteP_two (fun hc hd => ?_) (fun hc hd => ?_) | refine iteP_intro (fun hc => ?_) (fun hc => ?_))
end Go.Proofs.Ytjonhaebeeoimaa.Sim

/- The law FnSky. Lemmas only; no condition. -/
set_option linter.unusedSimpArgs false
set_option linter.unusedVariables false
set_option maxRecDepth 8000
namespace Go.Proofs.Ytjonhaebeeoimaa.Sim
open Go Go.RowKit Fl
variable {ro lo lo' hi hi' n : Nat} {X : Ext} {h : Heap} {x y : Value} {l : List Int} {f : Nat → CB} {u v : Int}
end Go.Proofs.Ytjonhaebeeoimaa.Sim
