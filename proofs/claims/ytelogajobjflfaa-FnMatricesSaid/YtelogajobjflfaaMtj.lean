/- Rows and matrices of small whole numbers, drawn. Lemmas only; no condition. -/
import Derived.Test.YtelogajobjflfaaMti
import Derived.Test.YtelogajobjflfaaDrw
set_option linter.unusedSimpArgs false
set_option linter.unusedVariables false
set_option maxRecDepth 8000
namespace Go.Proofs.Ytelogajobjflfaa.Sim
open Go Go.RowKit Fl
variable {ro lo hi : Nat} {X : Ext} {h : Heap} {x y : Value} {n p q s : Nat} {f g : Nat → CB} {M K : Nat → Nat → CB} {cd : List UInt8}
def fI (n : Int) : Nat := cf .f32 (FloatKind.f32.nearest n)
def intB (z : ZC) : CB := ⟨fI z.re, fI z.im⟩
theorem intB_ok {k : Nat} {z : ZC} (h : z.le k) (hk : k < 2 ^ 24) : cN 149 z (intB z) := ⟨nearest_fx .f32 (Nat.lt_of_le_of_lt h.1 hk), nearest_fx .f32 (Nat.lt_of_le_of_lt h.2 hk)⟩
theorem cv_i {h : Heap} (n : Int) : aconv Try.prog h 2 29 (.int .i64 n) = some (.float .f32 (fI n)) := conv_if Try.underlying2 Try.underlying29
def zat (Z : List ZC) (i : Nat) : ZC := Z.getD i ZC.zero
theorem zat_left {Z : List ZC} {w : ZC} {i : Nat} (h : i < Z.length) : zat (Z ++ [w]) i = zat Z i := by simp [zat, List.getElem?_append_left h]
theorem zat_last {Z : List ZC} {w : ZC} : zat (Z ++ [w]) Z.length = w := by simp [zat]
theorem rowZ_snoc (Z : List ZC) (w : ZC) : rowV (Z.length + 1) (fun i => intB (zat (Z ++ [w]) i)) = rowV Z.length (fun i => intB (zat Z i)) ++ [toV (intB w)] := by
  rw [rowV_succ, zat_last]
  congr 1
  exact rowV_congr fun i hi => by rw [zat_left hi]
theorem pfx_only {h0 h h' : Heap} {b : Nat} (p : Pfx h0 h) (o : Only b h h') (hb : h0.length ≤ b) : Pfx h0 h' := by
  have hl := p.len
  show h'.take h0.length = h0
  refine List.ext_getElem? fun j => ?_
  rw [List.getElem?_take]
  by_cases q : j < h0.length
  · rw [if_pos q, o.2 j (by omega)]; exact p.get q
  · rw [if_neg q, List.getElem?_eq_none (by omega)]
set_option maxHeartbeats 4000000 in
theorem Whole_c (hX : XN X) {k : Nat} (hV : VS lo hi 1 h x cd.length (cd.map u8v)) (hhi : hi ≤ h.length) (hl : cd.length ≤ 1099511627776) (hro : ro ≤ h.length) (hn : n ≤ 1024) (hk : k ≤ 1000) :
    CallR Try.prog ro X 27 [x, .int .i64 n, .int .i64 k] h (fun r h' => ∃ z : Nat → ZC, (∀ i, (z i).le k) ∧ Pfx h h' ∧ RowB h.length h' r n (fun i => intB (z i))) := by
  refine callR_of (hX _ rfl) Try.func27 rfl (by kernel_rfl) (Nat.le_of_ble_eq_true rfl) ?_
  (repeat' first | simp -dsimp (disch := first | omega | assumption | (refine OkS.sto ?_ (by omega); first | assumption | (refine OkS.sto ?_ (by omega); first | assumption | (refine OkS.sto ?_ (by omega); first | assumption | (refine OkS.sto ?_ (by omega); first | assumption | (refine OkS.sto ?_ (by omega); first | assumption | (refine OkS.sto ?_ (by omega); first | assumption)))))) | exact Pfx.refl _ | (apply Pfx.snoc; repeat (first | exact Pfx.refl _ | assumption | apply Pfx.snoc)) | with_unfolding_all exact of_eq_true (eq_true rfl) | (simp only [List.length_append, List.length_cons, List.length_nil]; omega)) only [↓wpre0, ↓wpre1, ↓reduceIte, Int.reduceToNat, Nat.reduceAdd, Nat.reduceMul, Nat.reduceEqDiff, wpost0, wpost1, wpost2, wpost3, wpost4, ite_self, ite_true, ite_false, if_true, if_false, xbls44_0, xbls44_1, bin_gtr, bin_mul, bin_add, bin_sub, xcv2_29, blt_cpx, fr27, wrap_int, wrap_u8, iteP_yes, iteP_no] | refine iteP_two (fun hc hd => ?_) (fun hc hd => ?_) | refine iteP_intro (fun hc => ?_) (fun hc => ?_))
  refine cf_rel (From_c (hX _ rfl) hV hro) (fun q => by cases q) ?_
  rintro r H1 ⟨rfl, p1, l1, S1⟩
  (repeat' first | simp -dsimp (disch := first | omega | assumption | (refine OkS.sto ?_ (by omega); first | assumption | (refine OkS.sto ?_ (by omega); first | assumption | (refine OkS.sto ?_ (by omega); first | assumption | (refine OkS.sto ?_ (by omega); first | assumption | (refine OkS.sto ?_ (by omega); first | assumption | (refine OkS.sto ?_ (by omega); first | assumption)))))) | exact Pfx.refl _ | (apply Pfx.snoc; repeat (first | exact Pfx.refl _ | assumption | apply Pfx.snoc)) | with_unfolding_all exact of_eq_true (eq_true rfl) | (simp only [List.length_append, List.length_cons, List.length_nil]; omega)) only [↓wpre0, ↓wpre1, ↓reduceIte, Int.reduceToNat, Nat.reduceAdd, Nat.reduceMul, Nat.reduceEqDiff, wpost0, wpost1, wpost2, wpost3, wpost4, ite_self, ite_true, ite_false, if_true, if_false, xbls44_0, xbls44_1, bin_gtr, bin_mul, bin_add, bin_sub, xcv2_29, blt_cpx, fr27, wrap_int, wrap_u8, iteP_yes, iteP_no] | refine iteP_two (fun hc hd => ?_) (fun hc hd => ?_) | refine iteP_intro (fun hc => ?_) (fun hc => ?_))
  have p2 : Pfx H1 (H1 ++ [(⟨46, []⟩ : Blk)]) := (Pfx.refl H1).snoc
  refine loop_rounds (fun m e h' => ∃ (y : Value) (Z : List ZC), m = n - Z.length ∧ Z.length ≤ n ∧ (∀ z ∈ Z, z.le k) ∧ e 1 = .int .i64 ((n - Z.length : Nat) : Int) ∧ e 2 = .int .i64 k ∧ e 7 = .pointer (some ⟨h.length, 0, none⟩) ∧ e 8 = y ∧ VG H1.length 46 1 h' y Z.length (rowV Z.length fun i => intB (zat Z i)) ∧ SRC lo hi h.length (Z.length * 4) x cd h' ∧ Pfx h h' ∧ h.length < h'.length) _ ⟨.slice (some ⟨H1.length, 0, none⟩) 0 0, [], rfl, ?_⟩ ?_
  · simp only [updO_at, updO_not, entry_at, List.getD_cons_zero, List.getD_cons_succ, ↓reduceIte, Nat.reduceEqDiff, true_and, and_true]
    have V2 : VG H1.length 46 1 (H1 ++ [(⟨46, []⟩ : Blk)]) (.slice (some ⟨H1.length, 0, none⟩) 0 0) 0 (rowV 0 fun i => intB (zat [] i)) := vg_new H1 (Nat.le_refl _)
    have S2 := (S1.pre p2).more (A' := 0 * 4) (by omega)
    have pA := p1.trans p2
    have lA : h.length < (H1 ++ [(⟨46, []⟩ : Blk)]).length := by simp; omega
    (repeat' (first | assumption | rfl | omega | exact V2 | exact S2 | exact pA | exact lA | exact Nat.zero_le _ | (intro a ha; cases ha) | refine And.intro ?_ ?_))
  · rintro m e h' ⟨y, Z, hm, hle, hz, g1, g2, g7, g8, hY, hS, hd, hlh⟩
    have hb := hY.bof
    by_cases hin : Z.length < n
    · have w1 : (2 : Int) * (k : Int) + 1 = ((2 * k + 1 : Nat) : Int) := by omega
      (repeat' first | simp -dsimp (disch := first | omega | assumption | (refine OkS.sto ?_ (by omega); first | assumption | (refine OkS.sto ?_ (by omega); first | assumption | (refine OkS.sto ?_ (by omega); first | assumption | (refine OkS.sto ?_ (by omega); first | assumption | (refine OkS.sto ?_ (by omega); first | assumption | (refine OkS.sto ?_ (by omega); first | assumption)))))) | exact Pfx.refl _ | (apply Pfx.snoc; repeat (first | exact Pfx.refl _ | assumption | apply Pfx.snoc)) | with_unfolding_all exact of_eq_true (eq_true rfl) | (simp only [List.length_append, List.length_cons, List.length_nil]; omega)) only [↓wpre0, ↓wpre1, ↓reduceIte, Int.reduceToNat, Nat.reduceAdd, Nat.reduceMul, Nat.reduceEqDiff, wpost0, wpost1, wpost2, wpost3, wpost4, ite_self, ite_true, ite_false, if_true, if_false, xbls44_0, xbls44_1, bin_gtr, bin_mul, bin_add, bin_sub, xcv2_29, blt_cpx, fr27, wrap_int, wrap_u8, iteP_yes, iteP_no, g1, g2, g7, g8, w1] | refine iteP_two (fun hc hd => ?_) (fun hc hd => ?_) | refine iteP_intro (fun hc => ?_) (fun hc => ?_))
      refine cf_rel (pick_c (hX _ rfl) (hX _ rfl) (n := ((2 * k + 1 : Nat) : Int)) hS (by omega) (by omega) (by omega) hl (by omega)) (fun q => by cases q) ?_
      rintro r H4 ⟨a, rfl, _, ha, S4, o4⟩
      have ha' := ha (by omega)
      (repeat' first | simp -dsimp (disch := first | omega | assumption | (refine OkS.sto ?_ (by omega); first | assumption | (refine OkS.sto ?_ (by omega); first | assumption | (refine OkS.sto ?_ (by omega); first | assumption | (refine OkS.sto ?_ (by omega); first | assumption | (refine OkS.sto ?_ (by omega); first | assumption | (refine OkS.sto ?_ (by omega); first | assumption)))))) | exact Pfx.refl _ | (apply Pfx.snoc; repeat (first | exact Pfx.refl _ | assumption | apply Pfx.snoc)) | with_unfolding_all exact of_eq_true (eq_true rfl) | (simp only [List.length_append, List.length_cons, List.length_nil]; omega)) only [↓wpre0, ↓wpre1, ↓reduceIte, Int.reduceToNat, Nat.reduceAdd, Nat.reduceMul, Nat.reduceEqDiff, wpost0, wpost1, wpost2, wpost3, wpost4, ite_self, ite_true, ite_false, if_true, if_false, xbls44_0, xbls44_1, bin_gtr, bin_mul, bin_add, bin_sub, xcv2_29, blt_cpx, fr27, wrap_int, wrap_u8, iteP_yes, iteP_no, g1, g2, g7, g8, w1] | refine iteP_two (fun hc hd => ?_) (fun hc hd => ?_) | refine iteP_intro (fun hc => ?_) (fun hc => ?_))
      refine cf_rel (pick_c (hX _ rfl) (hX _ rfl) (n := ((2 * k + 1 : Nat) : Int)) S4 (by omega) (by omega) (by omega) hl (by omega)) (fun q => by cases q) ?_
      rintro r H5 ⟨b, rfl, _, hb2, S5, o5⟩
      have hb' := hb2 (by omega)
      have o6 := Only.trans' o4 o5
      have l5 := o6.1
      have hY5 : VG H1.length 46 1 H5 y Z.length (rowV Z.length fun i => intB (zat Z i)) := hY.frame (o6.2 _ (by omega))
      let w : ZC := ⟨(a : Int) - k, (b : Int) - k⟩
      have hw : w.le k := by
        refine ⟨?_, ?_⟩ <;> (simp only [w]; omega)
      obtain ⟨H, ap, vg, old, hlen⟩ := acc1 (P := Try.prog) (ro := ro) (T := 44) (h := H5) (v := toV (intB w)) tel44 tsz46 tby46 tze46 (.inl hY5) (by omega) (by omega) rfl (by omega) (by omega)
      have vg' : VG H1.length 46 1 H (.slice (some ⟨H5.length + 1, 0, none⟩) (Z.length + 1) (Z.length + 1 + 1)) (Z ++ [w]).length (rowV (Z ++ [w]).length fun i => intB (zat (Z ++ [w]) i)) := by
        rw [List.length_append, List.length_singleton, rowZ_snoc]; exact vg
      have d5 := pfx_only hd o6 (Nat.le_refl _)
      have dH := old.1 h d5 (by omega)
      have sv : SRC lo hi h.length ((Z ++ [w]).length * 4) x cd H := ((S5.frame (old.2.1 _ (by omega) (.inr (by omega))) fun j h1 h2 => old.2.1 j (by omega) (.inr (by omega)))).more (by simp; omega)
      have hcast : ((n - Z.length : Nat) : Int) - 1 = ((n - (Z ++ [w]).length : Nat) : Int) := by simp; omega
      simp only [intB, w, fI, toV] at ap
      (repeat' first | simp -dsimp (disch := first | omega | assumption | (refine OkS.sto ?_ (by omega); first | assumption | (refine OkS.sto ?_ (by omega); first | assumption | (refine OkS.sto ?_ (by omega); first | assumption | (refine OkS.sto ?_ (by omega); first | assumption | (refine OkS.sto ?_ (by omega); first | assumption | (refine OkS.sto ?_ (by omega); first | assumption)))))) | exact Pfx.refl _ | (apply Pfx.snoc; repeat (first | exact Pfx.refl _ | assumption | apply Pfx.snoc)) | with_unfolding_all exact of_eq_true (eq_true rfl) | (simp only [List.length_append, List.length_cons, List.length_nil]; omega)) only [↓wpre0, ↓wpre1, ↓reduceIte, Int.reduceToNat, Nat.reduceAdd, Nat.reduceMul, Nat.reduceEqDiff, wpost0, wpost1, wpost2, wpost3, wpost4, ite_self, ite_true, ite_false, if_true, if_false, xbls44_0, xbls44_1, bin_gtr, bin_mul, bin_add, bin_sub, xcv2_29, blt_cpx, fr27, wrap_int, wrap_u8, iteP_yes, iteP_no, g1, g2, g7, g8, w1, ap] | refine iteP_two (fun hc hd => ?_) (fun hc hd => ?_) | refine iteP_intro (fun hc => ?_) (fun hc => ?_))
      refine ⟨n - (Z ++ [w]).length, by simp; omega, .slice (some ⟨H5.length + 1, 0, none⟩) (Z.length + 1) (Z.length + 1 + 1), Z ++ [w], ?_⟩
      have hz' : ∀ z ∈ Z ++ [w], z.le k := by
        intro z hz'
        rcases List.mem_append.1 hz' with q | q
        · exact hz z q
        · rw [List.mem_singleton] at q; subst q; exact hw
      have hll : (Z ++ [w]).length ≤ n := by simp; omega
      have hlh' : h.length < H.length := by omega
      (repeat' (first | assumption | rfl | omega | (rw [hcast]) | refine And.intro ?_ ?_))
    · have ei : n = Z.length := by omega
      have hnf : Sim.flat y = false := by obtain ⟨_, b, cap, rfl, _⟩ := hY; rfl
      (repeat' first | simp -dsimp (disch := first | omega | assumption | (refine OkS.sto ?_ (by omega); first | assumption | (refine OkS.sto ?_ (by omega); first | assumption | (refine OkS.sto ?_ (by omega); first | assumption | (refine OkS.sto ?_ (by omega); first | assumption | (refine OkS.sto ?_ (by omega); first | assumption | (refine OkS.sto ?_ (by omega); first | assumption)))))) | exact Pfx.refl _ | (apply Pfx.snoc; repeat (first | exact Pfx.refl _ | assumption | apply Pfx.snoc)) | with_unfolding_all exact of_eq_true (eq_true rfl) | (simp only [List.length_append, List.length_cons, List.length_nil]; omega)) only [↓wpre0, ↓wpre1, ↓reduceIte, Int.reduceToNat, Nat.reduceAdd, Nat.reduceMul, Nat.reduceEqDiff, wpost0, wpost1, wpost2, wpost3, wpost4, ite_self, ite_true, ite_false, if_true, if_false, xbls44_0, xbls44_1, bin_gtr, bin_mul, bin_add, bin_sub, xcv2_29, blt_cpx, fr27, wrap_int, wrap_u8, iteP_yes, iteP_no, g1, g2, g7, g8, endH_not hnf] | refine iteP_two (fun hc hd => ?_) (fun hc hd => ?_) | refine iteP_intro (fun hc => ?_) (fun hc => ?_))
      refine ⟨zat Z, fun i => ?_, hd, ?_⟩
      · unfold zat
        rw [List.getD_eq_getElem?_getD]
        rcases Nat.lt_or_ge i Z.length with q | q
        · rw [List.getElem?_eq_getElem q]; exact hz _ (List.getElem_mem q)
        · rw [List.getElem?_eq_none q]; exact ⟨by simp [ZC.zero], by simp [ZC.zero]⟩
      · rw [ei]
        exact (hY.low (show h.length ≤ H1.length by omega)).vsl
end Go.Proofs.Ytelogajobjflfaa.Sim
