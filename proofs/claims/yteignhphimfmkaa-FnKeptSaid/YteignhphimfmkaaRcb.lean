
/- Bytes of frames. Lemmas only; no condition. -/
import Derived.Test.YteignhphimfmkaaRca
set_option linter.unusedSimpArgs false
set_option linter.unusedVariables false
set_option maxRecDepth 8000
namespace Go.Proofs.Yteignhphimfmkaa.Sim
open Go Go.RowKit
variable {ro : Nat} {X : Ext}
/-- A complex number as a cell. -/
def cpx (z : Nat × Nat) : Value := .complex .f32 z.1 z.2
def okZ (z : Nat × Nat) : Prop := okF z.1 ∧ okF z.2
theorem vth_map {α : Type} {f : α → Value} {l : List α} {i : Nat} (h : i < l.length) : vth (l.map f) i = f l[i] := by simp [vth, h]
/-- The bytes of complex numbers. -/
def cB (zs : List (Nat × Nat)) : List UInt8 := zs.flatMap fun z => lowB z.1 4 ++ lowB z.2 4
theorem cB_len (zs : List (Nat × Nat)) : (cB zs).length = 8 * zs.length := by
  induction zs with
  | nil => rfl
  | cons z r ih => simp only [cB, List.flatMap_cons, List.length_append, lowB_len, List.length_cons] at ih ⊢; omega
theorem cB_snoc {zs : List (Nat × Nat)} {i : Nat} (h : i < zs.length) : cB (zs.take (i + 1)) = cB (zs.take i) ++ (lowB zs[i].1 4 ++ lowB zs[i].2 4) := by
  rw [List.take_succ_eq_append_getElem h]
  simp only [cB, List.flatMap_append, List.flatMap_cons, List.flatMap_nil, List.append_nil]
/-- The bytes of a frame, but for its check number. -/
def fnB (idx : Int) (zs : List (Nat × Nat)) : List UInt8 := lowB idx 4 ++ cB zs
def frB (idx : Int) (zs : List (Nat × Nat)) : List UInt8 := fnB idx zs ++ lowB (chk 0 (fnB idx zs)) 2
theorem fnB_len (idx : Int) (zs : List (Nat × Nat)) : (fnB idx zs).length = 4 + 8 * zs.length := by simp only [fnB, List.length_append, lowB_len, cB_len]
theorem frB_len (idx : Int) (zs : List (Nat × Nat)) : (frB idx zs).length = 6 + 8 * zs.length := by simp only [frB, List.length_append, lowB_len, fnB_len]; omega
theorem isIndex_r (hX : XN X) (n : Int) (h : Heap) : Ret Try.prog ro X 22 [.int .i64 n] h (.bool (decide (0 ≤ n) && decide (n ≤ 1000000))) := by
  refine ret_of (callR_of (hX _ rfl) Try.func22 rfl (by kernel_rfl) (Nat.le_of_ble_eq_true rfl) ?_)
  (repeat' first | simp -dsimp (disch := first | omega | assumption | (refine OkS.sto ?_ (by omega); first | assumption | (refine OkS.sto ?_ (by omega); first | assumption | (refine OkS.sto ?_ (by omega); first | assumption | (refine OkS.sto ?_ (by omega); first | assumption | (refine OkS.sto ?_ (by omega); first | assumption | (refine OkS.sto ?_ (by omega); first | assumption)))))) | exact Pfx.refl _ | (apply Pfx.snoc; repeat (first | exact Pfx.refl _ | assumption | apply Pfx.snoc)) | with_unfolding_all exact of_eq_true (eq_true rfl) | (simp only [List.length_append, List.length_cons, List.length_nil]; omega)) only [↓wpre0, ↓wpre1, ↓reduceIte, Int.reduceToNat, Nat.reduceAdd, Nat.reduceMul, Nat.reduceEqDiff, wpost0, wpost1, wpost2, wpost3, wpost4, ite_self, ite_true, ite_false, if_true, if_false, fr22, wrap_int, wrap_u8, iteP_yes, iteP_no, within_r hX] | refine iteP_two (fun hc hd => ?_) (fun hc hd => ?_) | refine iteP_intro (fun hc => ?_) (fun hc => ?_))
theorem vg_bytes {lo n : Nat} {h : Heap} {x : Value} {l : List UInt8} (g : VG lo 5 1 h x n (l.map u8v)) : l.length = n := by
  have := g.1
  simpa using this
set_option maxHeartbeats 1000000 in
theorem frameBytes_r (hX : XB X) {lo hi : Nat} {idx : Int} {zs : List (Nat × Nat)} {x : Value} {h : Heap} (hI : VS lo hi 1 h x zs.length (zs.map cpx)) (hz : ∀ z ∈ zs, okZ z) (h0 : 0 ≤ idx) (h1 : idx ≤ 4294967295) (hn : zs.length ≤ 1000) (hro : ro ≤ h.length) :
    Ret Try.prog ro X 19 [.agg ⟨[.int .i64 idx, x]⟩] h (.string ⟨⟨frB idx zs⟩⟩) := by
  have hx := hI.shape
  refine ret_of (callR_of (hX.n _ rfl) Try.func19 rfl (by kernel_rfl) (Nat.le_of_ble_eq_true rfl) ?_)
  have hbx : ∀ g, boxV g 41 (.agg ⟨[.int .i64 idx, x]⟩) = some (.pointer (some ⟨g.length, 0, none⟩), g ++ [⟨41, [.int .i64 idx, x]⟩]) := fun g => by rw [box_go (by simp [cellsOf, hx.2.2, one_int])]; rfl
  (repeat' first | simp -dsimp (disch := first | omega | assumption | (refine OkS.sto ?_ (by omega); first | assumption | (refine OkS.sto ?_ (by omega); first | assumption | (refine OkS.sto ?_ (by omega); first | assumption | (refine OkS.sto ?_ (by omega); first | assumption | (refine OkS.sto ?_ (by omega); first | assumption | (refine OkS.sto ?_ (by omega); first | assumption)))))) | exact Pfx.refl _ | (apply Pfx.snoc; repeat (first | exact Pfx.refl _ | assumption | apply Pfx.snoc)) | with_unfolding_all exact of_eq_true (eq_true rfl) | (simp only [List.length_append, List.length_cons, List.length_nil]; omega)) only [↓wpre0, ↓wpre1, ↓reduceIte, Int.reduceToNat, Nat.reduceAdd, Nat.reduceMul, Nat.reduceEqDiff, wpost0, wpost1, wpost2, wpost3, wpost4, ite_self, ite_true, ite_false, if_true, if_false, xfad41_0, xld2, xfad41_1, xld39, xlen39, bin_lss, xiad39, xld65, blt_real, blt_imag, bin_add, fr19, wrap_int, wrap_u8, iteP_yes, iteP_no, hbx] | refine iteP_two (fun hc hd => ?_) (fun hc hd => ?_) | refine iteP_intro (fun hc => ?_) (fun hc => ?_))
  refine cf_rel (lowBytes_c (ro := ro) (c := 4) hX.n h0 h1 (by decide) (by simp; omega)) (fun q => by cases q) ?_
  rintro r1 h1' ⟨p1, v1⟩
  have pb : Pfx h h1' := (Pfx.refl h).snoc.trans p1
  have q1 : h1'[h.length]? = some ⟨41, [.int .i64 idx, x]⟩ := by rw [p1.get (by simp)]; exact get_last rfl
  have c1 : cell h1' h.length 1 = some x := cellb q1
  (repeat' first | simp -dsimp (disch := first | omega | assumption | (refine OkS.sto ?_ (by omega); first | assumption | (refine OkS.sto ?_ (by omega); first | assumption | (refine OkS.sto ?_ (by omega); first | assumption | (refine OkS.sto ?_ (by omega); first | assumption | (refine OkS.sto ?_ (by omega); first | assumption | (refine OkS.sto ?_ (by omega); first | assumption)))))) | exact Pfx.refl _ | (apply Pfx.snoc; repeat (first | exact Pfx.refl _ | assumption | apply Pfx.snoc)) | with_unfolding_all exact of_eq_true (eq_true rfl) | (simp only [List.length_append, List.length_cons, List.length_nil]; omega)) only [↓wpre0, ↓wpre1, ↓reduceIte, Int.reduceToNat, Nat.reduceAdd, Nat.reduceMul, Nat.reduceEqDiff, wpost0, wpost1, wpost2, wpost3, wpost4, ite_self, ite_true, ite_false, if_true, if_false, xfad41_0, xld2, xfad41_1, xld39, xlen39, bin_lss, xiad39, xld65, blt_real, blt_imag, bin_add, fr19, wrap_int, wrap_u8, iteP_yes, iteP_no, c1, hI.len Try.underlying39] | refine iteP_two (fun hc hd => ?_) (fun hc hd => ?_) | refine iteP_intro (fun hc => ?_) (fun hc => ?_))
  have v1b := v1.low (lo' := h.length + 1) (by simp)
  refine loop_rounds (fun m e h' => ∃ (i : Nat) (y : Value), m = zs.length - i ∧ i ≤ zs.length ∧ Pfx (h ++ [(⟨41, [.int .i64 idx, x]⟩ : Blk)]) h' ∧ e 3 = y ∧ e 12 = x ∧ e 13 = .int .i64 zs.length ∧ e 14 = .int .i64 i ∧ VG (h.length + 1) 5 1 h' y (4 + 8 * i) ((lowB idx 4 ++ cB (zs.take i)).map u8v)) _ ⟨0, r1, rfl, ?_⟩ ?_
  · simp only [updO_at, updO_not, entry_at, List.getD_cons_zero, List.getD_cons_succ, ↓reduceIte, Nat.reduceEqDiff, true_and, and_true]
    refine ⟨by omega, p1, rfl, ?_⟩
    simp only [List.take_zero, cB, List.flatMap_nil, List.append_nil]
    exact v1b
  · rintro m e h' ⟨i, y, hm, hle, hp, g3, g12, g13, g14, hY⟩
    have hl := hp.len
    simp only [List.length_append, List.length_cons, List.length_nil] at hl
    have hI' := hI.pre ((Pfx.refl h).snoc.trans hp)
    by_cases hin : i < zs.length
    · have hzi := hz zs[i] (List.getElem_mem hin)
      have z1 := hzi.1.2
      have z2 := hzi.2.2
      have hv : vth (zs.map cpx) i = .complex .f32 zs[i].1 zs[i].2 := vth_map hin
      have hld := VS.ld1 (P := Try.prog) hI' tsz65 tag65 (c := i) (by omega)
      rw [hv] at hld
      (repeat' first | simp -dsimp (disch := first | omega | assumption | (refine OkS.sto ?_ (by omega); first | assumption | (refine OkS.sto ?_ (by omega); first | assumption | (refine OkS.sto ?_ (by omega); first | assumption | (refine OkS.sto ?_ (by omega); first | assumption | (refine OkS.sto ?_ (by omega); first | assumption | (refine OkS.sto ?_ (by omega); first | assumption)))))) | exact Pfx.refl _ | (apply Pfx.snoc; repeat (first | exact Pfx.refl _ | assumption | apply Pfx.snoc)) | with_unfolding_all exact of_eq_true (eq_true rfl) | (simp only [List.length_append, List.length_cons, List.length_nil]; omega)) only [↓wpre0, ↓wpre1, ↓reduceIte, Int.reduceToNat, Nat.reduceAdd, Nat.reduceMul, Nat.reduceEqDiff, wpost0, wpost1, wpost2, wpost3, wpost4, ite_self, ite_true, ite_false, if_true, if_false, xfad41_0, xld2, xfad41_1, xld39, xlen39, bin_lss, xiad39, xld65, blt_real, blt_imag, bin_add, fr19, wrap_int, wrap_u8, iteP_yes, iteP_no, g3, g12, g13, g14, VS.iad hI' Try.underlying39 tsz65, hld, Nat.mul_one, BitsOf_r hX hzi.1, BitsOf_r hX hzi.2] | refine iteP_two (fun hc hd => ?_) (fun hc hd => ?_) | refine iteP_intro (fun hc => ?_) (fun hc => ?_))
      refine cf_rel (lowBytes_c (ro := ro) (c := 4) hX.n (by omega) (by omega) (by decide) (by omega)) (fun q => by cases q) ?_
      rintro r2 h2 ⟨p2, v2⟩
      have l2 := p2.len
      obtain ⟨r3, H3, ap3, _, old3, _, k3⟩ := accS (P := Try.prog) (ro := ro) (T := 22) (u := 22) tel22 tsz5 tby5 tze5 (by decide) (.inl rfl) (.inl (hY.pre p2)) (by omega) (by omega) v2.vs.news.1 v2.vs.news.2 (by simp [lowB_len]) (one_u8 _) (by omega) (by omega)
      have V3 := k3 (hY.pre p2)
      have l3 := old3.2.2
      (repeat' first | simp -dsimp (disch := first | omega | assumption | (refine OkS.sto ?_ (by omega); first | assumption | (refine OkS.sto ?_ (by omega); first | assumption | (refine OkS.sto ?_ (by omega); first | assumption | (refine OkS.sto ?_ (by omega); first | assumption | (refine OkS.sto ?_ (by omega); first | assumption | (refine OkS.sto ?_ (by omega); first | assumption)))))) | exact Pfx.refl _ | (apply Pfx.snoc; repeat (first | exact Pfx.refl _ | assumption | apply Pfx.snoc)) | with_unfolding_all exact of_eq_true (eq_true rfl) | (simp only [List.length_append, List.length_cons, List.length_nil]; omega)) only [↓wpre0, ↓wpre1, ↓reduceIte, Int.reduceToNat, Nat.reduceAdd, Nat.reduceMul, Nat.reduceEqDiff, wpost0, wpost1, wpost2, wpost3, wpost4, ite_self, ite_true, ite_false, if_true, if_false, xfad41_0, xld2, xfad41_1, xld39, xlen39, bin_lss, xiad39, xld65, blt_real, blt_imag, bin_add, fr19, wrap_int, wrap_u8, iteP_yes, iteP_no, g3, g12, g13, g14, ap3, BitsOf_r hX hzi.2] | refine iteP_two (fun hc hd => ?_) (fun hc hd => ?_) | refine iteP_intro (fun hc => ?_) (fun hc => ?_))
      refine cf_rel (lowBytes_c (ro := ro) (c := 4) hX.n (by omega) (by omega) (by decide) (by omega)) (fun q => by cases q) ?_
      rintro r4 h4 ⟨p4, v4⟩
      have l4 := p4.len
      obtain ⟨r5, H5, ap5, _, old5, _, k5⟩ := accS (P := Try.prog) (ro := ro) (T := 22) (u := 22) tel22 tsz5 tby5 tze5 (by decide) (.inl rfl) (.inl (V3.pre p4)) (by omega) (by omega) v4.vs.news.1 v4.vs.news.2 (by simp [lowB_len]) (one_u8 _) (by omega) (by omega)
      have V5 := k5 (V3.pre p4)
      (repeat' first | simp -dsimp (disch := first | omega | assumption | (refine OkS.sto ?_ (by omega); first | assumption | (refine OkS.sto ?_ (by omega); first | assumption | (refine OkS.sto ?_ (by omega); first | assumption | (refine OkS.sto ?_ (by omega); first | assumption | (refine OkS.sto ?_ (by omega); first | assumption | (refine OkS.sto ?_ (by omega); first | assumption)))))) | exact Pfx.refl _ | (apply Pfx.snoc; repeat (first | exact Pfx.refl _ | assumption | apply Pfx.snoc)) | with_unfolding_all exact of_eq_true (eq_true rfl) | (simp only [List.length_append, List.length_cons, List.length_nil]; omega)) only [↓wpre0, ↓wpre1, ↓reduceIte, Int.reduceToNat, Nat.reduceAdd, Nat.reduceMul, Nat.reduceEqDiff, wpost0, wpost1, wpost2, wpost3, wpost4, ite_self, ite_true, ite_false, if_true, if_false, xfad41_0, xld2, xfad41_1, xld39, xlen39, bin_lss, xiad39, xld65, blt_real, blt_imag, bin_add, fr19, wrap_int, wrap_u8, iteP_yes, iteP_no, g3, g12, g13, g14, ap5] | refine iteP_two (fun hc hd => ?_) (fun hc hd => ?_) | refine iteP_intro (fun hc => ?_) (fun hc => ?_))
      have hk := old5.1 _ ((old3.1 _ (hp.trans p2) (by simp)).trans p4) (by simp)
      refine ⟨_, by omega, i + 1, _, rfl, by omega, hk, rfl, by simp, ?_⟩
      rw [cB_snoc hin, show 4 + 8 * (i + 1) = 4 + 8 * i + 4 + 4 by omega]
      simp only [List.map_append, List.append_assoc] at V5 ⊢
      exact V5
    · have : i = zs.length := by omega
      subst this
      rw [List.take_length] at hY
      have hlen : (lowB idx 4 ++ cB zs).length = 4 + 8 * zs.length := fnB_len idx zs
      (repeat' first | simp -dsimp (disch := first | omega | assumption | (refine OkS.sto ?_ (by omega); first | assumption | (refine OkS.sto ?_ (by omega); first | assumption | (refine OkS.sto ?_ (by omega); first | assumption | (refine OkS.sto ?_ (by omega); first | assumption | (refine OkS.sto ?_ (by omega); first | assumption | (refine OkS.sto ?_ (by omega); first | assumption)))))) | exact Pfx.refl _ | (apply Pfx.snoc; repeat (first | exact Pfx.refl _ | assumption | apply Pfx.snoc)) | with_unfolding_all exact of_eq_true (eq_true rfl) | (simp only [List.length_append, List.length_cons, List.length_nil]; omega)) only [↓wpre0, ↓wpre1, ↓reduceIte, Int.reduceToNat, Nat.reduceAdd, Nat.reduceMul, Nat.reduceEqDiff, wpost0, wpost1, wpost2, wpost3, wpost4, ite_self, ite_true, ite_false, if_true, if_false, xfad41_0, xld2, xfad41_1, xld39, xlen39, bin_lss, xiad39, xld65, blt_real, blt_imag, bin_add, fr19, wrap_int, wrap_u8, iteP_yes, iteP_no, g3, g12, g13, g14, conv_bytes Try.underlying22 Try.underlying9 tbt5 hY.vs, CheckOf_r hX.n] | refine iteP_two (fun hc hd => ?_) (fun hc hd => ?_) | refine iteP_intro (fun hc => ?_) (fun hc => ?_))
      have hc := chk_range (n := 0) ⟨by omega, by omega⟩ (lowB idx 4 ++ cB zs)
      refine cf_rel (lowBytes_c (ro := ro) (c := 2) hX.n (by omega) (by omega) (by decide) (by omega)) (fun q => by cases q) ?_
      rintro r2 h2 ⟨p2, v2⟩
      have l2 := p2.len
      obtain ⟨r3, H3, ap3, _, old3, _, k3⟩ := accS (P := Try.prog) (ro := ro) (T := 22) (u := 22) tel22 tsz5 tby5 tze5 (by decide) (.inl rfl) (.inl (hY.pre p2)) (by omega) (by omega) v2.vs.news.1 v2.vs.news.2 (by simp [lowB_len]) (one_u8 _) (by omega) (by omega)
      have V3 := k3 (hY.pre p2)
      rw [← List.map_append] at V3
      have hk := old3.1 _ (hp.trans p2) (by simp)
      have hk2 : Pfx h H3 := (Pfx.refl h).snoc.trans hk
      (repeat' first | simp -dsimp (disch := first | omega | assumption | (refine OkS.sto ?_ (by omega); first | assumption | (refine OkS.sto ?_ (by omega); first | assumption | (refine OkS.sto ?_ (by omega); first | assumption | (refine OkS.sto ?_ (by omega); first | assumption | (refine OkS.sto ?_ (by omega); first | assumption | (refine OkS.sto ?_ (by omega); first | assumption)))))) | exact Pfx.refl _ | (apply Pfx.snoc; repeat (first | exact Pfx.refl _ | assumption | apply Pfx.snoc)) | with_unfolding_all exact of_eq_true (eq_true rfl) | (simp only [List.length_append, List.length_cons, List.length_nil]; omega)) only [↓wpre0, ↓wpre1, ↓reduceIte, Int.reduceToNat, Nat.reduceAdd, Nat.reduceMul, Nat.reduceEqDiff, wpost0, wpost1, wpost2, wpost3, wpost4, ite_self, ite_true, ite_false, if_true, if_false, xfad41_0, xld2, xfad41_1, xld39, xlen39, bin_lss, xiad39, xld65, blt_real, blt_imag, bin_add, fr19, wrap_int, wrap_u8, iteP_yes, iteP_no, g3, g12, g13, g14, ap3, conv_bytes Try.underlying22 Try.underlying9 tbt5 V3.vs] | refine iteP_two (fun hc hd => ?_) (fun hc hd => ?_) | refine iteP_intro (fun hc => ?_) (fun hc => ?_))
      rfl
end Go.Proofs.Yteignhphimfmkaa.Sim
