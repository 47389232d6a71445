/- Groups of beams: what the reference's FarBeams comes to. Lemmas only; no condition. -/
import Derived.Test.YtbakaopgdcojfaaFab
set_option linter.unusedSimpArgs false
set_option linter.unusedVariables false
set_option maxRecDepth 8000
namespace Go.Proofs.Ytbakaopgdcojfaa.Sim
open Go Go.RowKit
variable {ro : Nat} {X : Ext}
def faOk (n : Nat) (l : List Int) (apart : Int) : Bool := isB n l && (decide (0 ≤ apart) && decide (apart ≤ 128))
/-- What FarBeams returns. -/
def FaR (l : List Int) (n : Nat) (apart : Int) (h h' : Heap) (r : Value) : Prop :=
  Pfx h h' ∧ ((faOk n l apart = false ∧ r = .tuple ⟨[.slice none 0 0, .bool false]⟩) ∨
    (faOk n l apart = true ∧ ∃ y xs, r = .tuple ⟨[y, .bool true]⟩ ∧ VG h.length 63 1 h' y (farG l apart n).length xs ∧ NG h.length 2 h' (bOf y) xs (farG l apart n)))
set_option maxHeartbeats 4000000 in
theorem sFar_c (hX : ∀ f, X f = none) {lo hi n : Nat} {l : List Int} {x : Value} {h : Heap} {apart : Int} (hI : IS lo hi 4 h x n l) (hn : n ≤ 1048576) (hro : ro ≤ h.length) :
    CallR Try.prog ro X 23 [x, .int .i64 apart] h (fun r h' => FaR l n apart h h' r) := by
  refine callR_of (hX _) Try.func23 rfl (by kernel_rfl) (Nat.le_of_ble_eq_true rfl) ?_
  (repeat' first | simp -dsimp (disch := first | omega | assumption | (refine OkS.sto ?_ (by omega); first | assumption | (refine OkS.sto ?_ (by omega); first | assumption | (refine OkS.sto ?_ (by omega); first | assumption | (refine OkS.sto ?_ (by omega); first | assumption | (refine OkS.sto ?_ (by omega); first | assumption | (refine OkS.sto ?_ (by omega); first | assumption)))))) | exact Pfx.refl _ | (apply Pfx.snoc; repeat (first | exact Pfx.refl _ | assumption | apply Pfx.snoc)) | with_unfolding_all exact of_eq_true (eq_true rfl) | (simp only [List.length_append, List.length_cons, List.length_nil]; omega)) only [↓wpre0, ↓wpre1, ↓reduceIte, Int.reduceToNat, Nat.reduceAdd, Nat.reduceMul, Nat.reduceEqDiff, wpost0, wpost1, wpost2, wpost3, wpost4, ite_self, ite_true, ite_false, if_true, if_false, un_not, xbls39_0, xbls39_1, xlen42, bin_lss, xlen39, xiad39, xld63, xlen63, xiad42, xfad98_0, xld96, tze96, xst96, xiad63, xld2, xfad96_0, bin_sub, xfad96_1, bin_geq, bin_add, xbls63_0, xbls63_1, xst63, fr23, wrap_int, wrap_u8, iteP_yes, iteP_no, l09Is_r hX hI hn hro, l00In_r hX, hI.len Try.underlying42] | refine iteP_two (fun hc hd => ?_) (fun hc hd => ?_) | refine iteP_intro (fun hc => ?_) (fun hc => ?_))
  · have hok : faOk n l apart = true := by simp [faOk, *]
    have hb : isB n l = true := by assumption
    have hn7 := (isB_n hb).2
    refine loop_rounds (fun m e h' => ∃ (i : Nat) (y : Value) (xs : List Value), m = n - i ∧ i ≤ n ∧ Pfx h h' ∧ e 0 = x ∧ e 1 = .int .i64 apart ∧ e 24 = .int .i64 n ∧ e 25 = .int .i64 i ∧ e 6 = y ∧ VG h.length 63 1 h' y (farG l apart i).length xs ∧ NG h.length 2 h' (bOf y) xs (farG l apart i)) _ ⟨0, .slice (some ⟨h.length, 0, none⟩) 0 0, [], rfl, ?_⟩ ?_
    · simp only [updO_at, updO_not, entry_at, List.getD_cons_zero, List.getD_cons_succ, ↓reduceIte, Nat.reduceEqDiff, true_and, and_true]
      exact ⟨by omega, (Pfx.refl h).snoc, rfl, vg_new h (Nat.le_refl _), NG.nil⟩
    · rintro m e h' ⟨i, y, xs, hm, hle, hp, g0, g1, g24, g25, g6, hY, hG⟩
      have hl := hp.len
      have hI' := hI.pre hp
      have hGi := farG_ok l apart i
      have hgl := hG.len
      by_cases hin : i < n
      · have b1 := br hb hin
        have hYl := hY.vs.len (ro := ro) (P := Try.prog) Try.underlying39
        (repeat' first | simp -dsimp (disch := first | omega | assumption | (refine OkS.sto ?_ (by omega); first | assumption | (refine OkS.sto ?_ (by omega); first | assumption | (refine OkS.sto ?_ (by omega); first | assumption | (refine OkS.sto ?_ (by omega); first | assumption | (refine OkS.sto ?_ (by omega); first | assumption | (refine OkS.sto ?_ (by omega); first | assumption)))))) | exact Pfx.refl _ | (apply Pfx.snoc; repeat (first | exact Pfx.refl _ | assumption | apply Pfx.snoc)) | with_unfolding_all exact of_eq_true (eq_true rfl) | (simp only [List.length_append, List.length_cons, List.length_nil]; omega)) only [↓wpre0, ↓wpre1, ↓reduceIte, Int.reduceToNat, Nat.reduceAdd, Nat.reduceMul, Nat.reduceEqDiff, wpost0, wpost1, wpost2, wpost3, wpost4, ite_self, ite_true, ite_false, if_true, if_false, un_not, xbls39_0, xbls39_1, xlen42, bin_lss, xlen39, xiad39, xld63, xlen63, xiad42, xfad98_0, xld96, tze96, xst96, xiad63, xld2, xfad96_0, bin_sub, xfad96_1, bin_geq, bin_add, xbls63_0, xbls63_1, xst63, fr23, wrap_int, wrap_u8, iteP_yes, iteP_no, g0, g1, g24, g25, g6, hYl] | refine iteP_two (fun hc hd => ?_) (fun hc hd => ?_) | refine iteP_intro (fun hc => ?_) (fun hc => ?_))
        have hstep : farG l apart (i + 1) = farS l apart (farG l apart i) i := rfl
        have hrng := @fidx_range _ (okB l apart i) (farG l apart i)
        generalize farG l apart i = gs at hY hG hGi hgl hYl hstep hrng ⊢
        have hgs7 := hGi.len
        refine loop_exit 2 (fun e2 h2 => Pfx h' h2 ∧ e2 0 = x ∧ e2 1 = .int .i64 apart ∧ e2 6 = y ∧ e2 7 = .int .i64 i ∧ e2 8 = .int .i64 (fidx (okB l apart i) gs) ∧ e2 24 = .int .i64 n ∧ e2 25 = .int .i64 i) ?_ ?_
        · refine loop_rounds (fun m e2 h2 => ∃ g : Nat, m = gs.length - g ∧ g ≤ gs.length ∧ Pfx h' h2 ∧ e2 0 = x ∧ e2 1 = .int .i64 apart ∧ e2 6 = y ∧ e2 7 = .int .i64 i ∧ e2 8 = .int .i64 (-1) ∧ e2 24 = .int .i64 n ∧ e2 25 = .int .i64 i ∧ e2 29 = .int .i64 gs.length ∧ e2 30 = .int .i64 g ∧ ∀ j, j < g → okB l apart i (rowI gs j) = false) _ ⟨0, rfl, ?_⟩ ?_
          · simp only [updO_at, updO_not, entry_at, List.getD_cons_zero, List.getD_cons_succ, ↓reduceIte, Nat.reduceEqDiff, true_and, and_true]
            exact ⟨by omega, Pfx.refl h', g0, g1, g6, g24, g25, rfl, fun j hj => by omega⟩
          · clear g0 g1 g6 g24 g25
            rintro m2 e2 h2 ⟨g, hm2, hg2, hp2, g0, g1, g6, g7, g8, g24, g25, g29, g30, hall⟩
            have hY2 := hY.pre hp2
            have hG2 := hG.pre hp2
            have hI2 := hI'.pre hp2
            by_cases hgn : g < gs.length
            · have hr := (hG2.row g hgn).vs.is
              have hrl := hGi.rlen hgn
              (repeat' first | simp -dsimp (disch := first | omega | assumption | (refine OkS.sto ?_ (by omega); first | assumption | (refine OkS.sto ?_ (by omega); first | assumption | (refine OkS.sto ?_ (by omega); first | assumption | (refine OkS.sto ?_ (by omega); first | assumption | (refine OkS.sto ?_ (by omega); first | assumption | (refine OkS.sto ?_ (by omega); first | assumption)))))) | exact Pfx.refl _ | (apply Pfx.snoc; repeat (first | exact Pfx.refl _ | assumption | apply Pfx.snoc)) | with_unfolding_all exact of_eq_true (eq_true rfl) | (simp only [List.length_append, List.length_cons, List.length_nil]; omega)) only [↓wpre0, ↓wpre1, ↓reduceIte, Int.reduceToNat, Nat.reduceAdd, Nat.reduceMul, Nat.reduceEqDiff, wpost0, wpost1, wpost2, wpost3, wpost4, ite_self, ite_true, ite_false, if_true, if_false, un_not, xbls39_0, xbls39_1, xlen42, bin_lss, xlen39, xiad39, xld63, xlen63, xiad42, xfad98_0, xld96, tze96, xst96, xiad63, xld2, xfad96_0, bin_sub, xfad96_1, bin_geq, bin_add, xbls63_0, xbls63_1, xst63, fr23, wrap_int, wrap_u8, iteP_yes, iteP_no, g0, g1, g6, g7, g8, g24, g25, g29, g30, VS.iad hY2.vs Try.underlying39 tsz63, VS.ld1 hY2.vs tsz63 tag63, hr.len Try.underlying63, Nat.mul_one] | refine iteP_two (fun hc hd => ?_) (fun hc hd => ?_) | refine iteP_intro (fun hc => ?_) (fun hc => ?_))
              refine loop_exit 4 (fun e3 h3 => Pfx h' h3 ∧ e3 0 = x ∧ e3 1 = .int .i64 apart ∧ e3 6 = y ∧ e3 7 = .int .i64 i ∧ e3 8 = .int .i64 (-1) ∧ e3 9 = .int .i64 g ∧ e3 10 = .bool (okB l apart i (rowI gs g)) ∧ e3 24 = .int .i64 n ∧ e3 25 = .int .i64 i ∧ e3 29 = .int .i64 gs.length ∧ e3 30 = .int .i64 g) ?_ ?_
              · refine loop_rounds (fun m e3 h3 => ∃ k : Nat, m = (rowI gs g).length - k ∧ k ≤ (rowI gs g).length ∧ Pfx h' h3 ∧ e3 0 = x ∧ e3 1 = .int .i64 apart ∧ e3 6 = y ∧ e3 7 = .int .i64 i ∧ e3 8 = .int .i64 (-1) ∧ e3 9 = .int .i64 g ∧ e3 10 = .bool (okB l apart i ((rowI gs g).take k)) ∧ e3 24 = .int .i64 n ∧ e3 25 = .int .i64 i ∧ e3 29 = .int .i64 gs.length ∧ e3 30 = .int .i64 g ∧ e3 37 = .int .i64 (rowI gs g).length ∧ e3 38 = .int .i64 k) _ ⟨0, rfl, ?_⟩ ?_
                · simp only [updO_at, updO_not, entry_at, List.getD_cons_zero, List.getD_cons_succ, ↓reduceIte, Nat.reduceEqDiff, true_and, and_true]
                  exact ⟨by omega, hp2, g0, g1, g6, g7, g8, rfl, g24, g25, g29, g30, rfl⟩
                · clear g0 g1 g6 g7 g8 g24 g25 g29 g30
                  rintro m3 e3 h3 ⟨k, hm3, hk3, hp3, g0, g1, g6, g7, g8, g9, g10, g24, g25, g29, g30, g37, g38⟩
                  by_cases hkn : k < (rowI gs g).length
                  · have hI3 := hI'.pre hp3
                    have hlen3 := hp3.len
                    have hp4 : ∀ C, Pfx h' (h3 ++ [C]) := fun C => hp3.snoc
                    have hY4 := fun C => (hY.pre (hp4 C)).vs
                    have hI4 := fun C => hI'.pre (hp4 C)
                    have hr4 := fun C => ((hG.pre (hp4 C)).row g hgn).vs.is
                    have hkr := hGi.at hgn hkn
                    have b2 := br hb (i := (nth (rowI gs g) k).toNat) (by omega)
                    have u1 := b1.u
                    have u2 := b2.u
                    have v1 := b1.v
                    have v2 := b2.v
                    have hfd : max (babs (nth l (i * 4) - nth l ((nth (rowI gs g) k).toNat * 4))) (babs (nth l (i * 4 + 1) - nth l ((nth (rowI gs g) k).toNat * 4 + 1))) = farD l i (nth (rowI gs g) k).toNat := rfl
                    have hta : okB l apart i ((rowI gs g).take (k + 1)) = (okB l apart i ((rowI gs g).take k) && decide (apart ≤ farD l i (nth (rowI gs g) k).toNat)) := take_all hkn _
                    have hl1 := fun C => VS.ld1 (P := Try.prog) (hY4 C) tsz63 tag63 (c := g) (by omega)
                    have hl2 := fun C => IS.ld1 (P := Try.prog) (hr4 C) tsz2 tag2 (c := k) (by omega)
                    have hl3 := fun C => IS.ldm (P := Try.prog) (hI4 C) tsz96 tag96 (c := (nth (rowI gs g) k).toNat * 4) (by omega) (by omega)
                    (repeat' first | simp -dsimp (disch := first | omega | assumption | (refine OkS.sto ?_ (by omega); first | assumption | (refine OkS.sto ?_ (by omega); first | assumption | (refine OkS.sto ?_ (by omega); first | assumption | (refine OkS.sto ?_ (by omega); first | assumption | (refine OkS.sto ?_ (by omega); first | assumption | (refine OkS.sto ?_ (by omega); first | assumption)))))) | exact Pfx.refl _ | (apply Pfx.snoc; repeat (first | exact Pfx.refl _ | assumption | apply Pfx.snoc)) | with_unfolding_all exact of_eq_true (eq_true rfl) | (simp only [List.length_append, List.length_cons, List.length_nil]; omega)) only [↓wpre0, ↓wpre1, ↓reduceIte, Int.reduceToNat, Nat.reduceAdd, Nat.reduceMul, Nat.reduceEqDiff, wpost0, wpost1, wpost2, wpost3, wpost4, ite_self, ite_true, ite_false, if_true, if_false, un_not, xbls39_0, xbls39_1, xlen42, bin_lss, xlen39, xiad39, xld63, xlen63, xiad42, xfad98_0, xld96, tze96, xst96, xiad63, xld2, xfad96_0, bin_sub, xfad96_1, bin_geq, bin_add, xbls63_0, xbls63_1, xst63, fr23, wrap_int, wrap_u8, iteP_yes, iteP_no, g0, g1, g6, g7, g8, g9, g10, g24, g25, g29, g30, g37, g38, VS.iad hY2.vs Try.underlying39 tsz63, hl1, hl2, hl3, IS.iad hr Try.underlying63 tsz2, IS.iad hI3 Try.underlying42 tsz98, IS.fad hI3 tfi98_0 (by decide), IS.ldm hI3 tsz96 tag96, l09Abs_r hX, l00Max_r hX, hfd, Nat.mul_one] | refine iteP_two (fun hc hd => ?_) (fun hc hd => ?_) | refine iteP_intro (fun hc => ?_) (fun hc => ?_))
                    all_goals
                      refine ⟨_, by omega, k + 1, rfl, by omega, hp3.snoc.snoc, ?_, by simp⟩
                      rw [hta]
                      simp [hc]
                  · have : k = (rowI gs g).length := by omega
                    subst this
                    rw [List.take_length] at g10
                    (repeat' first | simp -dsimp (disch := first | omega | assumption | (refine OkS.sto ?_ (by omega); first | assumption | (refine OkS.sto ?_ (by omega); first | assumption | (refine OkS.sto ?_ (by omega); first | assumption | (refine OkS.sto ?_ (by omega); first | assumption | (refine OkS.sto ?_ (by omega); first | assumption | (refine OkS.sto ?_ (by omega); first | assumption)))))) | exact Pfx.refl _ | (apply Pfx.snoc; repeat (first | exact Pfx.refl _ | assumption | apply Pfx.snoc)) | with_unfolding_all exact of_eq_true (eq_true rfl) | (simp only [List.length_append, List.length_cons, List.length_nil]; omega)) only [↓wpre0, ↓wpre1, ↓reduceIte, Int.reduceToNat, Nat.reduceAdd, Nat.reduceMul, Nat.reduceEqDiff, wpost0, wpost1, wpost2, wpost3, wpost4, ite_self, ite_true, ite_false, if_true, if_false, un_not, xbls39_0, xbls39_1, xlen42, bin_lss, xlen39, xiad39, xld63, xlen63, xiad42, xfad98_0, xld96, tze96, xst96, xiad63, xld2, xfad96_0, bin_sub, xfad96_1, bin_geq, bin_add, xbls63_0, xbls63_1, xst63, fr23, wrap_int, wrap_u8, iteP_yes, iteP_no, g0, g1, g6, g7, g8, g9, g10, g24, g25, g29, g30, g37, g38] | refine iteP_two (fun hc hd => ?_) (fun hc hd => ?_) | refine iteP_intro (fun hc => ?_) (fun hc => ?_))
                    exact hp3
              · clear g0 g1 g6 g7 g8 g24 g25 g29 g30
                rintro e3 h3 ⟨hp3, g0, g1, g6, g7, g8, g9, g10, g24, g25, g29, g30⟩
                (repeat' first | simp -dsimp (disch := first | omega | assumption | (refine OkS.sto ?_ (by omega); first | assumption | (refine OkS.sto ?_ (by omega); first | assumption | (refine OkS.sto ?_ (by omega); first | assumption | (refine OkS.sto ?_ (by omega); first | assumption | (refine OkS.sto ?_ (by omega); first | assumption | (refine OkS.sto ?_ (by omega); first | assumption)))))) | exact Pfx.refl _ | (apply Pfx.snoc; repeat (first | exact Pfx.refl _ | assumption | apply Pfx.snoc)) | with_unfolding_all exact of_eq_true (eq_true rfl) | (simp only [List.length_append, List.length_cons, List.length_nil]; omega)) only [↓wpre0, ↓wpre1, ↓reduceIte, Int.reduceToNat, Nat.reduceAdd, Nat.reduceMul, Nat.reduceEqDiff, wpost0, wpost1, wpost2, wpost3, wpost4, ite_self, ite_true, ite_false, if_true, if_false, un_not, xbls39_0, xbls39_1, xlen42, bin_lss, xlen39, xiad39, xld63, xlen63, xiad42, xfad98_0, xld96, tze96, xst96, xiad63, xld2, xfad96_0, bin_sub, xfad96_1, bin_geq, bin_add, xbls63_0, xbls63_1, xst63, fr23, wrap_int, wrap_u8, iteP_yes, iteP_no, g0, g1, g6, g7, g8, g9, g10, g24, g25, g29, g30] | refine iteP_two (fun hc hd => ?_) (fun hc hd => ?_) | refine iteP_intro (fun hc => ?_) (fun hc => ?_))
                · exact ⟨hp3, by rw [fidx_some (i := g) hgn (by rw [rowI_get]; exact hc) (fun j hj => by rw [rowI_get]; exact hall j hj)]⟩
                · refine ⟨_, by omega, g + 1, rfl, by omega, hp3, by simp, fun j hj => ?_⟩
                  rcases Nat.lt_or_eq_of_le (show j ≤ g by omega) with q | q
                  · exact hall j q
                  · rw [q]; exact hc
            · have : g = gs.length := by omega
              subst this
              (repeat' first | simp -dsimp (disch := first | omega | assumption | (refine OkS.sto ?_ (by omega); first | assumption | (refine OkS.sto ?_ (by omega); first | assumption | (refine OkS.sto ?_ (by omega); first | assumption | (refine OkS.sto ?_ (by omega); first | assumption | (refine OkS.sto ?_ (by omega); first | assumption | (refine OkS.sto ?_ (by omega); first | assumption)))))) | exact Pfx.refl _ | (apply Pfx.snoc; repeat (first | exact Pfx.refl _ | assumption | apply Pfx.snoc)) | with_unfolding_all exact of_eq_true (eq_true rfl) | (simp only [List.length_append, List.length_cons, List.length_nil]; omega)) only [↓wpre0, ↓wpre1, ↓reduceIte, Int.reduceToNat, Nat.reduceAdd, Nat.reduceMul, Nat.reduceEqDiff, wpost0, wpost1, wpost2, wpost3, wpost4, ite_self, ite_true, ite_false, if_true, if_false, un_not, xbls39_0, xbls39_1, xlen42, bin_lss, xlen39, xiad39, xld63, xlen63, xiad42, xfad98_0, xld96, tze96, xst96, xiad63, xld2, xfad96_0, bin_sub, xfad96_1, bin_geq, bin_add, xbls63_0, xbls63_1, xst63, fr23, wrap_int, wrap_u8, iteP_yes, iteP_no, g0, g1, g6, g7, g8, g24, g25, g29, g30] | refine iteP_two (fun hc hd => ?_) (fun hc hd => ?_) | refine iteP_intro (fun hc => ?_) (fun hc => ?_))
              exact ⟨hp2, by rw [fidx_none (fun j hj => by rw [rowI_get]; exact hall j hj)]⟩
        · clear g0 g1 g6 g24 g25
          rintro e2 h2 ⟨hp2, g0, g1, g6, g7, g8, g24, g25⟩
          have hlen2 := hp2.len
          have hY2 := hY.pre hp2
          have hG2 := hG.pre hp2
          have hI2 := hI'.pre hp2
          (repeat' first | simp -dsimp (disch := first | omega | assumption | (refine OkS.sto ?_ (by omega); first | assumption | (refine OkS.sto ?_ (by omega); first | assumption | (refine OkS.sto ?_ (by omega); first | assumption | (refine OkS.sto ?_ (by omega); first | assumption | (refine OkS.sto ?_ (by omega); first | assumption | (refine OkS.sto ?_ (by omega); first | assumption)))))) | exact Pfx.refl _ | (apply Pfx.snoc; repeat (first | exact Pfx.refl _ | assumption | apply Pfx.snoc)) | with_unfolding_all exact of_eq_true (eq_true rfl) | (simp only [List.length_append, List.length_cons, List.length_nil]; omega)) only [↓wpre0, ↓wpre1, ↓reduceIte, Int.reduceToNat, Nat.reduceAdd, Nat.reduceMul, Nat.reduceEqDiff, wpost0, wpost1, wpost2, wpost3, wpost4, ite_self, ite_true, ite_false, if_true, if_false, un_not, xbls39_0, xbls39_1, xlen42, bin_lss, xlen39, xiad39, xld63, xlen63, xiad42, xfad98_0, xld96, tze96, xst96, xiad63, xld2, xfad96_0, bin_sub, xfad96_1, bin_geq, bin_add, xbls63_0, xbls63_1, xst63, fr23, wrap_int, wrap_u8, iteP_yes, iteP_no, g0, g1, g6, g7, g8, g24, g25, VS.iad hY2.vs Try.underlying39 tsz63, VS.ld1 hY2.vs tsz63 tag63, Nat.mul_one] | refine iteP_two (fun hc hd => ?_) (fun hc hd => ?_) | refine iteP_intro (fun hc => ?_) (fun hc => ?_))
          · have hneg : fidx (okB l apart i) gs < 0 := by assumption
            have hyb := hY2.bof
            have p1 := (Pfx.refl h2).snoc (C := ⟨2, [.int .i64 i]⟩) |>.snoc (C := ⟨63, [.slice (some ⟨h2.length, 0, none⟩) 1 1]⟩)
            have q1 : (h2 ++ [(⟨2, [.int .i64 i]⟩ : Blk)] ++ [(⟨63, [.slice (some ⟨h2.length, 0, none⟩) 1 1]⟩ : Blk)])[h2.length]? = some ⟨2, [.int .i64 i]⟩ := by simp
            have q2 : (h2 ++ [(⟨2, [.int .i64 i]⟩ : Blk)] ++ [(⟨63, [.slice (some ⟨h2.length, 0, none⟩) 1 1]⟩ : Blk)])[(h2 ++ [(⟨2, [.int .i64 i]⟩ : Blk)]).length]? = some ⟨63, [.slice (some ⟨h2.length, 0, none⟩) 1 1]⟩ := get_last rfl
            have q3 : (h2 ++ [(⟨2, [.int .i64 i]⟩ : Blk)] ++ [(⟨63, [.slice (some ⟨h2.length, 0, none⟩) 1 1]⟩ : Blk)]).length = h2.length + 2 := by simp
            generalize (h2 ++ [(⟨2, [.int .i64 i]⟩ : Blk)] ++ [(⟨63, [.slice (some ⟨h2.length, 0, none⟩) 1 1]⟩ : Blk)]) = H at p1 q1 q2 q3 ⊢
            have hVN : VN h.length 63 1 H y gs.length xs := VN.pre (.inl hY2) p1
            have hap := ablt_ap1 (P := Try.prog) (ro := ro) (T := 39) (c := 1) tel39 tsz63 tby63 tze63 hVN hro q2 rfl (by omega) (by omega)
            simp -dsimp (disch := first | omega | assumption | (refine OkS.sto ?_ (by omega); first | assumption | (refine OkS.sto ?_ (by omega); first | assumption | (refine OkS.sto ?_ (by omega); first | assumption | (refine OkS.sto ?_ (by omega); first | assumption | (refine OkS.sto ?_ (by omega); first | assumption | (refine OkS.sto ?_ (by omega); first | assumption)))))) | exact Pfx.refl _ | (apply Pfx.snoc; repeat (first | exact Pfx.refl _ | assumption | apply Pfx.snoc)) | with_unfolding_all exact of_eq_true (eq_true rfl) | (simp only [List.length_append, List.length_cons, List.length_nil]; omega)) only [↓wpre0, ↓wpre1, ↓reduceIte, Int.reduceToNat, Nat.reduceAdd, Nat.reduceMul, Nat.reduceEqDiff, wpost0, wpost1, wpost2, wpost3, wpost4, ite_self, ite_true, ite_false, if_true, if_false, un_not, xbls39_0, xbls39_1, xlen42, bin_lss, xlen39, xiad39, xld63, xlen63, xiad42, xfad98_0, xld96, tze96, xst96, xiad63, xld2, xfad96_0, bin_sub, xfad96_1, bin_geq, bin_add, xbls63_0, xbls63_1, xst63, fr23, wrap_int, wrap_u8, iteP_yes, iteP_no, g0, g1, g6, g7, g8, g24, g25, hap]
            have hold : ∀ b, b < h2.length → b ≠ bOf y → (apv H y gs.length 63 (xs ++ [.slice (some ⟨h2.length, 0, none⟩) 1 1]))[b]? = h2[b]? := fun b hb hne => by
              rw [apv_get (by omega) hne]; exact p1.get hb
            have hnew : VG h.length 2 1 (apv H y gs.length 63 (xs ++ [.slice (some ⟨h2.length, 0, none⟩) 1 1])) (.slice (some ⟨h2.length, 0, none⟩) 1 1) 1 (vints [(i : Int)]) :=
              ⟨rfl, h2.length, 1, rfl, by omega, by rw [apv_get (by omega) (by omega)]; exact q1, by omega⟩
            refine ⟨_, by omega, i + 1, Value.slice (some ⟨H.length, 0, none⟩) (gs.length + 1) (gs.length + 1 + 1), xs ++ [Value.slice (some ⟨h2.length, 0, none⟩) 1 1], rfl, by omega, Pfx.apv ((hp.trans hp2).trans p1) hVN (Nat.le_refl _), by simp, rfl, ?_, ?_⟩
            · rw [hstep, farS, if_pos hneg, List.length_append]
              exact vg_apv (by simp [hgl]) (by omega) (by omega)
            · rw [hstep, farS, if_pos hneg]
              exact hG2.push (fun b _ h2b hne => hold b h2b hne) hnew (by simp [bOf]) (by simp [bOf]; omega) (by simp [bOf]; omega)
          · have hneg : ¬ fidx (okB l apart i) gs < 0 := by assumption
            have ha : (fidx (okB l apart i) gs).toNat < gs.length := by omega
            generalize hat : (fidx (okB l apart i) gs).toNat = a at ha ⊢
            have hr := hG2.row a ha
            have hrb := hr.bof
            have hrl := hGi.rlen ha
            have hyb := hY2.bof
            have hne := hG2.out a ha
            have p1 := (Pfx.refl h2).snoc (C := ⟨2, [.int .i64 i]⟩)
            have q1 : (h2 ++ [(⟨2, [.int .i64 i]⟩ : Blk)])[h2.length]? = some ⟨2, [.int .i64 i]⟩ := by simp
            have q3 : (h2 ++ [(⟨2, [.int .i64 i]⟩ : Blk)]).length = h2.length + 1 := by simp
            generalize (h2 ++ [(⟨2, [.int .i64 i]⟩ : Blk)]) = H at p1 q1 q3 ⊢
            have hVN : VN h.length 2 1 H (vth xs a) (rowI gs a).length (vints (rowI gs a)) := VN.pre (.inl hr) p1
            have hap := ablt_ap1 (P := Try.prog) (ro := ro) (T := 63) (c := 1) tel63 tsz2 tby2 tze2 hVN hro q1 rfl (by omega) (by omega)
            have hgA : ∀ b, b < h2.length → b ≠ bOf (vth xs a) → (apv H (vth xs a) (rowI gs a).length 2 (vints (rowI gs a) ++ [.int .i64 i]))[b]? = h2[b]? := fun b hb hne => by
              rw [apv_get (by omega) hne]; exact p1.get hb
            have hYA := hY2.frame (hgA _ hyb.2 (fun e => hne e.symm))
            have hst := fun (w : Value) (a1 : cellsOf w = [w]) (a2 : one w = true) => hYA.vs.stv (P := Try.prog) (ro := ro) (c := a) (v := w) tsz63 (by omega) a1 a2 (by omega)
            have hst1 := hst (.slice (some ⟨H.length, 0, none⟩) ((rowI gs a).length + 1) ((rowI gs a).length + 1 + 1)) rfl rfl
            have hia : iadr Try.prog 39 y (.int .i64 (fidx (okB l apart i) gs)) = some (ea y (a * 1)) := by rw [hYA.vs.iad Try.underlying39 tsz63 .i64 (by omega) (by omega), hat]
            rw [Nat.mul_one] at hia
            simp -dsimp (disch := first | omega | assumption | (refine OkS.sto ?_ (by omega); first | assumption | (refine OkS.sto ?_ (by omega); first | assumption | (refine OkS.sto ?_ (by omega); first | assumption | (refine OkS.sto ?_ (by omega); first | assumption | (refine OkS.sto ?_ (by omega); first | assumption | (refine OkS.sto ?_ (by omega); first | assumption)))))) | exact Pfx.refl _ | (apply Pfx.snoc; repeat (first | exact Pfx.refl _ | assumption | apply Pfx.snoc)) | with_unfolding_all exact of_eq_true (eq_true rfl) | (simp only [List.length_append, List.length_cons, List.length_nil]; omega)) only [↓wpre0, ↓wpre1, ↓reduceIte, Int.reduceToNat, Nat.reduceAdd, Nat.reduceMul, Nat.reduceEqDiff, wpost0, wpost1, wpost2, wpost3, wpost4, ite_self, ite_true, ite_false, if_true, if_false, un_not, xbls39_0, xbls39_1, xlen42, bin_lss, xlen39, xiad39, xld63, xlen63, xiad42, xfad98_0, xld96, tze96, xst96, xiad63, xld2, xfad96_0, bin_sub, xfad96_1, bin_geq, bin_add, xbls63_0, xbls63_1, xst63, fr23, wrap_int, wrap_u8, iteP_yes, iteP_no, g0, g1, g6, g7, g8, g24, g25, hap, hia, hst1]
            have hrs := VS.rsto (VS.wide hYA.vs (lo' := bOf y) (hi' := bOf y + 1) (by omega) (by omega)) (by omega) a (.slice (some ⟨H.length, 0, none⟩) ((rowI gs a).length + 1) ((rowI gs a).length + 1 + 1))
            refine ⟨_, by omega, i + 1, y, xs.set a (.slice (some ⟨H.length, 0, none⟩) ((rowI gs a).length + 1) ((rowI gs a).length + 1 + 1)), rfl, by omega, (Pfx.apv ((hp.trans hp2).trans p1) hVN (Nat.le_refl _)).rng hrs hyb.1, by simp, rfl, ?_, ?_⟩
            · rw [hstep, farS, if_neg hneg, List.length_set]
              exact hYA.sto (by omega) _
            · rw [hstep, farS, if_neg hneg, hat]
              refine hG2.put ha (fun b _ h2b hb1 hb2 => ?_) ?_ (.inl (by show h2.length ≤ H.length; omega)) (by show H.length ≠ bOf y; omega)
              · rw [hrs.2 b (by omega)]; exact hgA b h2b hb2
              · have := vg_apv (lo := h.length) (t := 2) (k := 1) (h := H) (x := vth xs a) (n := (rowI gs a).length) (m := (rowI gs a).length + 1) (M := vints (rowI gs a) ++ [.int .i64 i]) (by simp [vints_len]) (by omega) (by omega)
                have := this.frame (h' := sto (apv H (vth xs a) (rowI gs a).length 2 (vints (rowI gs a) ++ [.int .i64 i])) y a (.slice (some ⟨H.length, 0, none⟩) ((rowI gs a).length + 1) ((rowI gs a).length + 1 + 1))) (hrs.2 _ (by show H.length < bOf y ∨ bOf y + 1 ≤ H.length; omega))
                rw [List.length_append]
                simp only [vints_app]
                exact this
      · have : i = n := by omega
        subst this
        have hnf : flat (.tuple ⟨[y, .bool true]⟩) = false := by
          obtain ⟨_, b, cap, rfl, _⟩ := hY
          rfl
        (repeat' first | simp -dsimp (disch := first | omega | assumption | (refine OkS.sto ?_ (by omega); first | assumption | (refine OkS.sto ?_ (by omega); first | assumption | (refine OkS.sto ?_ (by omega); first | assumption | (refine OkS.sto ?_ (by omega); first | assumption | (refine OkS.sto ?_ (by omega); first | assumption | (refine OkS.sto ?_ (by omega); first | assumption)))))) | exact Pfx.refl _ | (apply Pfx.snoc; repeat (first | exact Pfx.refl _ | assumption | apply Pfx.snoc)) | with_unfolding_all exact of_eq_true (eq_true rfl) | (simp only [List.length_append, List.length_cons, List.length_nil]; omega)) only [↓wpre0, ↓wpre1, ↓reduceIte, Int.reduceToNat, Nat.reduceAdd, Nat.reduceMul, Nat.reduceEqDiff, wpost0, wpost1, wpost2, wpost3, wpost4, ite_self, ite_true, ite_false, if_true, if_false, un_not, xbls39_0, xbls39_1, xlen42, bin_lss, xlen39, xiad39, xld63, xlen63, xiad42, xfad98_0, xld96, tze96, xst96, xiad63, xld2, xfad96_0, bin_sub, xfad96_1, bin_geq, bin_add, xbls63_0, xbls63_1, xst63, fr23, wrap_int, wrap_u8, iteP_yes, iteP_no, g0, g1, g24, g25, g6, endH_not hnf] | refine iteP_two (fun hc hd => ?_) (fun hc hd => ?_) | refine iteP_intro (fun hc => ?_) (fun hc => ?_))
        exact ⟨hp, .inr ⟨hok, _, _, rfl, hY, hG⟩⟩
  all_goals
    refine ⟨?_, .inl ⟨by simp [faOk, *], rfl⟩⟩
    first | exact Pfx.refl _ | (rw [endH_same]; exact Pfx.refl _)
end Go.Proofs.Ytbakaopgdcojfaa.Sim
