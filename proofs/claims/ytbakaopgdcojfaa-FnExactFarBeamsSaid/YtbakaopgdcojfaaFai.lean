/- Groups of beams: what the program's FarBeams comes to. Lemmas only; no condition. -/
import Derived.Test.YtbakaopgdcojfaaFas
set_option linter.unusedSimpArgs false
set_option linter.unusedVariables false
set_option maxRecDepth 8000
namespace Go.Proofs.Ytbakaopgdcojfaa.Sim
open Go Go.RowKit
variable {ro : Nat} {X : Ext}
theorem NG.low {lo lo' t bx : Nat} {h : Heap} {xs : List Value} {gs : List (List Int)} (g : NG lo t h bx xs gs) (hl : lo' ≤ lo) : NG lo' t h bx xs gs := ⟨g.len, fun i hi => (g.row i hi).low hl, g.out, g.sep⟩
set_option maxHeartbeats 4000000 in
theorem iFar_c (hX : ∀ f, X f = none) {lo hi n : Nat} {l : List Int} {x : Value} {h : Heap} {apart : Int} (hI : IS lo hi 4 h x n l) (hn : n ≤ 1048576) (hro : ro ≤ h.length) :
    CallR Try.prog ro X 25 [x, .int .i64 apart] h (fun r h' => FaR l n apart h h' r) := by
  have hx := hI.vs.shape
  refine callR_of (hX _) Try.func25 rfl (by kernel_rfl) (Nat.le_of_ble_eq_true rfl) ?_
  have hI0 : ∀ C D, IS lo hi 4 (h ++ [C] ++ [D]) x n l := fun C D => hI.pre (Pfx.refl h).snoc.snoc
  have hr0 := fun C D => areBeams_r (ro := ro) hX (hI0 C D) hn (by simp; omega)
  (repeat' first | simp -dsimp (disch := first | omega | assumption | (refine OkS.sto ?_ (by omega); first | assumption | (refine OkS.sto ?_ (by omega); first | assumption | (refine OkS.sto ?_ (by omega); first | assumption | (refine OkS.sto ?_ (by omega); first | assumption | (refine OkS.sto ?_ (by omega); first | assumption | (refine OkS.sto ?_ (by omega); first | assumption)))))) | exact Pfx.refl _ | (apply Pfx.snoc; repeat (first | exact Pfx.refl _ | assumption | apply Pfx.snoc)) | with_unfolding_all exact of_eq_true (eq_true rfl) | (simp only [List.length_append, List.length_cons, List.length_nil]; omega)) only [↓wpre0, ↓wpre1, ↓reduceIte, Int.reduceToNat, Nat.reduceAdd, Nat.reduceMul, Nat.reduceEqDiff, wpost0, wpost1, wpost2, wpost3, wpost4, ite_self, ite_true, ite_false, if_true, if_false, xld42, un_not, xld2, xbls39_0, xbls39_1, xlen42, bin_lss, xiad42, xld98, tze98, xst98, tze24, xst24, xbls63_0, xbls63_1, xiad39, xld63, xst63, bin_add, fr25, wrap_int, wrap_u8, iteP_yes, iteP_no, box_one hx.2.1 hx.2.2, hr0, within_r hX, hI.len Try.underlying42] | refine iteP_two (fun hc hd => ?_) (fun hc hd => ?_) | refine iteP_intro (fun hc => ?_) (fun hc => ?_))
  · have hok : faOk n l apart = true := by simp [faOk, *]
    have hb : isB n l = true := by assumption
    have hn7 := (isB_n hb).2
    refine loop_rounds (fun m e h' => ∃ (i : Nat) (y : Value) (xs : List Value), m = n - i ∧ i ≤ n ∧ Pfx (h ++ [(⟨42, [x]⟩ : Blk)] ++ [(⟨2, [.int .i64 apart]⟩ : Blk)]) h' ∧ e 2 = .pointer (some ⟨h.length, 0, none⟩) ∧ e 3 = .pointer (some ⟨h.length + 1, 0, none⟩) ∧ e 20 = x ∧ e 21 = .int .i64 n ∧ e 22 = .int .i64 i ∧ e 6 = y ∧ VG (h.length + 2) 63 1 h' y (farG l apart i).length xs ∧ NG (h.length + 2) 2 h' (bOf y) xs (farG l apart i)) _ ⟨0, .slice (some ⟨h.length + 2, 0, none⟩) 0 0, [], rfl, ?_⟩ ?_
    · simp only [updO_at, updO_not, entry_at, List.getD_cons_zero, List.getD_cons_succ, ↓reduceIte, Nat.reduceEqDiff, true_and, and_true]
      refine ⟨by omega, (Pfx.refl _).snoc, ?_, ?_, ?_, ?_, NG.nil⟩
      · simp
      · simp
      · simp
      · have := vg_new (lo := h.length + 2) (t := 63) (k := 1) (h ++ [(⟨42, [x]⟩ : Blk)] ++ [(⟨2, [.int .i64 apart]⟩ : Blk)]) (by simp)
        rw [show (h ++ [(⟨42, [x]⟩ : Blk)] ++ [(⟨2, [.int .i64 apart]⟩ : Blk)]).length = h.length + 2 by simp] at this
        exact this
    · rintro m e h' ⟨i, y, xs, hm, hle, hp, g2, g3, g20, g21, g22, g6, hY, hG⟩
      have hl := hp.len
      simp only [List.length_append, List.length_cons, List.length_nil] at hl
      have hpx : Pfx h h' := (Pfx.refl h).snoc.snoc.trans hp
      have hI' := hI.pre hpx
      have hGi := farG_ok l apart i
      have hgl := hG.len
      by_cases hin : i < n
      · have b1 := br hb hin
        have c2 : cell h' h.length 0 = some x := by rw [cellb (t := 42) (cs := [x]) ((hp.get (b := h.length) (by simp)).trans (by simp))]; rfl
        have c3 : cell h' (h.length + 1) 0 = some (.int .i64 apart) := by rw [cellb (t := 2) (cs := [.int .i64 apart]) ((hp.get (b := h.length + 1) (by simp)).trans (by simp))]; rfl
        (repeat' first | simp -dsimp (disch := first | omega | assumption | (refine OkS.sto ?_ (by omega); first | assumption | (refine OkS.sto ?_ (by omega); first | assumption | (refine OkS.sto ?_ (by omega); first | assumption | (refine OkS.sto ?_ (by omega); first | assumption | (refine OkS.sto ?_ (by omega); first | assumption | (refine OkS.sto ?_ (by omega); first | assumption)))))) | exact Pfx.refl _ | (apply Pfx.snoc; repeat (first | exact Pfx.refl _ | assumption | apply Pfx.snoc)) | with_unfolding_all exact of_eq_true (eq_true rfl) | (simp only [List.length_append, List.length_cons, List.length_nil]; omega)) only [↓wpre0, ↓wpre1, ↓reduceIte, Int.reduceToNat, Nat.reduceAdd, Nat.reduceMul, Nat.reduceEqDiff, wpost0, wpost1, wpost2, wpost3, wpost4, ite_self, ite_true, ite_false, if_true, if_false, xld42, un_not, xld2, xbls39_0, xbls39_1, xlen42, bin_lss, xiad42, xld98, tze98, xst98, tze24, xst24, xbls63_0, xbls63_1, xiad39, xld63, xst63, bin_add, fr25, wrap_int, wrap_u8, iteP_yes, iteP_no, g2, g3, g20, g21, g22, g6, IS.iad hI' Try.underlying42 tsz98, IS.ldm hI' tsz98 tag98] | refine iteP_two (fun hc hd => ?_) (fun hc hd => ?_) | refine iteP_intro (fun hc => ?_) (fun hc => ?_))
        have p1 := (Pfx.refl h').snoc (C := ⟨98, [.int .i64 (nth l (i * 4)), .int .i64 (nth l (i * 4 + 1)), .int .i64 (nth l (i * 4 + 2)), .int .i64 (nth l (i * 4 + 3))]⟩) |>.snoc (C := ⟨24, [.func (.func 79) ⟨[]⟩ ⟨[.pointer (some ⟨h.length, 0, none⟩), .pointer (some ⟨h'.length, 0, none⟩), .pointer (some ⟨h.length + 1, 0, none⟩)]⟩]⟩)
        have q1 := fun C => (get_skip (C := C) (show h'.length < (h' ++ [(⟨98, [.int .i64 (nth l (i * 4)), .int .i64 (nth l (i * 4 + 1)), .int .i64 (nth l (i * 4 + 2)), .int .i64 (nth l (i * 4 + 3))]⟩ : Blk)]).length by simp)).trans (get_last (h := h') rfl)
        have q2 := get_last (h := h' ++ [(⟨98, [.int .i64 (nth l (i * 4)), .int .i64 (nth l (i * 4 + 1)), .int .i64 (nth l (i * 4 + 2)), .int .i64 (nth l (i * 4 + 3))]⟩ : Blk)]) (C := ⟨24, [.func (.func 79) ⟨[]⟩ ⟨[.pointer (some ⟨h.length, 0, none⟩), .pointer (some ⟨h'.length, 0, none⟩), .pointer (some ⟨h.length + 1, 0, none⟩)]⟩]⟩) rfl
        have q1 := q1 ⟨24, [.func (.func 79) ⟨[]⟩ ⟨[.pointer (some ⟨h.length, 0, none⟩), .pointer (some ⟨h'.length, 0, none⟩), .pointer (some ⟨h.length + 1, 0, none⟩)]⟩]⟩
        generalize hb9 : (h' ++ [(⟨98, [.int .i64 (nth l (i * 4)), .int .i64 (nth l (i * 4 + 1)), .int .i64 (nth l (i * 4 + 2)), .int .i64 (nth l (i * 4 + 3))]⟩ : Blk)]).length = b9 at q2 ⊢
        simp only [List.length_append, List.length_cons, List.length_nil] at hb9
        have q3 : (h' ++ [(⟨98, [.int .i64 (nth l (i * 4)), .int .i64 (nth l (i * 4 + 1)), .int .i64 (nth l (i * 4 + 2)), .int .i64 (nth l (i * 4 + 3))]⟩ : Blk)] ++ [(⟨24, [.func (.func 79) ⟨[]⟩ ⟨[.pointer (some ⟨h.length, 0, none⟩), .pointer (some ⟨h'.length, 0, none⟩), .pointer (some ⟨h.length + 1, 0, none⟩)]⟩]⟩ : Blk)]).length = h'.length + 2 := by simp
        generalize (h' ++ [(⟨98, [.int .i64 (nth l (i * 4)), .int .i64 (nth l (i * 4 + 1)), .int .i64 (nth l (i * 4 + 2)), .int .i64 (nth l (i * 4 + 3))]⟩ : Blk)] ++ [(⟨24, [.func (.func 79) ⟨[]⟩ ⟨[.pointer (some ⟨h.length, 0, none⟩), .pointer (some ⟨h'.length, 0, none⟩), .pointer (some ⟨h.length + 1, 0, none⟩)]⟩]⟩ : Blk)]) = h2 at p1 q1 q2 q3 ⊢
        have hstep : farG l apart (i + 1) = farS l apart (farG l apart i) i := rfl
        have hrng := @fidx_range _ (okB l apart i) (farG l apart i)
        generalize farG l apart i = gs at hY hG hGi hgl hstep hrng ⊢
        have hgs7 := hGi.len
        have hp2 := p1
        have hY2 := hY.pre hp2
        have hG2 := hG.pre hp2
        have hI2 := hI'.pre hp2
        have d2 : cell h2 h.length 0 = some x := by rw [← c2]; unfold cell; rw [p1.get (by omega)]
        have d3 : cell h2 (h.length + 1) 0 = some (.int .i64 apart) := by rw [← c3]; unfold cell; rw [p1.get (by omega)]
        have hidx := idxR_r (ro := ro) hX hY2.vs hG2 (Nat.le_trans hgs7 (by omega)) 82 [.pointer (some ⟨b9, 0, none⟩)] (okB l apart i) (fun g hg => by
          have hrl := hGi.rlen hg
          exact grp_r (ro := ro) (p2 := h.length) (p8 := h'.length) (p3 := h.length + 1) (p9 := b9) hX hI2 hb hin d2 (by rw [cellb q1]; rfl) (by rw [cellb q1]; rfl) d3 (by rw [cellb q2]; rfl) (by omega) (by omega) (by omega) (by omega) (hG2.row g hg).vs.is (by omega) (fun k hk => by have := hGi.at hg hk; omega))
        (repeat' first | simp -dsimp (disch := first | omega | assumption | (refine OkS.sto ?_ (by omega); first | assumption | (refine OkS.sto ?_ (by omega); first | assumption | (refine OkS.sto ?_ (by omega); first | assumption | (refine OkS.sto ?_ (by omega); first | assumption | (refine OkS.sto ?_ (by omega); first | assumption | (refine OkS.sto ?_ (by omega); first | assumption)))))) | exact Pfx.refl _ | (apply Pfx.snoc; repeat (first | exact Pfx.refl _ | assumption | apply Pfx.snoc)) | with_unfolding_all exact of_eq_true (eq_true rfl) | (simp only [List.length_append, List.length_cons, List.length_nil]; omega)) only [↓wpre0, ↓wpre1, ↓reduceIte, Int.reduceToNat, Nat.reduceAdd, Nat.reduceMul, Nat.reduceEqDiff, wpost0, wpost1, wpost2, wpost3, wpost4, ite_self, ite_true, ite_false, if_true, if_false, xld42, un_not, xld2, xbls39_0, xbls39_1, xlen42, bin_lss, xiad42, xld98, tze98, xst98, tze24, xst24, xbls63_0, xbls63_1, xiad39, xld63, xst63, bin_add, fr25, wrap_int, wrap_u8, iteP_yes, iteP_no, g2, g3, g20, g21, g22, g6, hidx, VS.iad hY2.vs Try.underlying39 tsz63, VS.ld1 hY2.vs tsz63 tag63, Nat.mul_one] | refine iteP_two (fun hc hd => ?_) (fun hc hd => ?_) | refine iteP_intro (fun hc => ?_) (fun hc => ?_))
        · have hneg : fidx (okB l apart i) gs < 0 := by assumption
          have hyb := hY2.bof
          have p1 := (Pfx.refl h2).snoc (C := ⟨2, [.int .i64 i]⟩) |>.snoc (C := ⟨63, [.slice (some ⟨h2.length, 0, none⟩) 1 1]⟩)
          have q1 : (h2 ++ [(⟨2, [.int .i64 i]⟩ : Blk)] ++ [(⟨63, [.slice (some ⟨h2.length, 0, none⟩) 1 1]⟩ : Blk)])[h2.length]? = some ⟨2, [.int .i64 i]⟩ := by simp
          have q2 : (h2 ++ [(⟨2, [.int .i64 i]⟩ : Blk)] ++ [(⟨63, [.slice (some ⟨h2.length, 0, none⟩) 1 1]⟩ : Blk)])[(h2 ++ [(⟨2, [.int .i64 i]⟩ : Blk)]).length]? = some ⟨63, [.slice (some ⟨h2.length, 0, none⟩) 1 1]⟩ := get_last rfl
          have q3 : (h2 ++ [(⟨2, [.int .i64 i]⟩ : Blk)] ++ [(⟨63, [.slice (some ⟨h2.length, 0, none⟩) 1 1]⟩ : Blk)]).length = h2.length + 2 := by simp
          generalize (h2 ++ [(⟨2, [.int .i64 i]⟩ : Blk)] ++ [(⟨63, [.slice (some ⟨h2.length, 0, none⟩) 1 1]⟩ : Blk)]) = H at p1 q1 q2 q3 ⊢
          have hVN : VN (h.length + 2) 63 1 H y gs.length xs := VN.pre (.inl hY2) p1
          have hap := ablt_ap1 (P := Try.prog) (ro := ro) (T := 39) (c := 1) tel39 tsz63 tby63 tze63 hVN (show ro ≤ h.length + 2 by omega) q2 rfl (by omega) (by omega)
          simp -dsimp (disch := first | omega | assumption | (refine OkS.sto ?_ (by omega); first | assumption | (refine OkS.sto ?_ (by omega); first | assumption | (refine OkS.sto ?_ (by omega); first | assumption | (refine OkS.sto ?_ (by omega); first | assumption | (refine OkS.sto ?_ (by omega); first | assumption | (refine OkS.sto ?_ (by omega); first | assumption)))))) | exact Pfx.refl _ | (apply Pfx.snoc; repeat (first | exact Pfx.refl _ | assumption | apply Pfx.snoc)) | with_unfolding_all exact of_eq_true (eq_true rfl) | (simp only [List.length_append, List.length_cons, List.length_nil]; omega)) only [↓wpre0, ↓wpre1, ↓reduceIte, Int.reduceToNat, Nat.reduceAdd, Nat.reduceMul, Nat.reduceEqDiff, wpost0, wpost1, wpost2, wpost3, wpost4, ite_self, ite_true, ite_false, if_true, if_false, xld42, un_not, xld2, xbls39_0, xbls39_1, xlen42, bin_lss, xiad42, xld98, tze98, xst98, tze24, xst24, xbls63_0, xbls63_1, xiad39, xld63, xst63, bin_add, fr25, wrap_int, wrap_u8, iteP_yes, iteP_no, g2, g3, g6, g20, g21, g22, hap]
          have hold : ∀ b, b < h2.length → b ≠ bOf y → (apv H y gs.length 63 (xs ++ [.slice (some ⟨h2.length, 0, none⟩) 1 1]))[b]? = h2[b]? := fun b hb hne => by
            rw [apv_get (by omega) hne]; exact p1.get hb
          have hnew : VG (h.length + 2) 2 1 (apv H y gs.length 63 (xs ++ [.slice (some ⟨h2.length, 0, none⟩) 1 1])) (.slice (some ⟨h2.length, 0, none⟩) 1 1) 1 (vints [(i : Int)]) :=
            ⟨rfl, h2.length, 1, rfl, by omega, by rw [apv_get (by omega) (by omega)]; exact q1, by omega⟩
          refine ⟨_, by omega, i + 1, Value.slice (some ⟨H.length, 0, none⟩) (gs.length + 1) (gs.length + 1 + 1), xs ++ [Value.slice (some ⟨h2.length, 0, none⟩) 1 1], rfl, by omega, Pfx.apv ((hp.trans hp2).trans p1) hVN (by simp), by simp, rfl, ?_, ?_⟩
          · rw [hstep, farS, if_pos hneg, List.length_append]
            exact vg_apv (by simp [hgl]) (by omega) (by omega)
          · rw [hstep, farS, if_pos hneg]
            exact hG2.push (fun b _ h2b hne => hold b h2b hne) hnew (by simp [bOf]) (by simp [bOf]; omega) (by simp [bOf]; omega)
        · have hneg : ¬ fidx (okB l apart i) gs < 0 := by assumption
          have ha : (fidx (okB l apart i) gs).toNat < gs.length := by omega
          generalize hat : (fidx (okB l apart i) gs).toNat = a at ha ⊢
          have hr := hG2.row a ha
          have hrb := hr.bof
          have hrl := hGi.rlen ha
          have hyb := hY2.bof
          have hne := hG2.out a ha
          have p1 := (Pfx.refl h2).snoc (C := ⟨2, [.int .i64 i]⟩)
          have q1 : (h2 ++ [(⟨2, [.int .i64 i]⟩ : Blk)])[h2.length]? = some ⟨2, [.int .i64 i]⟩ := by simp
          have q3 : (h2 ++ [(⟨2, [.int .i64 i]⟩ : Blk)]).length = h2.length + 1 := by simp
          generalize (h2 ++ [(⟨2, [.int .i64 i]⟩ : Blk)]) = H at p1 q1 q3 ⊢
          have hVN : VN (h.length + 2) 2 1 H (vth xs a) (rowI gs a).length (vints (rowI gs a)) := VN.pre (.inl hr) p1
          have hap := ablt_ap1 (P := Try.prog) (ro := ro) (T := 63) (c := 1) tel63 tsz2 tby2 tze2 hVN (show ro ≤ h.length + 2 by omega) q1 rfl (by omega) (by omega)
          have hgA : ∀ b, b < h2.length → b ≠ bOf (vth xs a) → (apv H (vth xs a) (rowI gs a).length 2 (vints (rowI gs a) ++ [.int .i64 i]))[b]? = h2[b]? := fun b hb hne => by
            rw [apv_get (by omega) hne]; exact p1.get hb
          have hYA := hY2.frame (hgA _ hyb.2 (fun e => hne e.symm))
          have hst := fun (w : Value) (a1 : cellsOf w = [w]) (a2 : one w = true) => hYA.vs.stv (P := Try.prog) (ro := ro) (c := a) (v := w) tsz63 (by omega) a1 a2 (by omega)
          have hst1 := hst (.slice (some ⟨H.length, 0, none⟩) ((rowI gs a).length + 1) ((rowI gs a).length + 1 + 1)) rfl rfl
          have hia : iadr Try.prog 39 y (.int .i64 (fidx (okB l apart i) gs)) = some (ea y (a * 1)) := by rw [hYA.vs.iad Try.underlying39 tsz63 .i64 (by omega) (by omega), hat]
          rw [Nat.mul_one] at hia
          simp -dsimp (disch := first | omega | assumption | (refine OkS.sto ?_ (by omega); first | assumption | (refine OkS.sto ?_ (by omega); first | assumption | (refine OkS.sto ?_ (by omega); first | assumption | (refine OkS.sto ?_ (by omega); first | assumption | (refine OkS.sto ?_ (by omega); first | assumption | (refine OkS.sto ?_ (by omega); first | assumption)))))) | exact Pfx.refl _ | (apply Pfx.snoc; repeat (first | exact Pfx.refl _ | assumption | apply Pfx.snoc)) | with_unfolding_all exact of_eq_true (eq_true rfl) | (simp only [List.length_append, List.length_cons, List.length_nil]; omega)) only [↓wpre0, ↓wpre1, ↓reduceIte, Int.reduceToNat, Nat.reduceAdd, Nat.reduceMul, Nat.reduceEqDiff, wpost0, wpost1, wpost2, wpost3, wpost4, ite_self, ite_true, ite_false, if_true, if_false, xld42, un_not, xld2, xbls39_0, xbls39_1, xlen42, bin_lss, xiad42, xld98, tze98, xst98, tze24, xst24, xbls63_0, xbls63_1, xiad39, xld63, xst63, bin_add, fr25, wrap_int, wrap_u8, iteP_yes, iteP_no, g2, g3, g6, g20, g21, g22, hap, hia, hst1]
          have hrs := VS.rsto (VS.wide hYA.vs (lo' := bOf y) (hi' := bOf y + 1) (by omega) (by omega)) (by omega) a (.slice (some ⟨H.length, 0, none⟩) ((rowI gs a).length + 1) ((rowI gs a).length + 1 + 1))
          refine ⟨_, by omega, i + 1, y, xs.set a (.slice (some ⟨H.length, 0, none⟩) ((rowI gs a).length + 1) ((rowI gs a).length + 1 + 1)), rfl, by omega, (Pfx.apv ((hp.trans hp2).trans p1) hVN (by simp)).rng hrs (by simp; omega), by simp, rfl, ?_, ?_⟩
          · rw [hstep, farS, if_neg hneg, List.length_set]
            exact hYA.sto (by omega) _
          · rw [hstep, farS, if_neg hneg, hat]
            refine hG2.put ha (fun b _ h2b hb1 hb2 => ?_) ?_ (.inl (by show h2.length ≤ H.length; omega)) (by show H.length ≠ bOf y; omega)
            · rw [hrs.2 b (by omega)]; exact hgA b h2b hb2
            · have := vg_apv (lo := h.length + 2) (t := 2) (k := 1) (h := H) (x := vth xs a) (n := (rowI gs a).length) (m := (rowI gs a).length + 1) (M := vints (rowI gs a) ++ [.int .i64 i]) (by simp [vints_len]) (by omega) (by omega)
              have := this.frame (h' := sto (apv H (vth xs a) (rowI gs a).length 2 (vints (rowI gs a) ++ [.int .i64 i])) y a (.slice (some ⟨H.length, 0, none⟩) ((rowI gs a).length + 1) ((rowI gs a).length + 1 + 1))) (hrs.2 _ (by show H.length < bOf y ∨ bOf y + 1 ≤ H.length; omega))
              rw [List.length_append]
              simp only [vints_app]
              exact this
      · have : i = n := by omega
        subst this
        have hnf : flat (.tuple ⟨[y, .bool true]⟩) = false := by
          obtain ⟨_, b, cap, rfl, _⟩ := hY
          rfl
        (repeat' first | simp -dsimp (disch := first | omega | assumption | (refine OkS.sto ?_ (by omega); first | assumption | (refine OkS.sto ?_ (by omega); first | assumption | (refine OkS.sto ?_ (by omega); first | assumption | (refine OkS.sto ?_ (by omega); first | assumption | (refine OkS.sto ?_ (by omega); first | assumption | (refine OkS.sto ?_ (by omega); first | assumption)))))) | exact Pfx.refl _ | (apply Pfx.snoc; repeat (first | exact Pfx.refl _ | assumption | apply Pfx.snoc)) | with_unfolding_all exact of_eq_true (eq_true rfl) | (simp only [List.length_append, List.length_cons, List.length_nil]; omega)) only [↓wpre0, ↓wpre1, ↓reduceIte, Int.reduceToNat, Nat.reduceAdd, Nat.reduceMul, Nat.reduceEqDiff, wpost0, wpost1, wpost2, wpost3, wpost4, ite_self, ite_true, ite_false, if_true, if_false, xld42, un_not, xld2, xbls39_0, xbls39_1, xlen42, bin_lss, xiad42, xld98, tze98, xst98, tze24, xst24, xbls63_0, xbls63_1, xiad39, xld63, xst63, bin_add, fr25, wrap_int, wrap_u8, iteP_yes, iteP_no, g2, g3, g20, g21, g22, g6, endH_not hnf] | refine iteP_two (fun hc hd => ?_) (fun hc hd => ?_) | refine iteP_intro (fun hc => ?_) (fun hc => ?_))
        exact ⟨hpx, .inr ⟨hok, _, _, rfl, hY.low (by omega), hG.low (by omega)⟩⟩
  all_goals exact ⟨(Pfx.refl h).snoc.snoc, .inl ⟨by simp [faOk, *], rfl⟩⟩
end Go.Proofs.Ytbakaopgdcojfaa.Sim
