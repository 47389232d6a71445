/- RecoverRecord: the program's and the reference's. Lemmas only; no condition. -/
import Derived.Test.YteignhphimfmkaaRci
set_option linter.unusedSimpArgs false
set_option linter.unusedVariables false
set_option maxRecDepth 8000
namespace Go.Proofs.Yteignhphimfmkaa.Sim
open Go Go.RowKit
variable {ro : Nat} {X : Ext}
/-- What RecoverRecord returns. -/
def RcR (l : List UInt8) (h h' : Heap) (r : Value) : Prop :=
  Pfx h h' ∧ ((hdrOk l = false ∧ r = .tuple ⟨[.agg ⟨[.int .i64 0, .slice none 0 0]⟩, .int .i64 0, .bool false]⟩) ∨
    (hdrOk l = true ∧ ∃ m x L, Cnt l m ∧ r = .tuple ⟨[.agg ⟨[.int .i64 (elN l), x]⟩, .int .i64 (posN l m), .bool true]⟩ ∧ FrS h.length h' x (elN l) m L (ixN l) (zsN l)))
set_option maxHeartbeats 4000000 in
theorem iRecover_c (hX : XB X) {l : List UInt8} {h : Heap} (hl : l.length ≤ 1048576) (hro : ro ≤ h.length) :
    CallR Try.prog ro X 12 [.string ⟨⟨l⟩⟩] h (fun r h' => RcR l h h' r) := by
  refine callR_of (hX.n _ rfl) Try.func12 rfl (by kernel_rfl) (Nat.le_of_ble_eq_true rfl) ?_
  (repeat' first | simp -dsimp (disch := first | omega | assumption | (refine OkS.sto ?_ (by omega); first | assumption | (refine OkS.sto ?_ (by omega); first | assumption | (refine OkS.sto ?_ (by omega); first | assumption | (refine OkS.sto ?_ (by omega); first | assumption | (refine OkS.sto ?_ (by omega); first | assumption | (refine OkS.sto ?_ (by omega); first | assumption)))))) | exact Pfx.refl _ | (apply Pfx.snoc; repeat (first | exact Pfx.refl _ | assumption | apply Pfx.snoc)) | with_unfolding_all exact of_eq_true (eq_true rfl) | (simp only [List.length_append, List.length_cons, List.length_nil]; omega)) only [↓wpre0, ↓wpre1, ↓reduceIte, Int.reduceToNat, Nat.reduceAdd, Nat.reduceMul, Nat.reduceEqDiff, wpost0, wpost1, wpost2, wpost3, wpost4, ite_self, ite_true, ite_false, if_true, if_false, tze26, un_not, xbld26, xst26, xbld26_0, xfad26_1, xld24, xlen24, bin_lss, sl_bl Try.underlying9, slo_bl Try.underlying9, shi_bl Try.underlying9, tze41, xst41, bin_gtr, xfad41_0, xld2, bin_sub, xiad24, bin_leq, xld41, xbls24_0, xbls24_1, xst24, bin_add, xld26, fr12, wrap_int, wrap_u8, iteP_yes, iteP_no, cf_eq (elementsOf_c hX.n _ _)] | refine iteP_two (fun hc hd => ?_) (fun hc hd => ?_) | refine iteP_intro (fun hc => ?_) (fun hc => ?_))
  all_goals first
    | (refine ⟨(Pfx.refl h).snoc, .inl ⟨?_, rfl⟩⟩
       simp_all [hdrOk, opi]
       done)
    | skip
  rename_i hh
  have hOk : hdrOk l = true := by simp_all [hdrOk, opi]
  obtain ⟨e1, n1, n2, n3, n4⟩ := hdrOk_n hOk
  have e2 : opi ⟨⟨l⟩⟩ = (elN l : Int) := by rw [← e1]; simp_all [opi]
  rw [e2]
  (repeat' first | simp -dsimp (disch := first | omega | assumption | (refine OkS.sto ?_ (by omega); first | assumption | (refine OkS.sto ?_ (by omega); first | assumption | (refine OkS.sto ?_ (by omega); first | assumption | (refine OkS.sto ?_ (by omega); first | assumption | (refine OkS.sto ?_ (by omega); first | assumption | (refine OkS.sto ?_ (by omega); first | assumption)))))) | exact Pfx.refl _ | (apply Pfx.snoc; repeat (first | exact Pfx.refl _ | assumption | apply Pfx.snoc)) | with_unfolding_all exact of_eq_true (eq_true rfl) | (simp only [List.length_append, List.length_cons, List.length_nil]; omega)) only [↓wpre0, ↓wpre1, ↓reduceIte, Int.reduceToNat, Nat.reduceAdd, Nat.reduceMul, Nat.reduceEqDiff, wpost0, wpost1, wpost2, wpost3, wpost4, ite_self, ite_true, ite_false, if_true, if_false, tze26, un_not, xbld26, xst26, xbld26_0, xfad26_1, xld24, xlen24, bin_lss, sl_bl Try.underlying9, slo_bl Try.underlying9, shi_bl Try.underlying9, tze41, xst41, bin_gtr, xfad41_0, xld2, bin_sub, xiad24, bin_leq, xld41, xbls24_0, xbls24_1, xst24, bin_add, xld26, fr12, wrap_int, wrap_u8, iteP_yes, iteP_no, e2, cf_eq (iFrameSize_c hX.n _ n3 _)] | refine iteP_two (fun hc hd => ?_) (fun hc hd => ?_) | refine iteP_intro (fun hc => ?_) (fun hc => ?_))
  refine loop_exit 0 (fun e2 h2 => ∃ m x L, Cnt l m ∧ Pfx (h ++ [(⟨26, [.int .i64 0, .slice none 0 0]⟩ : Blk)]) h2 ∧ h2[h.length + 1]? = some ⟨26, [.int .i64 (elN l), x]⟩ ∧ e2 2 = .pointer (some ⟨h.length, 0, none⟩) ∧ e2 9 = .pointer (some ⟨h.length + 1, 0, none⟩) ∧ e2 10 = .int .i64 (posN l m) ∧ FrS (h.length + 2) h2 x (elN l) m L (ixN l) (zsN l)) ?_ ?_
  · refine loop_rounds (fun k e h' => ∃ (j : Nat) (x : Value) (L : List Value), k = 64 - j ∧ j ≤ 64 ∧ (∀ i, i < j → okJ l i = true) ∧ posN l j ≤ l.length ∧ Pfx (h ++ [(⟨26, [.int .i64 0, .slice none 0 0]⟩ : Blk)]) h' ∧ h.length + 2 ≤ h'.length ∧ h'[h.length + 1]? = some ⟨26, [.int .i64 (elN l), x]⟩ ∧ e 0 = .string ⟨⟨l⟩⟩ ∧ e 2 = .pointer (some ⟨h.length, 0, none⟩) ∧ e 5 = .int .i64 (elN l) ∧ e 7 = .int .i64 (6 + 8 * (elN l : Int)) ∧ e 9 = .pointer (some ⟨h.length + 1, 0, none⟩) ∧ e 10 = .int .i64 (posN l j) ∧ VN (h.length + 2) 41 2 h' x j L ∧ NF (h.length + 2) h'.length h' (bOf x) (elN l) j L (ixN l) (zsN l)) _ ⟨0, .slice none 0 0, [], rfl, ?_⟩ ?_
    · simp only [updO_at, updO_not, entry_at, List.getD_cons_zero, List.getD_cons_succ, ↓reduceIte, Nat.reduceEqDiff, true_and, and_true]
      have h5 := ((hdr_iff ⟨⟨l⟩⟩).1 n4).1
      refine ⟨by omega, fun i hi => by omega, ?_, (Pfx.refl _).snoc, by simp, by simp, by simp, by simp [posN], vn_nil _, NF.nil⟩
      simp only [posN, Nat.zero_mul, Nat.add_zero]
      exact h5
    · rintro k e h' ⟨j, x, L, hk, hle, hok, hpl, hp, hlen, hb8, g0, g2, g5, g7, g9, g10, hV, hN⟩
      have hx := hV.vs.shape
      have hxb := hV.vs.lt
      have c81 : cell h' (h.length + 1) 1 = some x := cellb hb8
      have hpj := posN_le (l := l) n2 hle
      by_cases hin : j < 64
      · (repeat' first | simp -dsimp (disch := first | omega | assumption | (refine OkS.sto ?_ (by omega); first | assumption | (refine OkS.sto ?_ (by omega); first | assumption | (refine OkS.sto ?_ (by omega); first | assumption | (refine OkS.sto ?_ (by omega); first | assumption | (refine OkS.sto ?_ (by omega); first | assumption | (refine OkS.sto ?_ (by omega); first | assumption)))))) | exact Pfx.refl _ | (apply Pfx.snoc; repeat (first | exact Pfx.refl _ | assumption | apply Pfx.snoc)) | with_unfolding_all exact of_eq_true (eq_true rfl) | (simp only [List.length_append, List.length_cons, List.length_nil]; omega)) only [↓wpre0, ↓wpre1, ↓reduceIte, Int.reduceToNat, Nat.reduceAdd, Nat.reduceMul, Nat.reduceEqDiff, wpost0, wpost1, wpost2, wpost3, wpost4, ite_self, ite_true, ite_false, if_true, if_false, tze26, un_not, xbld26, xst26, xbld26_0, xfad26_1, xld24, xlen24, bin_lss, sl_bl Try.underlying9, slo_bl Try.underlying9, shi_bl Try.underlying9, tze41, xst41, bin_gtr, xfad41_0, xld2, bin_sub, xiad24, bin_leq, xld41, xbls24_0, xbls24_1, xst24, bin_add, xld26, fr12, wrap_int, wrap_u8, iteP_yes, iteP_no, g0, g2, g5, g7, g9, g10, c81, hV.vs.len Try.underlying24] | refine iteP_two (fun hc hd => ?_) (fun hc hd => ?_) | refine iteP_intro (fun hc => ?_) (fun hc => ?_))
        refine cf_rel (frameAt_c (ro := ro) hX n1 n2 (by rw [List.length_drop]; omega) (by omega)) (fun q => by cases q) ?_
        rintro r h2 ⟨p2, hy⟩
        rw [atOk_drop _ _ _ (by omega), atZ_drop, wd_drop, Nat.add_zero] at hy
        have l2 := p2.len
        rcases hy with ⟨hat, rfl⟩ | ⟨hat, y, rfl, vy⟩
        · obtain ⟨H3, hH3⟩ : ∃ H3, H3 = h2 ++ [(⟨41, [.int .i64 0, .slice none 0 0]⟩ : Blk)] := ⟨_, rfl⟩
          have p3 : Pfx h2 H3 := by rw [hH3]; exact (Pfx.refl h2).snoc
          have l3 : H3.length = h2.length + 1 := by rw [hH3]; simp
          have b7 : H3[h.length + 1]? = some ⟨26, [.int .i64 (elN l), x]⟩ := by rw [(p2.trans p3).get (by omega)]; exact hb8
          have d7 : cell H3 (h.length + 1) 1 = some x := cellb b7
          have hz3 : put ro H3 h2.length 0 2 (.agg ⟨[.int .i64 0, .slice none 0 0]⟩) = some H3 := by
            rw [hH3]
            exact put_last2 (by omega) rfl rfl
          have V3 := hV.pre (p2.trans p3)
          have N3 := hN.pre (p2.trans p3)
          (repeat' first | simp -dsimp (disch := first | omega | assumption | (refine OkS.sto ?_ (by omega); first | assumption | (refine OkS.sto ?_ (by omega); first | assumption | (refine OkS.sto ?_ (by omega); first | assumption | (refine OkS.sto ?_ (by omega); first | assumption | (refine OkS.sto ?_ (by omega); first | assumption | (refine OkS.sto ?_ (by omega); first | assumption)))))) | exact Pfx.refl _ | (apply Pfx.snoc; repeat (first | exact Pfx.refl _ | assumption | apply Pfx.snoc)) | with_unfolding_all exact of_eq_true (eq_true rfl) | (simp only [List.length_append, List.length_cons, List.length_nil]; omega)) only [↓wpre0, ↓wpre1, ↓reduceIte, Int.reduceToNat, Nat.reduceAdd, Nat.reduceMul, Nat.reduceEqDiff, wpost0, wpost1, wpost2, wpost3, wpost4, ite_self, ite_true, ite_false, if_true, if_false, tze26, un_not, xbld26, xst26, xbld26_0, xfad26_1, xld24, xlen24, bin_lss, sl_bl Try.underlying9, slo_bl Try.underlying9, shi_bl Try.underlying9, tze41, xst41, bin_gtr, xfad41_0, xld2, bin_sub, xiad24, bin_leq, xld41, xbls24_0, xbls24_1, xst24, bin_add, xld26, fr12, wrap_int, wrap_u8, iteP_yes, iteP_no, g0, g2, g5, g7, g9, g10, put_last2 (ro := ro) (h := h2) (t := 41) (u := .int .i64 0) (v := .slice none 0 0) (a := .int .i64 0) (c := .slice none 0 0) (by omega) rfl rfl, ← hH3, hz3, d7, V3.vs.len Try.underlying24] | refine iteP_two (fun hc hd => ?_) (fun hc hd => ?_) | refine iteP_intro (fun hc => ?_) (fun hc => ?_))
          exact ⟨j, x, L, ⟨hle, hok, .inr (by unfold okJ; rw [hat, Bool.false_and])⟩, hp.trans (p2.trans p3), b7, rfl, V3, N3.wide (by omega) (by omega)⟩
        · have y2 := vy.vs.shape.2.2
          have hyb := vy.bof
          obtain ⟨H3, hH3⟩ : ∃ H3, H3 = h2 ++ [(⟨41, [.int .i64 (ixN l j), y]⟩ : Blk)] := ⟨_, rfl⟩
          have p3 : Pfx h2 H3 := by rw [hH3]; exact (Pfx.refl h2).snoc
          have l3 : H3.length = h2.length + 1 := by rw [hH3]; simp
          have b10 : H3[h2.length]? = some ⟨41, [.int .i64 (ixN l j), y]⟩ := by rw [hH3]; exact get_last rfl
          have b7 : H3[h.length + 1]? = some ⟨26, [.int .i64 (elN l), x]⟩ := by rw [(p2.trans p3).get (by omega)]; exact hb8
          have d10 : cell H3 h2.length 0 = some (.int .i64 (ixN l j)) := cellb b10
          have d7 : cell H3 (h.length + 1) 1 = some x := cellb b7
          have k10 : cells H3 h2.length 0 2 = some (.agg ⟨[.int .i64 (ixN l j), y]⟩) := cellsb b10 (by simp)
          have V3 := hV.pre (p2.trans p3)
          have N3 := hN.pre (p2.trans p3)
          obtain ⟨H, ap, vg, old, hH⟩ := accK (P := Try.prog) (ro := ro) (T := 24) (M := [.int .i64 (ixN l j), y]) tel24 tsz41 tby41 tze41 (by decide) V3 (by omega) (by omega) rfl (by simp only [List.all_cons, List.all_nil, y2, Bool.and_true]; rfl) (by omega) (by omega)
          have hbd : bldS Try.prog H3 24 1 [(0, .agg ⟨[.int .i64 (ixN l j), y]⟩)] = some (.slice (some ⟨H3.length, 0, none⟩) 1 1, H3 ++ [⟨41, [.int .i64 (ixN l j), y]⟩]) := bldS_one (v := .agg ⟨[.int .i64 (ixN l j), y]⟩) tel24 tsz41 tze41 rfl (by decide) rfl (by simp only [cellsOf, List.all_cons, List.all_nil, y2, Bool.and_true]; rfl)
          have keep : ∀ b, b < H3.length → (b < h.length + 2 ∨ h'.length ≤ b) → H[b]? = H3[b]? := fun b hb hb' => by
            rcases hxb with q | q
            · exact old.2.1 _ hb (.inl q)
            · exact old.2.1 _ hb (.inr (by omega))
          have b7H : H[h.length + 1]? = some ⟨26, [.int .i64 (elN l), x]⟩ := (keep _ (by omega) (by omega)).trans b7
          have hput1 : put ro H (h.length + 1) 1 1 (.slice (some ⟨H3.length + 1, 0, none⟩) (j + 1) (j + 1 + 1)) = some (H.set (h.length + 1) ⟨26, [.int .i64 (elN l), .slice (some ⟨H3.length + 1, 0, none⟩) (j + 1) (j + 1 + 1)]⟩) := by
            rw [putb (ro := ro) (n := 1) (v := .slice (some ⟨H3.length + 1, 0, none⟩) (j + 1) (j + 1 + 1)) b7H (by omega) rfl (Nat.le_refl 2) rfl]; rfl
          have d7b : ∀ C, cell (H3 ++ [C]) (h.length + 1) 1 = some x := fun C => (cell_skip (by omega)).trans d7
          have eqp : posN l j + (6 + 8 * elN l) = posN l (j + 1) := (posN_succ l j).symm
          have eqi : (posN l j : Int) + (6 + 8 * (elN l : Int)) = (posN l (j + 1) : Int) := by rw [← eqp]; omega
          have hal := atOk_len hat
          have hwr := wd_range l (posN l j)
          have hix : ixN l j = wd l (posN l j) := rfl
          rw [← hix] at hwr
          have stop : okJ l j = false → ∃ m x L, Cnt l m ∧ Pfx (h ++ [(⟨26, [.int .i64 0, .slice none 0 0]⟩ : Blk)]) H3 ∧ H3[h.length + 1]? = some ⟨26, [.int .i64 (elN l), x]⟩ ∧ Value.int .i64 (posN l j) = .int .i64 (posN l m) ∧ FrS (h.length + 2) H3 x (elN l) m L (ixN l) (zsN l) := fun q =>
            ⟨j, x, L, ⟨hle, hok, .inr q⟩, hp.trans (p2.trans p3), b7, rfl, V3, N3.wide (by omega) (by omega)⟩
          have go : okJ l j = true → (∃ m, m < k ∧ ∃ (j_1 : Nat) (x_1 : Value) (L_1 : List Value), m = 64 - j_1 ∧ j_1 ≤ 64 ∧ (∀ i, i < j_1 → okJ l i = true) ∧ posN l j_1 ≤ l.length ∧ Pfx (h ++ [(⟨26, [.int .i64 0, .slice none 0 0]⟩ : Blk)]) (H.set (h.length + 1) ⟨26, [.int .i64 (elN l), .slice (some ⟨H3.length + 1, 0, none⟩) (j + 1) (j + 1 + 1)]⟩) ∧ h.length + 2 ≤ (H.set (h.length + 1) ⟨26, [.int .i64 (elN l), .slice (some ⟨H3.length + 1, 0, none⟩) (j + 1) (j + 1 + 1)]⟩).length ∧ (H.set (h.length + 1) ⟨26, [.int .i64 (elN l), .slice (some ⟨H3.length + 1, 0, none⟩) (j + 1) (j + 1 + 1)]⟩)[h.length + 1]? = some ⟨26, [.int .i64 (elN l), x_1]⟩ ∧ Value.int .i64 (posN l (j + 1)) = .int .i64 (posN l j_1) ∧ VN (h.length + 2) 41 2 (H.set (h.length + 1) ⟨26, [.int .i64 (elN l), .slice (some ⟨H3.length + 1, 0, none⟩) (j + 1) (j + 1 + 1)]⟩) x_1 j_1 L_1 ∧ NF (h.length + 2) (H.set (h.length + 1) ⟨26, [.int .i64 (elN l), .slice (some ⟨H3.length + 1, 0, none⟩) (j + 1) (j + 1 + 1)]⟩).length (H.set (h.length + 1) ⟨26, [.int .i64 (elN l), .slice (some ⟨H3.length + 1, 0, none⟩) (j + 1) (j + 1 + 1)]⟩) (bOf x_1) (elN l) j_1 L_1 (ixN l) (zsN l)) := fun q => by
            refine ⟨_, by omega, j + 1, _, L ++ [.int .i64 (ixN l j), y], rfl, by omega, ?_, by omega, (old.1 _ (hp.trans (p2.trans p3)) (by simp)).set (by simp), by simp; omega, set_at (by omega), rfl, .inl (vg.frame (set_get ?_)), ?_⟩
            · intro i hij
              rcases Nat.lt_or_ge i j with w | w
              · exact hok i w
              · obtain rfl : i = j := by omega
                exact q
            · show H3.length + 1 ≠ h.length + 1
              omega
            · refine N3.push (y := y) (fun b h1 h2 h4 => ?_) ?_ hyb.1 (by omega) (by rw [List.length_set]; omega) ?_ ?_ (by rw [List.length_set]; omega)
              · rw [set_get (by omega)]
                exact old.2.1 b (by omega) (.inr h4)
              · refine vy.vs.frb ?_
                rw [set_get (by omega), keep _ (by omega) (by omega)]
                exact p3.get hyb.2
              · show bOf y ≠ H3.length + 1
                omega
              · show h'.length ≤ H3.length + 1
                omega
          rcases Nat.eq_zero_or_pos j with hj0 | hj0
          · have hoj : okJ l j = true := by
              unfold okJ
              rw [hat, decide_eq_true (by unfold lastN; rw [if_pos hj0]; omega)]; rfl
            (repeat' first | simp -dsimp (disch := first | omega | assumption | (refine OkS.sto ?_ (by omega); first | assumption | (refine OkS.sto ?_ (by omega); first | assumption | (refine OkS.sto ?_ (by omega); first | assumption | (refine OkS.sto ?_ (by omega); first | assumption | (refine OkS.sto ?_ (by omega); first | assumption | (refine OkS.sto ?_ (by omega); first | assumption)))))) | exact Pfx.refl _ | (apply Pfx.snoc; repeat (first | exact Pfx.refl _ | assumption | apply Pfx.snoc)) | with_unfolding_all exact of_eq_true (eq_true rfl) | (simp only [List.length_append, List.length_cons, List.length_nil]; omega)) only [↓wpre0, ↓wpre1, ↓reduceIte, Int.reduceToNat, Nat.reduceAdd, Nat.reduceMul, Nat.reduceEqDiff, wpost0, wpost1, wpost2, wpost3, wpost4, ite_self, ite_true, ite_false, if_true, if_false, tze26, un_not, xbld26, xst26, xbld26_0, xfad26_1, xld24, xlen24, bin_lss, sl_bl Try.underlying9, slo_bl Try.underlying9, shi_bl Try.underlying9, tze41, xst41, bin_gtr, xfad41_0, xld2, bin_sub, xiad24, bin_leq, xld41, xbls24_0, xbls24_1, xst24, bin_add, xld26, fr12, wrap_int, wrap_u8, iteP_yes, iteP_no, g0, g2, g5, g7, g9, g10, ← hix, put_last2 (ro := ro) (h := h2) (t := 41) (u := .int .i64 0) (v := .slice none 0 0) (a := .int .i64 (ixN l j)) (c := y) (by omega) rfl y2, ← hH3, d10, d7, d7b, k10, V3.vs.len Try.underlying24, hbd, ap, hput1, eqi] | refine iteP_two (fun hc hd => ?_) (fun hc hd => ?_) | refine iteP_intro (fun hc => ?_) (fun hc => ?_))
            all_goals exact go hoj
          · have ej : ((j : Int) - 1).toNat = j - 1 := by omega
            have hlast : lastN l j = ixN l (j - 1) := by unfold lastN; rw [if_neg (by omega)]
            have q0 := VS.ld1 (P := Try.prog) V3.vs tsz2 tag2 (c := (j - 1) * 2) (by omega)
            rw [hN.idx (j - 1) (by omega)] at q0
            (repeat' first | simp -dsimp (disch := first | omega | assumption | (refine OkS.sto ?_ (by omega); first | assumption | (refine OkS.sto ?_ (by omega); first | assumption | (refine OkS.sto ?_ (by omega); first | assumption | (refine OkS.sto ?_ (by omega); first | assumption | (refine OkS.sto ?_ (by omega); first | assumption | (refine OkS.sto ?_ (by omega); first | assumption)))))) | exact Pfx.refl _ | (apply Pfx.snoc; repeat (first | exact Pfx.refl _ | assumption | apply Pfx.snoc)) | with_unfolding_all exact of_eq_true (eq_true rfl) | (simp only [List.length_append, List.length_cons, List.length_nil]; omega)) only [↓wpre0, ↓wpre1, ↓reduceIte, Int.reduceToNat, Nat.reduceAdd, Nat.reduceMul, Nat.reduceEqDiff, wpost0, wpost1, wpost2, wpost3, wpost4, ite_self, ite_true, ite_false, if_true, if_false, tze26, un_not, xbld26, xst26, xbld26_0, xfad26_1, xld24, xlen24, bin_lss, sl_bl Try.underlying9, slo_bl Try.underlying9, shi_bl Try.underlying9, tze41, xst41, bin_gtr, xfad41_0, xld2, bin_sub, xiad24, bin_leq, xld41, xbls24_0, xbls24_1, xst24, bin_add, xld26, fr12, wrap_int, wrap_u8, iteP_yes, iteP_no, g0, g2, g5, g7, g9, g10, ← hix, put_last2 (ro := ro) (h := h2) (t := 41) (u := .int .i64 0) (v := .slice none 0 0) (a := .int .i64 (ixN l j)) (c := y) (by omega) rfl y2, ← hH3, d10, d7, d7b, k10, V3.vs.len Try.underlying24, VS.iad V3.vs Try.underlying24 tsz41, VS.fad V3.vs tfi41_0 (by decide), Nat.add_zero, ej, q0, hbd, ap, hput1, eqi] | refine iteP_two (fun hc hd => ?_) (fun hc hd => ?_) | refine iteP_intro (fun hc => ?_) (fun hc => ?_))
            all_goals first
              | (refine go ?_
                 unfold okJ
                 rw [hat, hlast, decide_eq_true (by omega)]; rfl)
              | (refine stop ?_
                 unfold okJ
                 rw [hlast, decide_eq_false (by omega), Bool.and_false])
      · have : j = 64 := by omega
        subst this
        (repeat' first | simp -dsimp (disch := first | omega | assumption | (refine OkS.sto ?_ (by omega); first | assumption | (refine OkS.sto ?_ (by omega); first | assumption | (refine OkS.sto ?_ (by omega); first | assumption | (refine OkS.sto ?_ (by omega); first | assumption | (refine OkS.sto ?_ (by omega); first | assumption | (refine OkS.sto ?_ (by omega); first | assumption)))))) | exact Pfx.refl _ | (apply Pfx.snoc; repeat (first | exact Pfx.refl _ | assumption | apply Pfx.snoc)) | with_unfolding_all exact of_eq_true (eq_true rfl) | (simp only [List.length_append, List.length_cons, List.length_nil]; omega)) only [↓wpre0, ↓wpre1, ↓reduceIte, Int.reduceToNat, Nat.reduceAdd, Nat.reduceMul, Nat.reduceEqDiff, wpost0, wpost1, wpost2, wpost3, wpost4, ite_self, ite_true, ite_false, if_true, if_false, tze26, un_not, xbld26, xst26, xbld26_0, xfad26_1, xld24, xlen24, bin_lss, sl_bl Try.underlying9, slo_bl Try.underlying9, shi_bl Try.underlying9, tze41, xst41, bin_gtr, xfad41_0, xld2, bin_sub, xiad24, bin_leq, xld41, xbls24_0, xbls24_1, xst24, bin_add, xld26, fr12, wrap_int, wrap_u8, iteP_yes, iteP_no, g0, g2, g5, g7, g9, g10, c81, hV.vs.len Try.underlying24] | refine iteP_two (fun hc hd => ?_) (fun hc hd => ?_) | refine iteP_intro (fun hc => ?_) (fun hc => ?_))
        exact ⟨64, x, L, ⟨Nat.le_refl _, hok, .inl rfl⟩, hp, hb8, rfl, hV, hN.wide (by omega) (by omega)⟩
  · rintro e3 h2 ⟨m, x, L, hc2, hp, hb8, g2, g9, g10, hV, hN⟩
    have hx : flat x = false ∧ cellsOf x = [x] ∧ one x = true := hV.vs.shape
    have hl2 := hp.len
    have hl3 := lt_of_some hb8
    have hb4 : h2[h.length]? = some ⟨26, [.int .i64 0, .slice none 0 0]⟩ := by rw [hp.get (by simp)]; exact get_last rfl
    have hpy := put2 (ro := ro) (a := .int .i64 (elN l)) (c := x) hb4 hro rfl hx.2.2
    have hcl : cells h2 (h.length + 1) 0 2 = some (.agg ⟨[.int .i64 (elN l), x]⟩) := cellsb hb8 (by simp)
    (repeat' first | simp -dsimp (disch := first | omega | assumption | (refine OkS.sto ?_ (by omega); first | assumption | (refine OkS.sto ?_ (by omega); first | assumption | (refine OkS.sto ?_ (by omega); first | assumption | (refine OkS.sto ?_ (by omega); first | assumption | (refine OkS.sto ?_ (by omega); first | assumption | (refine OkS.sto ?_ (by omega); first | assumption)))))) | exact Pfx.refl _ | (apply Pfx.snoc; repeat (first | exact Pfx.refl _ | assumption | apply Pfx.snoc)) | with_unfolding_all exact of_eq_true (eq_true rfl) | (simp only [List.length_append, List.length_cons, List.length_nil]; omega)) only [↓wpre0, ↓wpre1, ↓reduceIte, Int.reduceToNat, Nat.reduceAdd, Nat.reduceMul, Nat.reduceEqDiff, wpost0, wpost1, wpost2, wpost3, wpost4, ite_self, ite_true, ite_false, if_true, if_false, tze26, un_not, xbld26, xst26, xbld26_0, xfad26_1, xld24, xlen24, bin_lss, sl_bl Try.underlying9, slo_bl Try.underlying9, shi_bl Try.underlying9, tze41, xst41, bin_gtr, xfad41_0, xld2, bin_sub, xiad24, bin_leq, xld41, xbls24_0, xbls24_1, xst24, bin_add, xld26, fr12, wrap_int, wrap_u8, iteP_yes, iteP_no, g2, g9, g10, hcl, hpy, cells_set] | refine iteP_two (fun hc hd => ?_) (fun hc hd => ?_) | refine iteP_intro (fun hc => ?_) (fun hc => ?_))
    refine ⟨((Pfx.refl h).snoc.trans hp).set (Nat.le_refl _), .inr ⟨hOk, m, x, L, hc2, rfl, ?_, ?_⟩⟩
    · rcases hV with g | g
      · exact .inl ((g.frame (set_get (by have := g.bof.1; omega))).low (by omega))
      · exact .inr g
    · exact (hN.frame fun b h1 h2 _ => set_get (by omega)).wide (by omega) (by simp)
end Go.Proofs.Yteignhphimfmkaa.Sim
