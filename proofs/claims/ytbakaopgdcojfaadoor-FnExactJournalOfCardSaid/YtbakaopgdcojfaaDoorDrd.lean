/- The functions that cut texts, and the reference's and the program's journals. Lemmas only; no condition. -/
import Derived.Test.YtbakaopgdcojfaaDoorDrc
set_option linter.unusedSimpArgs false
set_option linter.unusedVariables false
set_option maxRecDepth 8000
namespace Go.Proofs.YtbakaopgdcojfaaDoor.Sim
open Go Go.RowKit
variable {ro : Nat} {X : Ext}
theorem sIndex_r (hx : XD X) (l : List UInt8) (c : UInt8) (h : Heap) : Ret Tryd.prog ro X 26 [.string ⟨⟨l⟩⟩, .string ⟨⟨[c]⟩⟩] h (.int .i64 (Lib.indexByte l c)) := by
  have hX := hx.n
  refine ret_of (callR_of (hX _ rfl) Tryd.func26 rfl (by kernel_rfl) (Nat.le_of_ble_eq_true rfl) ?_)
  (repeat' first | simp -dsimp (disch := first | omega | assumption | (refine OkS.sto ?_ (by omega); first | assumption | (refine OkS.sto ?_ (by omega); first | assumption | (refine OkS.sto ?_ (by omega); first | assumption | (refine OkS.sto ?_ (by omega); first | assumption | (refine OkS.sto ?_ (by omega); first | assumption | (refine OkS.sto ?_ (by omega); first | assumption)))))) | exact Pfx.refl _ | (apply Pfx.snoc; repeat (first | exact Pfx.refl _ | assumption | apply Pfx.snoc)) | with_unfolding_all exact of_eq_true (eq_true rfl) | (simp only [List.length_append, List.length_cons, List.length_nil]; omega)) only [↓wpre0, ↓wpre1, ↓reduceIte, Int.reduceToNat, Nat.reduceAdd, Nat.reduceMul, Nat.reduceEqDiff, wpost0, wpost1, wpost2, wpost3, wpost4, ite_self, ite_true, ite_false, if_true, if_false, fr26, wrap_int, wrap_u8, iteP_yes, iteP_no, sub_r hx] | refine iteP_two (fun hc hd => ?_) (fun hc hd => ?_) | refine iteP_intro (fun hc => ?_) (fun hc => ?_))
theorem Contains_r (hx : XD X) (l : List UInt8) (c : UInt8) (h : Heap) : Ret Tryd.prog ro X 15 [.string ⟨⟨l⟩⟩, .string ⟨⟨[c]⟩⟩] h (.bool (fnd l c)) := by
  have hX := hx.n
  refine ret_of (callR_of (hX _ rfl) Tryd.func15 rfl (by kernel_rfl) (Nat.le_of_ble_eq_true rfl) ?_)
  (repeat' first | simp -dsimp (disch := first | omega | assumption | (refine OkS.sto ?_ (by omega); first | assumption | (refine OkS.sto ?_ (by omega); first | assumption | (refine OkS.sto ?_ (by omega); first | assumption | (refine OkS.sto ?_ (by omega); first | assumption | (refine OkS.sto ?_ (by omega); first | assumption | (refine OkS.sto ?_ (by omega); first | assumption)))))) | exact Pfx.refl _ | (apply Pfx.snoc; repeat (first | exact Pfx.refl _ | assumption | apply Pfx.snoc)) | with_unfolding_all exact of_eq_true (eq_true rfl) | (simp only [List.length_append, List.length_cons, List.length_nil]; omega)) only [↓wpre0, ↓wpre1, ↓reduceIte, Int.reduceToNat, Nat.reduceAdd, Nat.reduceMul, Nat.reduceEqDiff, wpost0, wpost1, wpost2, wpost3, wpost4, ite_self, ite_true, ite_false, if_true, if_false, bin_geq, fr15, wrap_int, wrap_u8, iteP_yes, iteP_no, sIndex_r hx] | refine iteP_two (fun hc hd => ?_) (fun hc hd => ?_) | refine iteP_intro (fun hc => ?_) (fun hc => ?_))
  all_goals first | rfl | skip
theorem lCut_r (hx : XD X) {l : List UInt8} (c : UInt8) {h : Heap} (hl : l.length ≤ 1099511627776) : Ret Tryd.prog ro X 37 [.string ⟨⟨l⟩⟩, .string ⟨⟨[c]⟩⟩] h (.tuple ⟨[.string ⟨⟨wrd l c⟩⟩, .string ⟨⟨rst l c⟩⟩, .bool (fnd l c)]⟩) := by
  have hX := hx.n
  have i0 := Lib.indexByte_ge l c
  have i1 := idx_lt l c
  refine ret_of (callR_of (hX _ rfl) Tryd.func37 rfl (by kernel_rfl) (Nat.le_of_ble_eq_true rfl) ?_)
  by_cases hf : 0 ≤ Lib.indexByte l c
  · have e1 : fnd l c = true := decide_eq_true hf
    have e2 : wrd l c = l.take (Lib.indexByte l c).toNat := by rw [wrd, if_pos e1]
    have e3 : rst l c = l.drop ((Lib.indexByte l c).toNat + 1) := by rw [rst, if_pos e1]
    have e4 : (Lib.indexByte l c + ((1 : Nat) : Int)).toNat = (Lib.indexByte l c).toNat + 1 := by omega
    have e5 : ([c] : List UInt8).length = 1 := rfl
    rw [e1, e2, e3]
    (repeat' first | simp -dsimp (disch := first | omega | assumption | (refine OkS.sto ?_ (by omega); first | assumption | (refine OkS.sto ?_ (by omega); first | assumption | (refine OkS.sto ?_ (by omega); first | assumption | (refine OkS.sto ?_ (by omega); first | assumption | (refine OkS.sto ?_ (by omega); first | assumption | (refine OkS.sto ?_ (by omega); first | assumption)))))) | exact Pfx.refl _ | (apply Pfx.snoc; repeat (first | exact Pfx.refl _ | assumption | apply Pfx.snoc)) | with_unfolding_all exact of_eq_true (eq_true rfl) | (simp only [List.length_append, List.length_cons, List.length_nil]; omega)) only [↓wpre0, ↓wpre1, ↓reduceIte, Int.reduceToNat, Nat.reduceAdd, Nat.reduceMul, Nat.reduceEqDiff, wpost0, wpost1, wpost2, wpost3, wpost4, ite_self, ite_true, ite_false, if_true, if_false, bin_geq, sl_bl Tryd.underlying9, slo_bl Tryd.underlying9, shi_bl Tryd.underlying9, len_bl Tryd.underlying9, bin_add, fr37, wrap_int, wrap_u8, iteP_yes, iteP_no, sub_r hx, e5, e4] | refine iteP_two (fun hc hd => ?_) (fun hc hd => ?_) | refine iteP_intro (fun hc => ?_) (fun hc => ?_))
  · have e1 : fnd l c = false := decide_eq_false hf
    have e2 : wrd l c = l := by rw [wrd, e1]; rfl
    have e3 : rst l c = [] := by rw [rst, e1]; rfl
    rw [e1, e2, e3]
    (repeat' first | simp -dsimp (disch := first | omega | assumption | (refine OkS.sto ?_ (by omega); first | assumption | (refine OkS.sto ?_ (by omega); first | assumption | (refine OkS.sto ?_ (by omega); first | assumption | (refine OkS.sto ?_ (by omega); first | assumption | (refine OkS.sto ?_ (by omega); first | assumption | (refine OkS.sto ?_ (by omega); first | assumption)))))) | exact Pfx.refl _ | (apply Pfx.snoc; repeat (first | exact Pfx.refl _ | assumption | apply Pfx.snoc)) | with_unfolding_all exact of_eq_true (eq_true rfl) | (simp only [List.length_append, List.length_cons, List.length_nil]; omega)) only [↓wpre0, ↓wpre1, ↓reduceIte, Int.reduceToNat, Nat.reduceAdd, Nat.reduceMul, Nat.reduceEqDiff, wpost0, wpost1, wpost2, wpost3, wpost4, ite_self, ite_true, ite_false, if_true, if_false, bin_geq, sl_bl Tryd.underlying9, slo_bl Tryd.underlying9, shi_bl Tryd.underlying9, len_bl Tryd.underlying9, bin_add, fr37, wrap_int, wrap_u8, iteP_yes, iteP_no, sub_r hx] | refine iteP_two (fun hc hd => ?_) (fun hc hd => ?_) | refine iteP_intro (fun hc => ?_) (fun hc => ?_))
theorem Cut_r (hx : XD X) {l : List UInt8} (c : UInt8) {h : Heap} (hl : l.length ≤ 1099511627776) : Ret Tryd.prog ro X 32 [.string ⟨⟨l⟩⟩, .string ⟨⟨[c]⟩⟩] h (.tuple ⟨[.string ⟨⟨wrd l c⟩⟩, .string ⟨⟨rst l c⟩⟩, .bool (fnd l c)]⟩) := by
  have hX := hx.n
  refine ret_of (callR_of (hX _ rfl) Tryd.func32 rfl (by kernel_rfl) (Nat.le_of_ble_eq_true rfl) ?_)
  (repeat' first | simp -dsimp (disch := first | omega | assumption | (refine OkS.sto ?_ (by omega); first | assumption | (refine OkS.sto ?_ (by omega); first | assumption | (refine OkS.sto ?_ (by omega); first | assumption | (refine OkS.sto ?_ (by omega); first | assumption | (refine OkS.sto ?_ (by omega); first | assumption | (refine OkS.sto ?_ (by omega); first | assumption)))))) | exact Pfx.refl _ | (apply Pfx.snoc; repeat (first | exact Pfx.refl _ | assumption | apply Pfx.snoc)) | with_unfolding_all exact of_eq_true (eq_true rfl) | (simp only [List.length_append, List.length_cons, List.length_nil]; omega)) only [↓wpre0, ↓wpre1, ↓reduceIte, Int.reduceToNat, Nat.reduceAdd, Nat.reduceMul, Nat.reduceEqDiff, wpost0, wpost1, wpost2, wpost3, wpost4, ite_self, ite_true, ite_false, if_true, if_false, fr32, wrap_int, wrap_u8, iteP_yes, iteP_no, lCut_r hx] | refine iteP_two (fun hc hd => ?_) (fun hc hd => ?_) | refine iteP_intro (fun hc => ?_) (fun hc => ?_))
/-- What l01Cut has found so far. -/
def CutI (t : List UInt8) (i from_ : Nat) (A : List (List UInt8)) : Prop :=
  from_ ≤ i ∧ A.length ≤ i ∧ (∀ j : Nat, from_ ≤ j → j < i → t[j]? ≠ some 10) ∧ ∃ F, t.length + 1 ≤ F + from_ ∧ lns (t.length + 1) t = A ++ lns F (t.drop from_)
theorem CutI.start (t : List UInt8) : CutI t 0 0 [] := ⟨Nat.le_refl _, Nat.le_refl _, fun j _ h => by omega, t.length + 1, by omega, by simp⟩
theorem CutI.mark {t : List UInt8} {i f : Nat} {A : List (List UInt8)} (c : CutI t i f A) (hi : i < t.length) (h : bth t i = 10) : CutI t (i + 1) (i + 1) (A ++ [(t.drop f).take (i - f)]) := by
  obtain ⟨h1, h2, h3, F, h4, h5⟩ := c
  refine ⟨Nat.le_refl _, by simp; omega, fun j _ _ => by omega, ?_⟩
  have hti : t[i]? = some 10 := by
    rw [List.getElem?_eq_getElem hi]
    simp only [bth, List.getD_eq_getElem?_getD, List.getElem?_eq_getElem hi, Option.getD_some] at h
    congr 1
    exact UInt8.toNat_inj.1 (by have e : (10 : UInt8).toNat = 10 := rfl; omega)
  have hx : Lib.indexByte (t.drop f) 10 = ((i - f : Nat) : Int) := idx_eq (by rw [List.getElem?_drop, show f + (i - f) = i by omega]; exact hti) (fun k hk => by rw [List.getElem?_drop]; exact h3 _ (by omega) (by omega))
  obtain ⟨G, rfl⟩ : ∃ G, F = G + 1 := ⟨F - 1, by omega⟩
  refine ⟨G, by omega, ?_⟩
  rw [h5, lns_some hx, List.drop_drop, List.append_assoc, List.singleton_append, show f + (i - f + 1) = i + 1 by omega]
theorem CutI.skip {t : List UInt8} {i f : Nat} {A : List (List UInt8)} (c : CutI t i f A) (hi : i < t.length) (h : bth t i ≠ 10) : CutI t (i + 1) f A := by
  obtain ⟨h1, h2, h3, h4⟩ := c
  refine ⟨by omega, by omega, fun j a b q => ?_, h4⟩
  by_cases e : j = i
  · subst e
    apply h
    simp [bth, List.getD_eq_getElem?_getD, q]
  · exact h3 j a (by omega) q
theorem CutI.last {t : List UInt8} {f : Nat} {A : List (List UInt8)} (c : CutI t t.length f A) : lns (t.length + 1) t = A := by
  obtain ⟨h1, h2, h3, F, h4, h5⟩ := c
  rw [h5, lns_none, List.append_nil]
  rw [idx_neg fun k q => ?_]
  · decide
  · rw [List.getElem?_drop] at q
    have := (List.getElem?_eq_some_iff.1 q).1
    exact h3 (f + k) (by omega) this q
theorem l01Cut_c (hx : XD X) {t : List UInt8} {h : Heap} (hl : t.length ≤ 1048576) (hro : ro ≤ h.length) :
    CallR Tryd.prog ro X 30 [.string ⟨⟨t⟩⟩, .int .u8 10] h (fun r h' => Pfx h h' ∧ ∃ z, VG h.length 9 1 h' r ((lns (t.length + 1) t).length + 1) ((lns (t.length + 1) t ++ [z]).map strv)) := by
  have hX := hx.n
  refine callR_of (hX _ rfl) Tryd.func30 rfl (by kernel_rfl) (Nat.le_of_ble_eq_true rfl) ?_
  (repeat' first | simp -dsimp (disch := first | omega | assumption | (refine OkS.sto ?_ (by omega); first | assumption | (refine OkS.sto ?_ (by omega); first | assumption | (refine OkS.sto ?_ (by omega); first | assumption | (refine OkS.sto ?_ (by omega); first | assumption | (refine OkS.sto ?_ (by omega); first | assumption | (refine OkS.sto ?_ (by omega); first | assumption)))))) | exact Pfx.refl _ | (apply Pfx.snoc; repeat (first | exact Pfx.refl _ | assumption | apply Pfx.snoc)) | with_unfolding_all exact of_eq_true (eq_true rfl) | (simp only [List.length_append, List.length_cons, List.length_nil]; omega)) only [↓wpre0, ↓wpre1, ↓reduceIte, Int.reduceToNat, Nat.reduceAdd, Nat.reduceMul, Nat.reduceEqDiff, wpost0, wpost1, wpost2, wpost3, wpost4, ite_self, ite_true, ite_false, if_true, if_false, xbls22_0, xbls22_1, len_bl Tryd.underlying9, bin_leq, bin_eql, idx_bl Tryd.underlying9, sl_bl Tryd.underlying9, slo_bl Tryd.underlying9, shi_bl Tryd.underlying9, bin_add, fr30, wrap_int, wrap_u8, iteP_yes, iteP_no] | refine iteP_two (fun hc hd => ?_) (fun hc hd => ?_) | refine iteP_intro (fun hc => ?_) (fun hc => ?_))
  refine loop_exit 0 (fun e2 h2 => ∃ (y : Value) (z : List UInt8), e2 5 = y ∧ Pfx h h2 ∧ VG h.length 9 1 h2 y ((lns (t.length + 1) t).length + 1) ((lns (t.length + 1) t ++ [z]).map strv)) ?_ ?_
  · refine loop_rounds (fun m e h' => ∃ (i f : Nat) (y : Value) (A : List (List UInt8)), m = t.length + 1 - i ∧ Pfx h h' ∧ e 0 = .string ⟨⟨t⟩⟩ ∧ e 1 = .int .u8 10 ∧ e 5 = y ∧ e 6 = .int .i64 f ∧ e 7 = .int .i64 i ∧ VG h.length 9 1 h' y A.length (A.map strv) ∧ ((i ≤ t.length ∧ CutI t i f A) ∨ (i = t.length + 1 ∧ f ≤ t.length + 1 ∧ ∃ z, A = lns (t.length + 1) t ++ [z]))) _ ⟨0, 0, .slice (some ⟨h.length, 0, none⟩) 0 0, [], rfl, ?_⟩ ?_
    · simp only [updO_at, updO_not, entry_at, List.getD_cons_zero, List.getD_cons_succ, ↓reduceIte, Nat.reduceEqDiff, true_and, and_true]
      exact ⟨(Pfx.refl h).snoc, rfl, rfl, vg_new h (Nat.le_refl _), .inl ⟨by omega, CutI.start t⟩⟩
    · rintro m e h' ⟨i, f, y, A, hm, hp, g0, g1, g5, g6, g7, hY, hc⟩
      have hl := hp.len
      have acc : ∀ (v : List UInt8), A.length ≤ t.length → ∃ H, ablt Tryd.prog ro .append [22, 22] [y, .slice (some ⟨h'.length, 0, none⟩) 1 1] (h' ++ [⟨9, [.string ⟨⟨v⟩⟩]⟩]) = some (.slice (some ⟨h'.length + 1, 0, none⟩) (A.length + 1) (A.length + 1 + 1), H) ∧ VG h.length 9 1 H (.slice (some ⟨h'.length + 1, 0, none⟩) (A.length + 1) (A.length + 1 + 1)) ((A ++ [v]).length) ((A ++ [v]).map strv) ∧ Pfx h H := by
        intro v hA
        obtain ⟨H, ap, vg, old, _⟩ := acc1 (P := Tryd.prog) (ro := ro) (T := 22) (v := .string ⟨⟨v⟩⟩) tel22 tsz9 tby9 tze9 (.inl hY) hro hl rfl (by omega) (by omega)
        refine ⟨H, ap, ?_, old.1 h hp (Nat.le_refl _)⟩
        rw [List.map_append, List.length_append]
        exact vg
      rcases hc with ⟨hi, hc⟩ | ⟨hi, hf, z, hz⟩
      · have hc1 := hc.1
        have hc2 := hc.2.1
        by_cases hin : i < t.length
        · by_cases hb : bth t i = 10
          · obtain ⟨H, ap, vg, pf⟩ := acc ((t.drop f).take (i - f)) (by omega)
            (repeat' first | simp -dsimp (disch := first | omega | assumption | (refine OkS.sto ?_ (by omega); first | assumption | (refine OkS.sto ?_ (by omega); first | assumption | (refine OkS.sto ?_ (by omega); first | assumption | (refine OkS.sto ?_ (by omega); first | assumption | (refine OkS.sto ?_ (by omega); first | assumption | (refine OkS.sto ?_ (by omega); first | assumption)))))) | exact Pfx.refl _ | (apply Pfx.snoc; repeat (first | exact Pfx.refl _ | assumption | apply Pfx.snoc)) | with_unfolding_all exact of_eq_true (eq_true rfl) | (simp only [List.length_append, List.length_cons, List.length_nil]; omega)) only [↓wpre0, ↓wpre1, ↓reduceIte, Int.reduceToNat, Nat.reduceAdd, Nat.reduceMul, Nat.reduceEqDiff, wpost0, wpost1, wpost2, wpost3, wpost4, ite_self, ite_true, ite_false, if_true, if_false, xbls22_0, xbls22_1, len_bl Tryd.underlying9, bin_leq, bin_eql, idx_bl Tryd.underlying9, sl_bl Tryd.underlying9, slo_bl Tryd.underlying9, shi_bl Tryd.underlying9, bin_add, fr30, wrap_int, wrap_u8, iteP_yes, iteP_no, g0, g1, g5, g6, g7, hb, ap] | refine iteP_two (fun hc hd => ?_) (fun hc hd => ?_) | refine iteP_intro (fun hc => ?_) (fun hc => ?_))
            exact ⟨_, by omega, i + 1, i + 1, _, _, rfl, pf, rfl, rfl, rfl, vg, .inl ⟨by omega, hc.mark hin hb⟩⟩
          · (repeat' first | simp -dsimp (disch := first | omega | assumption | (refine OkS.sto ?_ (by omega); first | assumption | (refine OkS.sto ?_ (by omega); first | assumption | (refine OkS.sto ?_ (by omega); first | assumption | (refine OkS.sto ?_ (by omega); first | assumption | (refine OkS.sto ?_ (by omega); first | assumption | (refine OkS.sto ?_ (by omega); first | assumption)))))) | exact Pfx.refl _ | (apply Pfx.snoc; repeat (first | exact Pfx.refl _ | assumption | apply Pfx.snoc)) | with_unfolding_all exact of_eq_true (eq_true rfl) | (simp only [List.length_append, List.length_cons, List.length_nil]; omega)) only [↓wpre0, ↓wpre1, ↓reduceIte, Int.reduceToNat, Nat.reduceAdd, Nat.reduceMul, Nat.reduceEqDiff, wpost0, wpost1, wpost2, wpost3, wpost4, ite_self, ite_true, ite_false, if_true, if_false, xbls22_0, xbls22_1, len_bl Tryd.underlying9, bin_leq, bin_eql, idx_bl Tryd.underlying9, sl_bl Tryd.underlying9, slo_bl Tryd.underlying9, shi_bl Tryd.underlying9, bin_add, fr30, wrap_int, wrap_u8, iteP_yes, iteP_no, g0, g1, g5, g6, g7, hb] | refine iteP_two (fun hc hd => ?_) (fun hc hd => ?_) | refine iteP_intro (fun hc => ?_) (fun hc => ?_))
            exact ⟨_, by omega, i + 1, f, _, _, rfl, hp, rfl, rfl, rfl, hY, .inl ⟨by omega, hc.skip hin hb⟩⟩
        · have e1 : i = t.length := by omega
          subst e1
          obtain ⟨H, ap, vg, pf⟩ := acc ((t.drop f).take (t.length - f)) (by omega)
          (repeat' first | simp -dsimp (disch := first | omega | assumption | (refine OkS.sto ?_ (by omega); first | assumption | (refine OkS.sto ?_ (by omega); first | assumption | (refine OkS.sto ?_ (by omega); first | assumption | (refine OkS.sto ?_ (by omega); first | assumption | (refine OkS.sto ?_ (by omega); first | assumption | (refine OkS.sto ?_ (by omega); first | assumption)))))) | exact Pfx.refl _ | (apply Pfx.snoc; repeat (first | exact Pfx.refl _ | assumption | apply Pfx.snoc)) | with_unfolding_all exact of_eq_true (eq_true rfl) | (simp only [List.length_append, List.length_cons, List.length_nil]; omega)) only [↓wpre0, ↓wpre1, ↓reduceIte, Int.reduceToNat, Nat.reduceAdd, Nat.reduceMul, Nat.reduceEqDiff, wpost0, wpost1, wpost2, wpost3, wpost4, ite_self, ite_true, ite_false, if_true, if_false, xbls22_0, xbls22_1, len_bl Tryd.underlying9, bin_leq, bin_eql, idx_bl Tryd.underlying9, sl_bl Tryd.underlying9, slo_bl Tryd.underlying9, shi_bl Tryd.underlying9, bin_add, fr30, wrap_int, wrap_u8, iteP_yes, iteP_no, g0, g1, g5, g6, g7, ap] | refine iteP_two (fun hc hd => ?_) (fun hc hd => ?_) | refine iteP_intro (fun hc => ?_) (fun hc => ?_))
          exact ⟨_, by omega, t.length + 1, t.length + 1, _, _, rfl, pf, rfl, rfl, rfl, vg, .inr ⟨rfl, Nat.le_refl _, _, by rw [hc.last]⟩⟩
      · subst hi
        subst hz
        (repeat' first | simp -dsimp (disch := first | omega | assumption | (refine OkS.sto ?_ (by omega); first | assumption | (refine OkS.sto ?_ (by omega); first | assumption | (refine OkS.sto ?_ (by omega); first | assumption | (refine OkS.sto ?_ (by omega); first | assumption | (refine OkS.sto ?_ (by omega); first | assumption | (refine OkS.sto ?_ (by omega); first | assumption)))))) | exact Pfx.refl _ | (apply Pfx.snoc; repeat (first | exact Pfx.refl _ | assumption | apply Pfx.snoc)) | with_unfolding_all exact of_eq_true (eq_true rfl) | (simp only [List.length_append, List.length_cons, List.length_nil]; omega)) only [↓wpre0, ↓wpre1, ↓reduceIte, Int.reduceToNat, Nat.reduceAdd, Nat.reduceMul, Nat.reduceEqDiff, wpost0, wpost1, wpost2, wpost3, wpost4, ite_self, ite_true, ite_false, if_true, if_false, xbls22_0, xbls22_1, len_bl Tryd.underlying9, bin_leq, bin_eql, idx_bl Tryd.underlying9, sl_bl Tryd.underlying9, slo_bl Tryd.underlying9, shi_bl Tryd.underlying9, bin_add, fr30, wrap_int, wrap_u8, iteP_yes, iteP_no, g0, g1, g5, g6, g7] | refine iteP_two (fun hc hd => ?_) (fun hc hd => ?_) | refine iteP_intro (fun hc => ?_) (fun hc => ?_))
        exact ⟨_, z, rfl, hp, by rw [List.length_append] at hY; exact hY⟩
  · rintro e2 h2 ⟨y, z, g5, hp, hY⟩
    have hnf : flat y = false := by obtain ⟨_, b, cap, rfl, _⟩ := hY; rfl
    (repeat' first | simp -dsimp (disch := first | omega | assumption | (refine OkS.sto ?_ (by omega); first | assumption | (refine OkS.sto ?_ (by omega); first | assumption | (refine OkS.sto ?_ (by omega); first | assumption | (refine OkS.sto ?_ (by omega); first | assumption | (refine OkS.sto ?_ (by omega); first | assumption | (refine OkS.sto ?_ (by omega); first | assumption)))))) | exact Pfx.refl _ | (apply Pfx.snoc; repeat (first | exact Pfx.refl _ | assumption | apply Pfx.snoc)) | with_unfolding_all exact of_eq_true (eq_true rfl) | (simp only [List.length_append, List.length_cons, List.length_nil]; omega)) only [↓wpre0, ↓wpre1, ↓reduceIte, Int.reduceToNat, Nat.reduceAdd, Nat.reduceMul, Nat.reduceEqDiff, wpost0, wpost1, wpost2, wpost3, wpost4, ite_self, ite_true, ite_false, if_true, if_false, xbls22_0, xbls22_1, len_bl Tryd.underlying9, bin_leq, bin_eql, idx_bl Tryd.underlying9, sl_bl Tryd.underlying9, slo_bl Tryd.underlying9, shi_bl Tryd.underlying9, bin_add, fr30, wrap_int, wrap_u8, iteP_yes, iteP_no, g5, endH_not hnf] | refine iteP_two (fun hc hd => ?_) (fun hc hd => ?_) | refine iteP_intro (fun hc => ?_) (fun hc => ?_))
    exact ⟨hp, z, hY⟩
end Go.Proofs.YtbakaopgdcojfaaDoor.Sim
