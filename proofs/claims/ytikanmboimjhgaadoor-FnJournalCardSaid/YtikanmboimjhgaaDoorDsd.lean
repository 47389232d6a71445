/- The program's JournalOf. Lemmas only; no condition. -/
import Derived.Test.YtikanmboimjhgaaDoorDsc
set_option linter.unusedSimpArgs false
set_option linter.unusedVariables false
set_option maxRecDepth 8000
namespace Go.Proofs.YtikanmboimjhgaaDoor.Sim
open Go Go.RowKit
variable {ro : Nat} {X : Ext}
set_option maxHeartbeats 4000000 in
theorem iJournal_c (hE : XE ro X) {lo hi n : Nat} {l : List (List UInt8)} {x : Value} {h : Heap} (hI : VS lo hi 1 h x n (l.map strv)) (hn : n ≤ 1048576) (hw : wei l ≤ 1048576) (hro : ro ≤ h.length) :
    CallR Tryd.prog ro X 7 [x] h (fun r h' => r = .tuple ⟨[.string ⟨⟨jout l⟩⟩, .bool (jgood l)]⟩ ∧ h' = h) := by
  have hx := hE.d
  have hX := hx.n
  have i1 := hI.1
  rw [List.length_map] at i1
  have hjl := jr_le 0 l ⟨by omega, by omega⟩
  refine callR_of (hX _ rfl) Tryd.func7 rfl (by kernel_rfl) (Nat.le_of_ble_eq_true rfl) ?_
  (repeat' first | simp -dsimp (disch := first | omega | assumption | (refine OkS.sto ?_ (by omega); first | assumption | (refine OkS.sto ?_ (by omega); first | assumption | (refine OkS.sto ?_ (by omega); first | assumption | (refine OkS.sto ?_ (by omega); first | assumption | (refine OkS.sto ?_ (by omega); first | assumption | (refine OkS.sto ?_ (by omega); first | assumption)))))) | exact Pfx.refl _ | (apply Pfx.snoc; repeat (first | exact Pfx.refl _ | assumption | apply Pfx.snoc)) | with_unfolding_all exact of_eq_true (eq_true rfl) | (simp only [List.length_append, List.length_cons, List.length_nil]; omega)) only [↓wpre0, ↓wpre1, ↓reduceIte, Int.reduceToNat, Nat.reduceAdd, Nat.reduceMul, Nat.reduceEqDiff, wpost0, wpost1, wpost2, wpost3, wpost4, ite_self, ite_true, ite_false, if_true, if_false, xbld45, tze45, xst45, xlen24, bin_lss, xiad24, xld9, sadd_bl, bin_gtr, bin_add, fr7, wrap_int, wrap_u8, iteP_yes, iteP_no, hI.len Tryd.underlying24] | refine iteP_two (fun hc hd => ?_) (fun hc hd => ?_) | refine iteP_intro (fun hc => ?_) (fun hc => ?_))
  refine loop_rounds (fun m e h' => ∃ (i : Nat) (c : Int) (out : List UInt8), m = n - i ∧ i ≤ n ∧ Pfx h h' ∧ h.length < h'.length ∧ e 4 = .pointer (some ⟨h.length, 0, none⟩) ∧ e 5 = .int .i64 c ∧ e 9 = x ∧ e 10 = .int .i64 n ∧ e 11 = .int .i64 i ∧ Jrn l i c out ∧ BU (h.length + 1) h.length h' out ∧ (out = [] → ∃ a, h'[h.length]? = some ⟨45, [a, .slice none 0 0]⟩) ∧ out.length ≤ 6000 ∧ ∀ j, j < i → fnd (sth l j) 10 = false) _ ⟨0, 0, [], rfl, ?_⟩ ?_
  · simp only [updO_at, updO_not, entry_at, List.getD_cons_zero, List.getD_cons_succ, ↓reduceIte, Nat.reduceEqDiff, true_and, and_true]
    refine ⟨by omega, (Pfx.refl h).snoc, by simp, rfl, Jrn.start l, ⟨.pointer none, .slice none 0 0, get_last rfl, .inl rfl, .inr ⟨rfl, rfl, rfl⟩⟩, fun _ => ⟨_, get_last rfl⟩, by simp, fun j hj => by omega⟩
  · rintro m e h' ⟨i, c, out, hm, hle, hp, hbl, g4, g5, g9, g10, g11, hJ, hB, hne, ho6, hf⟩
    have hI' := hI.pre hp
    have ef : ∀ s b, endH (.tuple ⟨[.string s, .bool b]⟩) h h' = h := fun s b => endH_flat rfl hp
    by_cases hin : i < n
    · have hld := ss_ld hI' tsz9 tag9 hin
      have hst := hJ.step (by omega)
      have hlen := hst.le
      rw [List.length_append] at hlen
      have hc := hJ.1
      have hck := chk_range hc (sth l i)
      have hds := dec_le hck.2
      have hjn : (jl c (sth l i)).length = (dec (chk c (sth l i))).length + (sth l i).length + 2 := jl_len _ _
      have a1 : ∀ t, abin Tryd.prog .add t (.string ⟨⟨dec (chk c (sth l i))⟩⟩) (.string ⟨⟨[32]⟩⟩) = some (.string ⟨⟨dec (chk c (sth l i)) ++ [32]⟩⟩) := fun t => sadd_bl (by simp; omega)
      have a2 : ∀ t, abin Tryd.prog .add t (.string ⟨⟨dec (chk c (sth l i)) ++ [32]⟩⟩) (.string ⟨⟨sth l i⟩⟩) = some (.string ⟨⟨dec (chk c (sth l i)) ++ [32] ++ sth l i⟩⟩) := fun t => sadd_bl (by simp; omega)
      have a3 : ∀ t, abin Tryd.prog .add t (.string ⟨⟨dec (chk c (sth l i)) ++ [32] ++ sth l i⟩⟩) (.string ⟨⟨[10]⟩⟩) = some (.string ⟨⟨jl c (sth l i)⟩⟩) := fun t => sadd_bl (by simp; omega)
      by_cases hfn : fnd (sth l i) 10 = true
      · have hg := jgood_nl (by omega) hfn
        have ho := jout_no hg
        (repeat' first | simp -dsimp (disch := first | omega | assumption | (refine OkS.sto ?_ (by omega); first | assumption | (refine OkS.sto ?_ (by omega); first | assumption | (refine OkS.sto ?_ (by omega); first | assumption | (refine OkS.sto ?_ (by omega); first | assumption | (refine OkS.sto ?_ (by omega); first | assumption | (refine OkS.sto ?_ (by omega); first | assumption)))))) | exact Pfx.refl _ | (apply Pfx.snoc; repeat (first | exact Pfx.refl _ | assumption | apply Pfx.snoc)) | with_unfolding_all exact of_eq_true (eq_true rfl) | (simp only [List.length_append, List.length_cons, List.length_nil]; omega)) only [↓wpre0, ↓wpre1, ↓reduceIte, Int.reduceToNat, Nat.reduceAdd, Nat.reduceMul, Nat.reduceEqDiff, wpost0, wpost1, wpost2, wpost3, wpost4, ite_self, ite_true, ite_false, if_true, if_false, xbld45, tze45, xst45, xlen24, bin_lss, xiad24, xld9, sadd_bl, bin_gtr, bin_add, fr7, wrap_int, wrap_u8, iteP_yes, iteP_no, g4, g5, g9, g10, g11, hI'.iad Tryd.underlying24 tsz9, Nat.mul_one, Int.toNat_natCast, hld, Contains_r hx, hfn, ef] | refine iteP_two (fun hc hd => ?_) (fun hc hd => ?_) | refine iteP_intro (fun hc => ?_) (fun hc => ?_))
        rw [ho, hg]
      · have hfn' : fnd (sth l i) 10 = false := by simpa using hfn
        (repeat' first | simp -dsimp (disch := first | omega | assumption | (refine OkS.sto ?_ (by omega); first | assumption | (refine OkS.sto ?_ (by omega); first | assumption | (refine OkS.sto ?_ (by omega); first | assumption | (refine OkS.sto ?_ (by omega); first | assumption | (refine OkS.sto ?_ (by omega); first | assumption | (refine OkS.sto ?_ (by omega); first | assumption)))))) | exact Pfx.refl _ | (apply Pfx.snoc; repeat (first | exact Pfx.refl _ | assumption | apply Pfx.snoc)) | with_unfolding_all exact of_eq_true (eq_true rfl) | (simp only [List.length_append, List.length_cons, List.length_nil]; omega)) only [↓wpre0, ↓wpre1, ↓reduceIte, Int.reduceToNat, Nat.reduceAdd, Nat.reduceMul, Nat.reduceEqDiff, wpost0, wpost1, wpost2, wpost3, wpost4, ite_self, ite_true, ite_false, if_true, if_false, xbld45, tze45, xst45, xlen24, bin_lss, xiad24, xld9, sadd_bl, bin_gtr, bin_add, fr7, wrap_int, wrap_u8, iteP_yes, iteP_no, g4, g5, g9, g10, g11, hI'.iad Tryd.underlying24 tsz9, Nat.mul_one, Int.toNat_natCast, hld, Contains_r hx, hfn', CheckOf_r hx hc, Decimal_r hx, a1, a2, a3] | refine iteP_two (fun hc hd => ?_) (fun hc hd => ?_) | refine iteP_intro (fun hc => ?_) (fun hc => ?_))
        refine cf_rel (WriteString_c hE hB hro (by omega) (by omega) (by omega)) (fun q => by cases q) ?_
        rintro r h2 ⟨rfl, hB2, hl2, hp2⟩
        have hp2 := hp2 h hp (Nat.le_refl _)
        have ef2 : ∀ s b, endH (.tuple ⟨[.string s, .bool b]⟩) h h2 = h := fun s b => endH_flat rfl hp2
        have hLen := Len_r (ro := ro) hE hB2
        rw [List.length_append] at hLen
        by_cases hl6 : out.length + (jl c (sth l i)).length ≤ 6000
        · (repeat' first | simp -dsimp (disch := first | omega | assumption | (refine OkS.sto ?_ (by omega); first | assumption | (refine OkS.sto ?_ (by omega); first | assumption | (refine OkS.sto ?_ (by omega); first | assumption | (refine OkS.sto ?_ (by omega); first | assumption | (refine OkS.sto ?_ (by omega); first | assumption | (refine OkS.sto ?_ (by omega); first | assumption)))))) | exact Pfx.refl _ | (apply Pfx.snoc; repeat (first | exact Pfx.refl _ | assumption | apply Pfx.snoc)) | with_unfolding_all exact of_eq_true (eq_true rfl) | (simp only [List.length_append, List.length_cons, List.length_nil]; omega)) only [↓wpre0, ↓wpre1, ↓reduceIte, Int.reduceToNat, Nat.reduceAdd, Nat.reduceMul, Nat.reduceEqDiff, wpost0, wpost1, wpost2, wpost3, wpost4, ite_self, ite_true, ite_false, if_true, if_false, xbld45, tze45, xst45, xlen24, bin_lss, xiad24, xld9, sadd_bl, bin_gtr, bin_add, fr7, wrap_int, wrap_u8, iteP_yes, iteP_no, g4, g5, g9, g10, g11, hLen] | refine iteP_two (fun hc hd => ?_) (fun hc hd => ?_) | refine iteP_intro (fun hc => ?_) (fun hc => ?_))
          refine ⟨_, by omega, i + 1, _, _, rfl, by omega, hp2, by omega, rfl, rfl, hst, hB2, fun q => ?_, by rw [List.length_append]; exact hl6, fun j hj => ?_⟩
          · have := congrArg List.length q
            rw [List.length_append, List.length_nil] at this
            omega
          · by_cases ej : j = i
            · subst ej; exact hfn'
            · exact hf j (by omega)
        · have hg : jgood l = false := jgood_long (by omega)
          have ho := jout_no hg
          (repeat' first | simp -dsimp (disch := first | omega | assumption | (refine OkS.sto ?_ (by omega); first | assumption | (refine OkS.sto ?_ (by omega); first | assumption | (refine OkS.sto ?_ (by omega); first | assumption | (refine OkS.sto ?_ (by omega); first | assumption | (refine OkS.sto ?_ (by omega); first | assumption | (refine OkS.sto ?_ (by omega); first | assumption)))))) | exact Pfx.refl _ | (apply Pfx.snoc; repeat (first | exact Pfx.refl _ | assumption | apply Pfx.snoc)) | with_unfolding_all exact of_eq_true (eq_true rfl) | (simp only [List.length_append, List.length_cons, List.length_nil]; omega)) only [↓wpre0, ↓wpre1, ↓reduceIte, Int.reduceToNat, Nat.reduceAdd, Nat.reduceMul, Nat.reduceEqDiff, wpost0, wpost1, wpost2, wpost3, wpost4, ite_self, ite_true, ite_false, if_true, if_false, xbld45, tze45, xst45, xlen24, bin_lss, xiad24, xld9, sadd_bl, bin_gtr, bin_add, fr7, wrap_int, wrap_u8, iteP_yes, iteP_no, g4, g5, g9, g10, g11, hLen, ef2] | refine iteP_two (fun hc hd => ?_) (fun hc hd => ?_) | refine iteP_intro (fun hc => ?_) (fun hc => ?_))
          rw [ho, hg]
    · have ei : i = n := by omega
      have hil : i = l.length := by omega
      rw [hil] at hJ
      have hend := hJ.end
      have hg : jgood l = true := jgood_yes (fun j hj => hf j (by omega)) (by rw [← hend]; exact ho6)
      have ho := jout_yes hg
      (repeat' first | simp -dsimp (disch := first | omega | assumption | (refine OkS.sto ?_ (by omega); first | assumption | (refine OkS.sto ?_ (by omega); first | assumption | (refine OkS.sto ?_ (by omega); first | assumption | (refine OkS.sto ?_ (by omega); first | assumption | (refine OkS.sto ?_ (by omega); first | assumption | (refine OkS.sto ?_ (by omega); first | assumption)))))) | exact Pfx.refl _ | (apply Pfx.snoc; repeat (first | exact Pfx.refl _ | assumption | apply Pfx.snoc)) | with_unfolding_all exact of_eq_true (eq_true rfl) | (simp only [List.length_append, List.length_cons, List.length_nil]; omega)) only [↓wpre0, ↓wpre1, ↓reduceIte, Int.reduceToNat, Nat.reduceAdd, Nat.reduceMul, Nat.reduceEqDiff, wpost0, wpost1, wpost2, wpost3, wpost4, ite_self, ite_true, ite_false, if_true, if_false, xbld45, tze45, xst45, xlen24, bin_lss, xiad24, xld9, sadd_bl, bin_gtr, bin_add, fr7, wrap_int, wrap_u8, iteP_yes, iteP_no, g4, g5, g9, g10, g11] | refine iteP_two (fun hc hd => ?_) (fun hc hd => ?_) | refine iteP_intro (fun hc => ?_) (fun hc => ?_))
      refine cf_rel (String_c hE hB hro (by omega) (by omega) hne) (fun q => by cases q) ?_
      rintro r h2 ⟨rfl, hp2⟩
      have hp2 := hp2 h hp (Nat.le_refl _)
      have ef2 : ∀ s b, endH (.tuple ⟨[.string s, .bool b]⟩) h h2 = h := fun s b => endH_flat rfl hp2
      (repeat' first | simp -dsimp (disch := first | omega | assumption | (refine OkS.sto ?_ (by omega); first | assumption | (refine OkS.sto ?_ (by omega); first | assumption | (refine OkS.sto ?_ (by omega); first | assumption | (refine OkS.sto ?_ (by omega); first | assumption | (refine OkS.sto ?_ (by omega); first | assumption | (refine OkS.sto ?_ (by omega); first | assumption)))))) | exact Pfx.refl _ | (apply Pfx.snoc; repeat (first | exact Pfx.refl _ | assumption | apply Pfx.snoc)) | with_unfolding_all exact of_eq_true (eq_true rfl) | (simp only [List.length_append, List.length_cons, List.length_nil]; omega)) only [↓wpre0, ↓wpre1, ↓reduceIte, Int.reduceToNat, Nat.reduceAdd, Nat.reduceMul, Nat.reduceEqDiff, wpost0, wpost1, wpost2, wpost3, wpost4, ite_self, ite_true, ite_false, if_true, if_false, xbld45, tze45, xst45, xlen24, bin_lss, xiad24, xld9, sadd_bl, bin_gtr, bin_add, fr7, wrap_int, wrap_u8, iteP_yes, iteP_no, ef2] | refine iteP_two (fun hc hd => ?_) (fun hc hd => ?_) | refine iteP_intro (fun hc => ?_) (fun hc => ?_))
      rw [ho, hg, ← hend]
end Go.Proofs.YtikanmboimjhgaaDoor.Sim
