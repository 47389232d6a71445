
/- The frame at a place of a record's bytes: the program's and the reference's. Lemmas only; no condition. -/
import Derived.Test.YteignhphimfmkaaRcd
set_option linter.unusedSimpArgs false
set_option linter.unusedVariables false
set_option maxRecDepth 8000
namespace Go.Proofs.Yteignhphimfmkaa.Sim
open Go Go.RowKit
variable {ro : Nat} {X : Ext}
def elN (l : List UInt8) : Nat := (bt ⟨⟨l⟩⟩ 4).toNat
def hdrOk (l : List UInt8) : Bool := hdr ⟨⟨l⟩⟩ && count (bt ⟨⟨l⟩⟩ 4)
def frPos (l : List UInt8) (k : Int) : Nat := 5 + k.toNat * (6 + 8 * elN l)
def frOk (l : List UInt8) (k : Int) : Bool := hdrOk l && (decide (0 ≤ k) && decide (k ≤ l.length)) && atOk l (frPos l k) (elN l)
/-- What FrameAt returns. -/
def FrR (l : List UInt8) (k : Int) (h h' : Heap) (r : Value) : Prop :=
  Pfx h h' ∧ ((frOk l k = false ∧ r = .tuple ⟨[.agg ⟨[.int .i64 0, .slice none 0 0]⟩, .bool false]⟩) ∨ (frOk l k = true ∧ ∃ y, r = .tuple ⟨[.agg ⟨[.int .i64 (wd l (frPos l k)), y]⟩, .bool true]⟩ ∧ VG h.length 65 1 h' y (elN l) ((atZ l (frPos l k) (elN l)).map cpx)))
theorem hdrOk_n {l : List UInt8} (h : hdrOk l = true) : bt ⟨⟨l⟩⟩ 4 = (elN l : Int) ∧ 1 ≤ elN l ∧ elN l ≤ 16 ∧ count (elN l : Int) = true ∧ hdr ⟨⟨l⟩⟩ = true := by
  simp only [hdrOk, Bool.and_eq_true] at h
  have h2 := h.2
  simp only [count, Bool.and_eq_true, decide_eq_true_eq] at h2
  have e : bt ⟨⟨l⟩⟩ 4 = (elN l : Int) := by unfold elN; omega
  refine ⟨e, by omega, by omega, ?_, h.1⟩
  rw [← e]; exact h.2
theorem pos_eq {l : List UInt8} {k : Int} (h : 0 ≤ k) : (frPos l k : Int) = 5 + k * (6 + 8 * (elN l : Int)) := by
  unfold frPos
  obtain ⟨m, rfl⟩ : ∃ m : Nat, k = m := ⟨k.toNat, by omega⟩
  simp
theorem pos_le {l : List UInt8} {k : Int} (h : 0 ≤ k) (h1 : k ≤ 1048576) (hn : elN l ≤ 16) : frPos l k ≤ 140509189 := by
  unfold frPos
  have : k.toNat * (6 + 8 * elN l) ≤ 1048576 * 134 := Nat.mul_le_mul (by omega) (by omega)
  omega
set_option maxHeartbeats 4000000 in
theorem iFrameAt_c (hX : XB X) {l : List UInt8} {k : Int} {h : Heap} (hl : l.length ≤ 1048576) (hro : ro ≤ h.length) :
    CallR Try.prog ro X 13 [.string ⟨⟨l⟩⟩, .int .i64 k] h (fun r h' => FrR l k h h' r) := by
  refine callR_of (hX.n _ rfl) Try.func13 rfl (by kernel_rfl) (Nat.le_of_ble_eq_true rfl) ?_
  (repeat' first | simp -dsimp (disch := first | omega | assumption | (refine OkS.sto ?_ (by omega); first | assumption | (refine OkS.sto ?_ (by omega); first | assumption | (refine OkS.sto ?_ (by omega); first | assumption | (refine OkS.sto ?_ (by omega); first | assumption | (refine OkS.sto ?_ (by omega); first | assumption | (refine OkS.sto ?_ (by omega); first | assumption)))))) | exact Pfx.refl _ | (apply Pfx.snoc; repeat (first | exact Pfx.refl _ | assumption | apply Pfx.snoc)) | with_unfolding_all exact of_eq_true (eq_true rfl) | (simp only [List.length_append, List.length_cons, List.length_nil]; omega)) only [↓wpre0, ↓wpre1, ↓reduceIte, Int.reduceToNat, Nat.reduceAdd, Nat.reduceMul, Nat.reduceEqDiff, wpost0, wpost1, wpost2, wpost3, wpost4, ite_self, ite_true, ite_false, if_true, if_false, tze41, un_not, len_bl Try.underlying9, xbld41, xst41, bin_mul, bin_add, bin_gtr, sl_bl Try.underlying9, slo_bl Try.underlying9, shi_bl Try.underlying9, xld41, fr13, wrap_int, wrap_u8, iteP_yes, iteP_no, cf_eq (elementsOf_c hX.n _ _), within_r hX.n] | refine iteP_two (fun hc hd => ?_) (fun hc hd => ?_) | refine iteP_intro (fun hc => ?_) (fun hc => ?_))
  all_goals first
    | (refine ⟨(Pfx.refl h).snoc, .inl ⟨?_, rfl⟩⟩
       first
         | (simp only [frOk, hd, Bool.and_false, Bool.false_and]; done)
         | (simp_all [frOk, hdrOk, opn, opi]; done))
    | skip
  rename_i hh hcn hk0 _
  have hOk : hdrOk l = true := by simp_all [hdrOk, opn, opi]
  obtain ⟨e1, n1, n2, n3, n4⟩ := hdrOk_n hOk
  have e2 : opi ⟨⟨l⟩⟩ = (elN l : Int) := by rw [← e1]; simp_all [opn, opi]
  have hp := pos_eq (l := l) hk0
  have hq := pos_le (l := l) hk0 (by omega) n2
  have hk1 : k ≤ l.length := hc
  have b0 : 0 ≤ k * (6 + 8 * (elN l : Int)) := Int.mul_nonneg hk0 (by omega)
  rw [e2]
  (repeat' first | simp -dsimp (disch := first | omega | assumption | (refine OkS.sto ?_ (by omega); first | assumption | (refine OkS.sto ?_ (by omega); first | assumption | (refine OkS.sto ?_ (by omega); first | assumption | (refine OkS.sto ?_ (by omega); first | assumption | (refine OkS.sto ?_ (by omega); first | assumption | (refine OkS.sto ?_ (by omega); first | assumption)))))) | exact Pfx.refl _ | (apply Pfx.snoc; repeat (first | exact Pfx.refl _ | assumption | apply Pfx.snoc)) | with_unfolding_all exact of_eq_true (eq_true rfl) | (simp only [List.length_append, List.length_cons, List.length_nil]; omega)) only [↓wpre0, ↓wpre1, ↓reduceIte, Int.reduceToNat, Nat.reduceAdd, Nat.reduceMul, Nat.reduceEqDiff, wpost0, wpost1, wpost2, wpost3, wpost4, ite_self, ite_true, ite_false, if_true, if_false, tze41, un_not, len_bl Try.underlying9, xbld41, xst41, bin_mul, bin_add, bin_gtr, sl_bl Try.underlying9, slo_bl Try.underlying9, shi_bl Try.underlying9, xld41, fr13, wrap_int, wrap_u8, iteP_yes, iteP_no, e2, ← hp, cf_eq (iFrameSize_c hX.n _ n3 _)] | refine iteP_two (fun hc hd => ?_) (fun hc hd => ?_) | refine iteP_intro (fun hc => ?_) (fun hc => ?_))
  · refine ⟨(Pfx.refl h).snoc, .inl ⟨?_, rfl⟩⟩
    have : atOk l (frPos l k) (elN l) = false := by
      unfold atOk
      rw [decide_eq_false (by omega)]; rfl
    simp only [frOk, this, Bool.and_false]
  have hfo : frOk l k = atOk l (frPos l k) (elN l) := by simp only [frOk, hOk, decide_eq_true hk0, decide_eq_true hk1, Bool.true_and, Bool.and_self]
  refine cf_rel (frameAt_c (ro := ro) hX n1 n2 (by rw [List.length_drop]; omega) (by simp; omega)) (fun q => by cases q) ?_
  rintro r h2 ⟨p2, hy⟩
  rw [atOk_drop _ _ _ (by omega), atZ_drop, wd_drop, Nat.add_zero] at hy
  have hb4 : h2[h.length]? = some ⟨41, [.int .i64 0, .slice none 0 0]⟩ := by rw [p2.get (by simp)]; exact get_last rfl
  have l2 := p2.len
  have l3 : h.length < h2.length := by simp at l2; omega
  have hcs : ∀ (u v : Value), cells (h2.set h.length ⟨41, [u, v]⟩) h.length 0 2 = some (.agg ⟨[u, v]⟩) := fun u v => cells_set l3 (Nat.le_refl _)
  have hcs1 : ∀ (C : Blk) (u v : Value), cells ((h2 ++ [C]).set h.length ⟨41, [u, v]⟩) h.length 0 2 = some (.agg ⟨[u, v]⟩) := fun C u v => cells_set (by simp; omega) (Nat.le_refl _)
  rcases hy with ⟨hat, rfl⟩ | ⟨hat, y, rfl, hv⟩
  · have hpz := put2 (ro := ro) (a := .int .i64 0) (c := .slice none 0 0) hb4 hro rfl rfl
    (repeat' first | simp -dsimp (disch := first | omega | assumption | (refine OkS.sto ?_ (by omega); first | assumption | (refine OkS.sto ?_ (by omega); first | assumption | (refine OkS.sto ?_ (by omega); first | assumption | (refine OkS.sto ?_ (by omega); first | assumption | (refine OkS.sto ?_ (by omega); first | assumption | (refine OkS.sto ?_ (by omega); first | assumption)))))) | exact Pfx.refl _ | (apply Pfx.snoc; repeat (first | exact Pfx.refl _ | assumption | apply Pfx.snoc)) | with_unfolding_all exact of_eq_true (eq_true rfl) | (simp only [List.length_append, List.length_cons, List.length_nil]; omega)) only [↓wpre0, ↓wpre1, ↓reduceIte, Int.reduceToNat, Nat.reduceAdd, Nat.reduceMul, Nat.reduceEqDiff, wpost0, wpost1, wpost2, wpost3, wpost4, ite_self, ite_true, ite_false, if_true, if_false, tze41, un_not, len_bl Try.underlying9, xbld41, xst41, bin_mul, bin_add, bin_gtr, sl_bl Try.underlying9, slo_bl Try.underlying9, shi_bl Try.underlying9, xld41, fr13, wrap_int, wrap_u8, iteP_yes, iteP_no, hpz, hcs, hcs1] | refine iteP_two (fun hc hd => ?_) (fun hc hd => ?_) | refine iteP_intro (fun hc => ?_) (fun hc => ?_))
    exact ⟨((Pfx.refl h).snoc.trans p2).set (Nat.le_refl _), .inl ⟨by rw [hfo, hat], rfl⟩⟩
  · have hx := hv.vs.shape
    have hpx := put2 (ro := ro) (a := .int .i64 (wd l (frPos l k))) (c := y) hb4 hro rfl hx.2.2
    (repeat' first | simp -dsimp (disch := first | omega | assumption | (refine OkS.sto ?_ (by omega); first | assumption | (refine OkS.sto ?_ (by omega); first | assumption | (refine OkS.sto ?_ (by omega); first | assumption | (refine OkS.sto ?_ (by omega); first | assumption | (refine OkS.sto ?_ (by omega); first | assumption | (refine OkS.sto ?_ (by omega); first | assumption)))))) | exact Pfx.refl _ | (apply Pfx.snoc; repeat (first | exact Pfx.refl _ | assumption | apply Pfx.snoc)) | with_unfolding_all exact of_eq_true (eq_true rfl) | (simp only [List.length_append, List.length_cons, List.length_nil]; omega)) only [↓wpre0, ↓wpre1, ↓reduceIte, Int.reduceToNat, Nat.reduceAdd, Nat.reduceMul, Nat.reduceEqDiff, wpost0, wpost1, wpost2, wpost3, wpost4, ite_self, ite_true, ite_false, if_true, if_false, tze41, un_not, len_bl Try.underlying9, xbld41, xst41, bin_mul, bin_add, bin_gtr, sl_bl Try.underlying9, slo_bl Try.underlying9, shi_bl Try.underlying9, xld41, fr13, wrap_int, wrap_u8, iteP_yes, iteP_no, hpx, hx.2.1, hx.2.2, hcs, hcs1] | refine iteP_two (fun hc hd => ?_) (fun hc hd => ?_) | refine iteP_intro (fun hc => ?_) (fun hc => ?_))
    refine ⟨((Pfx.refl h).snoc.trans p2).set (Nat.le_refl _), .inr ⟨by rw [hfo, hat], y, rfl, ?_⟩⟩
    have hbf := hv.bof.1
    rw [List.length_append, List.length_singleton] at hbf
    exact (hv.frame (set_get (by omega))).low (by simp)
end Go.Proofs.Yteignhphimfmkaa.Sim
