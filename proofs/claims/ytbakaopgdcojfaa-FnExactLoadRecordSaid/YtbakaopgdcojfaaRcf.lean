/- The law of FrameAt. Lemmas only; no condition. -/
import Derived.Test.YtbakaopgdcojfaaRce
set_option linter.unusedSimpArgs false
set_option linter.unusedVariables false
set_option maxRecDepth 8000
namespace Go.Proofs.Ytbakaopgdcojfaa.Sim
open Go Go.RowKit
variable {ro : Nat} {X : Ext}
theorem box_ix {idx : Int} {x : Value} (h1 : one x = true) (g : Heap) (t : TypeId) : boxV g t (.agg ⟨[.int .i64 idx, x]⟩) = some (.pointer (some ⟨g.length, 0, none⟩), g ++ [⟨t, [.int .i64 idx, x]⟩]) := by
  rw [box_go (by simp only [cellsOf, List.all_cons, List.all_nil, h1, Bool.and_true]; rfl)]; rfl
theorem eqFrame_r (hX : XN X) {lo hi lo' hi' n n' : Nat} {idx : Int} {zs : List (Nat × Nat)} {x y : Value} {h : Heap} (hI : VS lo hi 1 h x n (zs.map cpx)) (hJ : VS lo' hi' 1 h y n' (zs.map cpx)) (hn : n ≤ 1099511627776) (hro : ro ≤ h.length) :
    Ret Try.prog ro X 33 [.agg ⟨[.int .i64 idx, x]⟩, .agg ⟨[.int .i64 idx, y]⟩] h (.bool true) := by
  have hx := hI.shape
  have hy := hJ.shape
  have hI2 : ∀ C D, VS lo hi 1 (h ++ [C] ++ [D]) x n (zs.map cpx) := fun C D => hI.pre (Pfx.refl h).snoc.snoc
  have hJ2 : ∀ C D, VS lo' hi' 1 (h ++ [C] ++ [D]) y n' (zs.map cpx) := fun C D => hJ.pre (Pfx.refl h).snoc.snoc
  have he : ∀ C D, Ret Try.prog ro X 64 [x, y] (h ++ [C] ++ [D]) (.bool true) := fun C D => eqComplex64S_r hX (hI2 C D) (hJ2 C D) hn
  refine ret_of (callR_of (hX _ rfl) Try.func33 rfl (by kernel_rfl) (Nat.le_of_ble_eq_true rfl) ?_)
  (repeat' first | simp -dsimp (disch := first | omega | assumption | (refine OkS.sto ?_ (by omega); first | assumption | (refine OkS.sto ?_ (by omega); first | assumption | (refine OkS.sto ?_ (by omega); first | assumption | (refine OkS.sto ?_ (by omega); first | assumption | (refine OkS.sto ?_ (by omega); first | assumption | (refine OkS.sto ?_ (by omega); first | assumption)))))) | exact Pfx.refl _ | (apply Pfx.snoc; repeat (first | exact Pfx.refl _ | assumption | apply Pfx.snoc)) | with_unfolding_all exact of_eq_true (eq_true rfl) | (simp only [List.length_append, List.length_cons, List.length_nil]; omega)) only [↓wpre0, ↓wpre1, ↓reduceIte, Int.reduceToNat, Nat.reduceAdd, Nat.reduceMul, Nat.reduceEqDiff, wpost0, wpost1, wpost2, wpost3, wpost4, ite_self, ite_true, ite_false, if_true, if_false, xfad50_0, xld2, bin_neq, xfad50_1, xld29, un_not, fr33, wrap_int, wrap_u8, iteP_yes, iteP_no, hx.2.1, hx.2.2, hy.2.1, hy.2.2, box_ix hx.2.2, box_ix hy.2.2, he] | refine iteP_two (fun hc hd => ?_) (fun hc hd => ?_) | refine iteP_intro (fun hc => ?_) (fun hc => ?_))
/-- Only blocks of a range have changed, of those that were there. -/
def RngL (lo hi : Nat) (h h' : Heap) : Prop := h.length ≤ h'.length ∧ ∀ b, b < h.length → (b < lo ∨ hi ≤ b) → h'[b]? = h[b]?
theorem endH_or (v : Value) (h h' : Heap) : endH v h h' = h' ∨ (endH v h h' = h ∧ ∀ b, b < h.length → h'[b]? = h[b]?) := by
  unfold endH
  split
  · rename_i q
    refine .inr ⟨rfl, fun b hb => ?_⟩
    have := congrArg (fun g => g[b]?) q.2
    simp only [List.getElem?_take_of_lt hb] at this
    exact this
  · exact .inl rfl
theorem markFrame_c (hX : XN X) {lo hi n : Nat} {idx c : Int} {L : List Value} {x : Value} {h : Heap} (hI : VS lo hi 1 h x n L) (hn : n ≤ 1000) (hro : ro ≤ lo) (hhi : hi ≤ h.length) (hc0 : 0 ≤ c) (hc1 : c + n ≤ 2048) :
    CallR Try.prog ro X 34 [.agg ⟨[.int .i64 idx, x]⟩, .int .i64 c] h (fun r h' => r = .int .i64 (c + (n : Int)) ∧ VS lo hi 1 h' x n (mkc c n L) ∧ RngL lo hi h h' ∧ (∀ t, bOf x < h.length → VG lo t 1 h x n L → VG lo t 1 h' x n (mkc c n L))) := by
  have hx := hI.shape
  refine callR_of (hX _ rfl) Try.func34 rfl (by kernel_rfl) (Nat.le_of_ble_eq_true rfl) ?_
  (repeat' first | simp -dsimp (disch := first | omega | assumption | (refine OkS.sto ?_ (by omega); first | assumption | (refine OkS.sto ?_ (by omega); first | assumption | (refine OkS.sto ?_ (by omega); first | assumption | (refine OkS.sto ?_ (by omega); first | assumption | (refine OkS.sto ?_ (by omega); first | assumption | (refine OkS.sto ?_ (by omega); first | assumption)))))) | exact Pfx.refl _ | (apply Pfx.snoc; repeat (first | exact Pfx.refl _ | assumption | apply Pfx.snoc)) | with_unfolding_all exact of_eq_true (eq_true rfl) | (simp only [List.length_append, List.length_cons, List.length_nil]; omega)) only [↓wpre0, ↓wpre1, ↓reduceIte, Int.reduceToNat, Nat.reduceAdd, Nat.reduceMul, Nat.reduceEqDiff, wpost0, wpost1, wpost2, wpost3, wpost4, ite_self, ite_true, ite_false, if_true, if_false, xfad50_1, xld29, fr34, wrap_int, wrap_u8, iteP_yes, iteP_no, hx.2.1, hx.2.2, box_ix hx.2.2] | refine iteP_two (fun hc hd => ?_) (fun hc hd => ?_) | refine iteP_intro (fun hc => ?_) (fun hc => ?_))
  refine cf_rel (markComplex64S_c (ro := ro) hX (hI.pre (Pfx.refl h).snoc) hn hro hc0 hc1) (fun q => by cases q) ?_
  rintro r h2 ⟨rfl, m1, m2, m3⟩
  (repeat' first | simp -dsimp (disch := first | omega | assumption | (refine OkS.sto ?_ (by omega); first | assumption | (refine OkS.sto ?_ (by omega); first | assumption | (refine OkS.sto ?_ (by omega); first | assumption | (refine OkS.sto ?_ (by omega); first | assumption | (refine OkS.sto ?_ (by omega); first | assumption | (refine OkS.sto ?_ (by omega); first | assumption)))))) | exact Pfx.refl _ | (apply Pfx.snoc; repeat (first | exact Pfx.refl _ | assumption | apply Pfx.snoc)) | with_unfolding_all exact of_eq_true (eq_true rfl) | (simp only [List.length_append, List.length_cons, List.length_nil]; omega)) only [↓wpre0, ↓wpre1, ↓reduceIte, Int.reduceToNat, Nat.reduceAdd, Nat.reduceMul, Nat.reduceEqDiff, wpost0, wpost1, wpost2, wpost3, wpost4, ite_self, ite_true, ite_false, if_true, if_false, xfad50_1, xld29, fr34, wrap_int, wrap_u8, iteP_yes, iteP_no, hx.2.1] | refine iteP_two (fun hc hd => ?_) (fun hc hd => ?_) | refine iteP_intro (fun hc => ?_) (fun hc => ?_))
  have hl : h2.length = h.length + 1 := by rw [m2.1]; simp
  have hr : RngL lo hi h h2 := ⟨by omega, fun b hb q => by rw [m2.2 b q, List.getElem?_append_left hb]⟩
  rcases endH_or (.int .i64 (c + (n : Int))) h h2 with q | ⟨q, hq⟩
  · rw [q]
    exact ⟨m1, hr, fun t _ g => m3 t (g.pre (Pfx.refl h).snoc)⟩
  · rw [q]
    exact ⟨m1.frame fun b _ hb => (hq b (by omega)).symm, ⟨Nat.le_refl _, fun _ _ _ => rfl⟩, fun t hb g => (m3 t (g.pre (Pfx.refl h).snoc)).frame (hq _ hb).symm⟩
theorem heldFrame_r (hX : XN X) {lo hi n : Nat} {idx c : Int} {L : List Value} {x : Value} {h : Heap} (hI : VS lo hi 1 h x n L) (hM : ∀ i, i < n → vth L i = cpm (c + (i : Int))) (hn : n ≤ 1000) (hc0 : 0 ≤ c) (hc1 : c + n ≤ 2048) :
    Ret Try.prog ro X 35 [.agg ⟨[.int .i64 idx, x]⟩, .int .i64 c] h (.int .i64 (c + (n : Int))) := by
  have hx := hI.shape
  have he : ∀ C, Ret Try.prog ro X 70 [x, .int .i64 c] (h ++ [C]) (.int .i64 (c + (n : Int))) := fun C => heldComplex64S_r hX (hI.pre (Pfx.refl h).snoc) hM hn hc0 hc1
  refine ret_of (callR_of (hX _ rfl) Try.func35 rfl (by kernel_rfl) (Nat.le_of_ble_eq_true rfl) ?_)
  (repeat' first | simp -dsimp (disch := first | omega | assumption | (refine OkS.sto ?_ (by omega); first | assumption | (refine OkS.sto ?_ (by omega); first | assumption | (refine OkS.sto ?_ (by omega); first | assumption | (refine OkS.sto ?_ (by omega); first | assumption | (refine OkS.sto ?_ (by omega); first | assumption | (refine OkS.sto ?_ (by omega); first | assumption)))))) | exact Pfx.refl _ | (apply Pfx.snoc; repeat (first | exact Pfx.refl _ | assumption | apply Pfx.snoc)) | with_unfolding_all exact of_eq_true (eq_true rfl) | (simp only [List.length_append, List.length_cons, List.length_nil]; omega)) only [↓wpre0, ↓wpre1, ↓reduceIte, Int.reduceToNat, Nat.reduceAdd, Nat.reduceMul, Nat.reduceEqDiff, wpost0, wpost1, wpost2, wpost3, wpost4, ite_self, ite_true, ite_false, if_true, if_false, xfad50_1, xld29, bin_lss, fr35, wrap_int, wrap_u8, iteP_yes, iteP_no, hx.2.1, hx.2.2, box_ix hx.2.2, he] | refine iteP_two (fun hc hd => ?_) (fun hc hd => ?_) | refine iteP_intro (fun hc => ?_) (fun hc => ?_))
end Go.Proofs.Ytbakaopgdcojfaa.Sim
