/- Groups of beams: rows of whole numbers, and what the program's closures come to. Lemmas only; no condition. -/
import Derived.Test.YtbakaopgdcojfaaFaa
import Derived.Test.YtbakaopgdcojfaaPls
set_option linter.unusedSimpArgs false
set_option linter.unusedVariables false
set_option maxRecDepth 8000
namespace Go.Proofs.Ytbakaopgdcojfaa.Sim
open Go Go.RowKit
variable {ro : Nat} {X : Ext}
def rowI (gs : List (List Int)) (i : Nat) : List Int := gs.getD i []
theorem rowI_get {gs : List (List Int)} {i : Nat} (h : i < gs.length) : gs[i] = rowI gs i := by simp [rowI, h]
/-- Rows of whole numbers, each in a block of its own, and none in the block 'bx'. -/
structure NG (lo : Nat) (t : TypeId) (h : Heap) (bx : Nat) (xs : List Value) (gs : List (List Int)) : Prop where
  len : xs.length = gs.length
  row : ∀ i, i < gs.length → VG lo t 1 h (vth xs i) (rowI gs i).length (vints (rowI gs i))
  out : ∀ i, i < gs.length → bOf (vth xs i) ≠ bx
  sep : ∀ i j, i < j → j < gs.length → bOf (vth xs i) ≠ bOf (vth xs j)
theorem NG.frame {lo t bx : Nat} {h h' : Heap} {xs : List Value} {gs : List (List Int)} (g : NG lo t h bx xs gs) (hh : ∀ b, lo ≤ b → b < h.length → b ≠ bx → h'[b]? = h[b]?) : NG lo t h' bx xs gs :=
  ⟨g.len, fun i hi => (g.row i hi).frame (hh _ (g.row i hi).bof.1 (g.row i hi).bof.2 (g.out i hi)), g.out, g.sep⟩
theorem NG.pre {lo t bx : Nat} {h h' : Heap} {xs : List Value} {gs : List (List Int)} (g : NG lo t h bx xs gs) (p : Pfx h h') : NG lo t h' bx xs gs := g.frame fun b _ h2 _ => p.get h2
theorem NG.nil {lo t bx : Nat} {h : Heap} : NG lo t h bx [] [] := ⟨rfl, fun i hi => by simp at hi, fun i hi => by simp at hi, fun i j _ hj => by simp at hj⟩
theorem rowI_app_left {gs ms : List (List Int)} {i : Nat} (h : i < gs.length) : rowI (gs ++ ms) i = rowI gs i := by simp [rowI, List.getElem?_append_left h]
theorem rowI_app_last {gs : List (List Int)} {g : List Int} : rowI (gs ++ [g]) gs.length = g := by simp [rowI]
theorem rowI_set {gs : List (List Int)} {i j : Nat} {g : List Int} (hi : i < gs.length) : rowI (gs.set i g) j = if i = j then g else rowI gs j := by
  simp only [rowI, List.getD_eq_getElem?_getD, List.getElem?_set]
  by_cases e : i = j
  · subst e; simp [hi]
  · simp [e]
/-- One row more. -/
theorem NG.push {lo t bx bx' : Nat} {h h' : Heap} {xs : List Value} {gs : List (List Int)} {x : Value} {g : List Int} (q : NG lo t h bx xs gs) (hh : ∀ b, lo ≤ b → b < h.length → b ≠ bx → h'[b]? = h[b]?) (hx : VG lo t 1 h' x g.length (vints g)) (hb : h.length ≤ bOf x) (hb' : bOf x < bx') (hbx : h.length ≤ bx') :
    NG lo t h' bx' (xs ++ [x]) (gs ++ [g]) := by
  have q' := q.frame hh
  have hl := q.len
  refine ⟨by simp [hl], fun i hi => ?_, fun i hi => ?_, fun i j hij hj => ?_⟩
  · simp only [List.length_append, List.length_cons, List.length_nil] at hi
    by_cases e : i < gs.length
    · rw [vth_append_left (by omega), rowI_app_left e]; exact q'.row i e
    · have : i = gs.length := by omega
      subst this
      rw [vth_append_right (by omega), hl, Nat.sub_self, rowI_app_last]; exact hx
  · simp only [List.length_append, List.length_cons, List.length_nil] at hi
    by_cases e : i < gs.length
    · rw [vth_append_left (by omega)]
      have := (q.row i e).bof.2
      omega
    · have : i = gs.length := by omega
      subst this
      rw [vth_append_right (by omega), hl, Nat.sub_self]; show bOf x ≠ bx'; omega
  · simp only [List.length_append, List.length_cons, List.length_nil] at hj
    rw [vth_append_left (by omega)]
    have hi := (q.row i (by omega)).bof.2
    by_cases e : j < gs.length
    · rw [vth_append_left (by omega)]; exact q.sep i j hij e
    · have : j = gs.length := by omega
      subst this
      rw [vth_append_right (by omega), hl, Nat.sub_self]; show bOf (vth xs i) ≠ bOf x; omega
/-- One row another. -/
theorem NG.put {lo t bx a : Nat} {h h' : Heap} {xs : List Value} {gs : List (List Int)} {x : Value} {g : List Int} (q : NG lo t h bx xs gs) (ha : a < gs.length) (hh : ∀ b, lo ≤ b → b < h.length → b ≠ bx → b ≠ bOf (vth xs a) → h'[b]? = h[b]?) (hx : VG lo t 1 h' x g.length (vints g)) (hb : h.length ≤ bOf x ∨ bOf x = bOf (vth xs a)) (hbx : bOf x ≠ bx) :
    NG lo t h' bx (xs.set a x) (gs.set a g) := by
  have hl := q.len
  have hsep : ∀ i j, i ≠ j → i < gs.length → j < gs.length → bOf (vth xs i) ≠ bOf (vth xs j) := by
    intro i j hij hi hj
    rcases Nat.lt_or_ge i j with w | w
    · exact q.sep i j w hj
    · exact (q.sep j i (by omega) hi).symm
  refine ⟨by simp [hl], fun i hi => ?_, fun i hi => ?_, fun i j hij hj => ?_⟩
  · simp only [List.length_set] at hi
    rw [vth_set (by omega), rowI_set ha]
    by_cases e : a = i
    · rw [if_pos e, if_pos e]; exact hx
    · rw [if_neg e, if_neg e]
      exact (q.row i hi).frame (hh _ (q.row i hi).bof.1 (q.row i hi).bof.2 (q.out i hi) (hsep i a (fun w => e w.symm) hi ha))
  · simp only [List.length_set] at hi
    rw [vth_set (by omega)]
    by_cases e : a = i
    · rw [if_pos e]; exact hbx
    · rw [if_neg e]; exact q.out i hi
  · simp only [List.length_set] at hj
    rw [vth_set (by omega), vth_set (by omega)]
    have hi2 := (q.row i (by omega)).bof.2
    have hj2 := (q.row j hj).bof.2
    by_cases e : a = i
    · rw [if_pos e, if_neg (by omega)]
      rcases hb with w | w
      · omega
      · rw [w]; exact hsep a j (by omega) ha hj
    · rw [if_neg e]
      by_cases e2 : a = j
      · rw [if_pos e2]
        rcases hb with w | w
        · omega
        · rw [w]; exact hsep i a (by omega) (by omega) ha
      · rw [if_neg e2]; exact q.sep i j hij hj
/-- slices.IndexFunc on rows. -/
theorem idxR_r (hX : ∀ f, X f = none) {lo hi lo2 bx t n : Nat} {xs : List Value} {gs : List (List Int)} {x : Value} {h : Heap} (hI : VS lo hi 1 h x n xs) (hG : NG lo2 t h bx xs gs) (hn : n ≤ 1099511627776) (f : FuncId) (cap : List Value) (p : List Int → Bool) (hf : ∀ i, i < n → Ret Try.prog ro X f (vth xs i :: cap) h (.bool (p (rowI gs i)))) :
    Ret Try.prog ro X 81 [x, .func (.func f) ⟨[]⟩ ⟨cap⟩] h (.int .i64 (fidx p gs)) := by
  have hl : gs.length = n := by rw [← hG.len, hI.1, Nat.mul_one]
  refine ret_of (callR_of (hX _) Try.func81 rfl (by kernel_rfl) (Nat.le_of_ble_eq_true rfl) ?_)
  (repeat' first | simp -dsimp (disch := first | omega | assumption | (refine OkS.sto ?_ (by omega); first | assumption | (refine OkS.sto ?_ (by omega); first | assumption | (refine OkS.sto ?_ (by omega); first | assumption | (refine OkS.sto ?_ (by omega); first | assumption | (refine OkS.sto ?_ (by omega); first | assumption | (refine OkS.sto ?_ (by omega); first | assumption)))))) | exact Pfx.refl _ | (apply Pfx.snoc; repeat (first | exact Pfx.refl _ | assumption | apply Pfx.snoc)) | with_unfolding_all exact of_eq_true (eq_true rfl) | (simp only [List.length_append, List.length_cons, List.length_nil]; omega)) only [↓wpre0, ↓wpre1, ↓reduceIte, Int.reduceToNat, Nat.reduceAdd, Nat.reduceMul, Nat.reduceEqDiff, wpost0, wpost1, wpost2, wpost3, wpost4, ite_self, ite_true, ite_false, if_true, if_false, xlen39, bin_lss, xiad39, xld63, bin_add, fr81, wrap_int, wrap_u8, iteP_yes, iteP_no, hI.len Try.underlying39] | refine iteP_two (fun hc hd => ?_) (fun hc hd => ?_) | refine iteP_intro (fun hc => ?_) (fun hc => ?_))
  refine loop_rounds (fun m e h' => ∃ i : Nat, m = n - i ∧ i ≤ n ∧ h' = h ∧ e 0 = x ∧ e 1 = .func (.func f) ⟨[]⟩ ⟨cap⟩ ∧ e 7 = .int .i64 n ∧ e 8 = .int .i64 i ∧ ∀ j, j < i → p (rowI gs j) = false) _ ⟨0, rfl, ?_⟩ ?_
  · simp only [updO_at, updO_not, entry_at, List.getD_cons_zero, List.getD_cons_succ, ↓reduceIte, Nat.reduceEqDiff, true_and, and_true]
    exact ⟨by omega, rfl, fun j hj => by omega⟩
  · rintro m e h' ⟨i, hm, hle, rfl, g0, g1, g7, g8, hall⟩
    by_cases hin : i < n
    · have hfi := hf i hin
      (repeat' first | simp -dsimp (disch := first | omega | assumption | (refine OkS.sto ?_ (by omega); first | assumption | (refine OkS.sto ?_ (by omega); first | assumption | (refine OkS.sto ?_ (by omega); first | assumption | (refine OkS.sto ?_ (by omega); first | assumption | (refine OkS.sto ?_ (by omega); first | assumption | (refine OkS.sto ?_ (by omega); first | assumption)))))) | exact Pfx.refl _ | (apply Pfx.snoc; repeat (first | exact Pfx.refl _ | assumption | apply Pfx.snoc)) | with_unfolding_all exact of_eq_true (eq_true rfl) | (simp only [List.length_append, List.length_cons, List.length_nil]; omega)) only [↓wpre0, ↓wpre1, ↓reduceIte, Int.reduceToNat, Nat.reduceAdd, Nat.reduceMul, Nat.reduceEqDiff, wpost0, wpost1, wpost2, wpost3, wpost4, ite_self, ite_true, ite_false, if_true, if_false, xlen39, bin_lss, xiad39, xld63, bin_add, fr81, wrap_int, wrap_u8, iteP_yes, iteP_no, g0, g1, g7, g8, VS.iad hI Try.underlying39 tsz63, VS.ld1 hI tsz63 tag63, Nat.mul_one, hfi] | refine iteP_two (fun hc hd => ?_) (fun hc hd => ?_) | refine iteP_intro (fun hc => ?_) (fun hc => ?_))
      · rw [fidx_some (i := i) (by omega) (by rw [rowI_get]; exact hc) (fun j hj => by rw [rowI_get]; exact hall j hj)]
      · refine ⟨_, by omega, i + 1, rfl, by omega, by simp, fun j hj => ?_⟩
        rcases Nat.lt_or_eq_of_le (show j ≤ i by omega) with q | q
        · exact hall j q
        · rw [q]; exact hc
    · have : i = n := by omega
      subst this
      (repeat' first | simp -dsimp (disch := first | omega | assumption | (refine OkS.sto ?_ (by omega); first | assumption | (refine OkS.sto ?_ (by omega); first | assumption | (refine OkS.sto ?_ (by omega); first | assumption | (refine OkS.sto ?_ (by omega); first | assumption | (refine OkS.sto ?_ (by omega); first | assumption | (refine OkS.sto ?_ (by omega); first | assumption)))))) | exact Pfx.refl _ | (apply Pfx.snoc; repeat (first | exact Pfx.refl _ | assumption | apply Pfx.snoc)) | with_unfolding_all exact of_eq_true (eq_true rfl) | (simp only [List.length_append, List.length_cons, List.length_nil]; omega)) only [↓wpre0, ↓wpre1, ↓reduceIte, Int.reduceToNat, Nat.reduceAdd, Nat.reduceMul, Nat.reduceEqDiff, wpost0, wpost1, wpost2, wpost3, wpost4, ite_self, ite_true, ite_false, if_true, if_false, xlen39, bin_lss, xiad39, xld63, bin_add, fr81, wrap_int, wrap_u8, iteP_yes, iteP_no, g0, g1, g7, g8] | refine iteP_two (fun hc hd => ?_) (fun hc hd => ?_) | refine iteP_intro (fun hc => ?_) (fun hc => ?_))
      rw [fidx_none (fun j hj => by rw [rowI_get]; exact hall j (by omega))]
/-- How far two beams are apart. -/
def farD (l : List Int) (i k : Nat) : Int := max (babs (nth l (i * 4) - nth l (k * 4))) (babs (nth l (i * 4 + 1) - nth l (k * 4 + 1)))
theorem farD_comm (l : List Int) (i k : Nat) : max (babs (nth l (k * 4) - nth l (i * 4))) (babs (nth l (k * 4 + 1) - nth l (i * 4 + 1))) = farD l i k := by
  unfold farD babs; omega
def okB (l : List Int) (apart : Int) (i : Nat) (g : List Int) : Bool := g.all fun k => decide (apart ≤ farD l i k.toNat)
/-- Groups behind one beam more. -/
def farS (l : List Int) (apart : Int) (gs : List (List Int)) (i : Nat) : List (List Int) :=
  if fidx (okB l apart i) gs < 0 then gs ++ [[(i : Int)]] else gs.set (fidx (okB l apart i) gs).toNat (rowI gs (fidx (okB l apart i) gs).toNat ++ [(i : Int)])
def farG (l : List Int) (apart : Int) : Nat → List (List Int)
  | 0 => []
  | i + 1 => farS l apart (farG l apart i) i
/-- What holds of groups of the first beams. -/
structure GI (gs : List (List Int)) (i : Nat) : Prop where
  len : gs.length ≤ i
  row : ∀ g ∈ gs, g.length ≤ i ∧ ∀ k ∈ g, 0 ≤ k ∧ k < i
theorem farG_ok (l : List Int) (apart : Int) : ∀ i, GI (farG l apart i) i
  | 0 => ⟨by simp [farG], fun g hg => by simp [farG] at hg⟩
  | i + 1 => by
    have ih := farG_ok l apart i
    simp only [farG, farS]
    have hr := @fidx_range _ (okB l apart i) (farG l apart i)
    split
    · refine ⟨by have := ih.len; simp only [List.length_append, List.length_cons, List.length_nil]; omega, fun g hg => ?_⟩
      rcases List.mem_append.1 hg with q | q
      · have := ih.row g q
        exact ⟨by omega, fun k hk => by have := this.2 k hk; omega⟩
      · simp only [List.mem_cons, List.not_mem_nil, or_false] at q
        subst q
        exact ⟨by simp, fun k hk => by simp only [List.mem_cons, List.not_mem_nil, or_false] at hk; omega⟩
    · rename_i hneg
      have hat : (fidx (okB l apart i) (farG l apart i)).toNat < (farG l apart i).length := by omega
      refine ⟨by have := ih.len; simp only [List.length_set]; omega, fun g hg => ?_⟩
      rcases List.mem_or_eq_of_mem_set hg with q | q
      · have := ih.row g q
        exact ⟨by omega, fun k hk => by have := this.2 k hk; omega⟩
      · subst q
        have := ih.row (rowI (farG l apart i) (fidx (okB l apart i) (farG l apart i)).toNat) (by rw [← rowI_get hat]; exact List.getElem_mem hat)
        refine ⟨by simp only [List.length_append, List.length_cons, List.length_nil]; omega, fun k hk => ?_⟩
        rcases List.mem_append.1 hk with w | w
        · have := this.2 k w; omega
        · simp only [List.mem_cons, List.not_mem_nil, or_false] at w; omega
theorem GI.at {gs : List (List Int)} {i g k : Nat} (q : GI gs i) (hg : g < gs.length) (hk : k < (rowI gs g).length) : 0 ≤ nth (rowI gs g) k ∧ nth (rowI gs g) k < i := by
  have h1 := (q.row _ (by rw [← rowI_get hg]; exact List.getElem_mem hg)).2 ((rowI gs g)[k]) (List.getElem_mem hk)
  have : nth (rowI gs g) k = (rowI gs g)[k] := by simp [nth, hk]
  rw [this]; exact h1
theorem GI.rlen {gs : List (List Int)} {i g : Nat} (q : GI gs i) (hg : g < gs.length) : (rowI gs g).length ≤ i := (q.row _ (by rw [← rowI_get hg]; exact List.getElem_mem hg)).1
/-- The program's 'isNear'. -/
theorem near_r (hX : ∀ f, X f = none) {lo hi n p2 p8 p3 i : Nat} {l : List Int} {x : Value} {h : Heap} {apart : Int} (hI : IS lo hi 4 h x n l) (hb : isB n l = true) (hin : i < n) (c2 : cell h p2 0 = some x) (c80 : cell h p8 0 = some (.int .i64 (nth l (i * 4)))) (c81 : cell h p8 1 = some (.int .i64 (nth l (i * 4 + 1)))) (c3 : cell h p3 0 = some (.int .i64 apart))
    (hro : ro ≤ h.length) (hp2 : p2 < h.length) (hp8 : p8 < h.length) (hp3 : p3 < h.length) (k : Int) (hk0 : 0 ≤ k) (hk : k < n) :
    Ret Try.prog ro X 79 [.int .i64 k, .pointer (some ⟨p2, 0, none⟩), .pointer (some ⟨p8, 0, none⟩), .pointer (some ⟨p3, 0, none⟩)] h (.bool (decide (farD l i k.toNat < apart))) := by
  have b1 := br hb hin
  have b2 := br hb (i := k.toNat) (by omega)
  have u1 := b1.u
  have u2 := b2.u
  have v1 := b1.v
  have v2 := b2.v
  have hI3 : ∀ C, IS lo hi 4 (h ++ [C]) x n l := fun C => hI.pre (Pfx.refl h).snoc
  refine ret_of (callR_of (hX _) Try.func79 rfl (by kernel_rfl) (Nat.le_of_ble_eq_true rfl) ?_)
  (repeat' first | simp -dsimp (disch := first | omega | assumption | (refine OkS.sto ?_ (by omega); first | assumption | (refine OkS.sto ?_ (by omega); first | assumption | (refine OkS.sto ?_ (by omega); first | assumption | (refine OkS.sto ?_ (by omega); first | assumption | (refine OkS.sto ?_ (by omega); first | assumption | (refine OkS.sto ?_ (by omega); first | assumption)))))) | exact Pfx.refl _ | (apply Pfx.snoc; repeat (first | exact Pfx.refl _ | assumption | apply Pfx.snoc)) | with_unfolding_all exact of_eq_true (eq_true rfl) | (simp only [List.length_append, List.length_cons, List.length_nil]; omega)) only [↓wpre0, ↓wpre1, ↓reduceIte, Int.reduceToNat, Nat.reduceAdd, Nat.reduceMul, Nat.reduceEqDiff, wpost0, wpost1, wpost2, wpost3, wpost4, ite_self, ite_true, ite_false, if_true, if_false, xld42, xiad42, xfad98_0, xld96, tze96, xst96, xfad96_0, xld2, bin_sub, xfad96_1, blt_maxI, bin_lss, fr79, wrap_int, wrap_u8, iteP_yes, iteP_no, c2, c80, c81, c3, far_r hX, IS.iad hI Try.underlying42 tsz98, IS.fad hI tfi98_0 (by decide), IS.ldm hI tsz96 tag96, farD_comm l i k.toNat, blt_maxI] | refine iteP_two (fun hc hd => ?_) (fun hc hd => ?_) | refine iteP_intro (fun hc => ?_) (fun hc => ?_))
theorem not_any (l : List Int) (apart : Int) (i : Nat) (g : List Int) : (!(g.any fun k => decide (farD l i k.toNat < apart))) = okB l apart i g := by
  unfold okB
  rw [Bool.eq_iff_iff]
  simp only [Bool.not_eq_true', List.any_eq_false, List.all_eq_true, decide_eq_true_eq, Int.not_lt]
/-- The program's closure on groups. -/
theorem grp_r (hX : ∀ f, X f = none) {lo hi n p2 p8 p3 p9 i : Nat} {l : List Int} {x : Value} {h : Heap} {apart : Int} (hI : IS lo hi 4 h x n l) (hb : isB n l = true) (hin : i < n) (c2 : cell h p2 0 = some x) (c80 : cell h p8 0 = some (.int .i64 (nth l (i * 4)))) (c81 : cell h p8 1 = some (.int .i64 (nth l (i * 4 + 1)))) (c3 : cell h p3 0 = some (.int .i64 apart))
    (c9 : cell h p9 0 = some (.func (.func 79) ⟨[]⟩ ⟨[.pointer (some ⟨p2, 0, none⟩), .pointer (some ⟨p8, 0, none⟩), .pointer (some ⟨p3, 0, none⟩)]⟩))
    (hro : ro ≤ h.length) (hp2 : p2 < h.length) (hp8 : p8 < h.length) (hp3 : p3 < h.length) {lo2 hi2 m : Nat} {g : List Int} {y : Value} (hJ : IS lo2 hi2 1 h y m g) (hm : m ≤ 1099511627776) (hg : ∀ k, k < m → 0 ≤ nth g k ∧ nth g k < n) :
    Ret Try.prog ro X 82 [y, .pointer (some ⟨p9, 0, none⟩)] h (.bool (okB l apart i g)) := by
  refine ret_of (callR_of (hX _) Try.func82 rfl (by kernel_rfl) (Nat.le_of_ble_eq_true rfl) ?_)
  (repeat' first | simp -dsimp (disch := first | omega | assumption | (refine OkS.sto ?_ (by omega); first | assumption | (refine OkS.sto ?_ (by omega); first | assumption | (refine OkS.sto ?_ (by omega); first | assumption | (refine OkS.sto ?_ (by omega); first | assumption | (refine OkS.sto ?_ (by omega); first | assumption | (refine OkS.sto ?_ (by omega); first | assumption)))))) | exact Pfx.refl _ | (apply Pfx.snoc; repeat (first | exact Pfx.refl _ | assumption | apply Pfx.snoc)) | with_unfolding_all exact of_eq_true (eq_true rfl) | (simp only [List.length_append, List.length_cons, List.length_nil]; omega)) only [↓wpre0, ↓wpre1, ↓reduceIte, Int.reduceToNat, Nat.reduceAdd, Nat.reduceMul, Nat.reduceEqDiff, wpost0, wpost1, wpost2, wpost3, wpost4, ite_self, ite_true, ite_false, if_true, if_false, xld24, un_not, fr82, wrap_int, wrap_u8, iteP_yes, iteP_no, c9, conI_r hX hJ hm _ _ (fun k => decide (farD l i k.toNat < apart)) (fun k hk => near_r hX hI hb hin c2 c80 c81 c3 hro hp2 hp8 hp3 _ (hg k hk).1 (hg k hk).2), not_any] | refine iteP_two (fun hc hd => ?_) (fun hc hd => ?_) | refine iteP_intro (fun hc => ?_) (fun hc => ?_))
end Go.Proofs.Ytbakaopgdcojfaa.Sim
