/- The law FnExactFarBeams on the abstract machine. Lemmas only; no condition. -/
import Derived.Test.YtbakaopgdcojfaaFai
import Derived.Test.YtbakaopgdcojfaaFaq
import Derived.Test.YtbakaopgdcojfaaBto
set_option linter.unusedSimpArgs false
set_option linter.unusedVariables false
set_option maxRecDepth 8000
namespace Go.Proofs.Ytbakaopgdcojfaa.Sim
open Go Go.RowKit
variable {ro : Nat} {X : Ext}
/-- Rows of whole numbers, all of their blocks from 'lo' on and below 'hi'. -/
def RO (lo hi : Nat) (h : Heap) (y : Value) (gs : List (List Int)) : Prop :=
  ∃ xs, VS (bOf y) (bOf y + 1) 1 h y gs.length xs ∧ (y = .slice none 0 0 ∨ (lo ≤ bOf y ∧ bOf y < hi)) ∧ NI lo hi h (bOf y) xs gs
theorem RO.frame {lo hi : Nat} {h h' : Heap} {y : Value} {gs : List (List Int)} (r : RO lo hi h y gs) (hh : ∀ b, lo ≤ b → b < hi → h'[b]? = h[b]?) : RO lo hi h' y gs := by
  obtain ⟨xs, h1, h2, h3⟩ := r
  refine ⟨xs, ?_, h2, h3.frame fun b q1 q2 _ => hh b q1 q2⟩
  rcases h2 with rfl | ⟨q1, q2⟩
  · refine ⟨h1.1, .inl ⟨?_, rfl⟩⟩
    rcases h1.2 with ⟨q, _⟩ | ⟨_, _, _, _, q, _⟩
    · exact q
    · cases q
  · exact h1.frb (hh _ q1 q2)
theorem RO.rng {lo hi lo' hi' : Nat} {h h' : Heap} {y : Value} {gs : List (List Int)} (r : RO lo hi h y gs) (g : Rng lo' hi' h h') (hd : hi ≤ lo' ∨ hi' ≤ lo) : RO lo hi h' y gs := r.frame fun b h1 h2 => g.2 b (by omega)
theorem RO.pre {lo hi : Nat} {h h' : Heap} {y : Value} {gs : List (List Int)} (r : RO lo hi h y gs) (p : Pfx h h') : RO lo hi h' y gs := by
  obtain ⟨xs, h1, h2, h3⟩ := r
  exact ⟨xs, h1.pre p, h2, h3.pre p⟩
def SmallR (gs : List (List Int)) : Prop := gs.length ≤ 1000000 ∧ offs gs gs.length ≤ 1000000
theorem SmallR.row {gs : List (List Int)} (s : SmallR gs) {i : Nat} (hi : i < gs.length) : (rowI gs i).length ≤ 1099511627776 := by
  have h1 := offs_le (gs := gs) (i := i + 1) (j := gs.length) (by omega) (Nat.le_refl _)
  rw [offs_succ hi] at h1
  have := s.2
  omega
theorem eqRO_r (hX : ∀ f, X f = none) {lo hi lo' hi' : Nat} {gs gs' : List (List Int)} {x y : Value} {h : Heap} (a : RO lo hi h x gs) (b : RO lo' hi' h y gs') (s : SmallR gs) (s' : SmallR gs') (hro : ro ≤ h.length) : Ret Try.prog ro X 26 [x, y] h (.bool (decide (gs = gs'))) := by
  obtain ⟨xs, a1, a2, a3⟩ := a
  obtain ⟨ys, b1, b2, b3⟩ := b
  have q1 := s.1
  have q2 := s'.1
  exact eqInt64SS_r hX a1 a3 b1 b3 (by omega) (by omega) (fun i hi => s.row hi) (fun i hi => s'.row hi) hro
theorem markRO_c (hX : ∀ f, X f = none) {lo hi : Nat} {gs : List (List Int)} {x : Value} {h : Heap} {c : Int} (a : RO lo hi h x gs) (s : SmallR gs) (hro : ro ≤ lo) (hc0 : 0 ≤ c) (hc1 : c ≤ 1000) :
    CallR Try.prog ro X 29 [x, .int .i64 c] h (fun r h' => r = .int .i64 (c + (offs gs gs.length : Nat)) ∧ RO lo hi h' x (mks c gs.length gs) ∧ Rng lo hi h h') := by
  obtain ⟨xs, a1, a2, a3⟩ := a
  have q1 := s.1
  have q2 := s.2
  obtain ⟨r, h', hc, h1, h2, h3, h4⟩ := markInt64SS_c (ro := ro) hX a1 a3 (.inr ⟨rfl, rfl⟩) (by omega) (by omega) hro hc0 (by omega)
  exact ⟨r, h', hc, h1, ⟨xs, by rw [mks_len]; exact h2, a2, h3⟩, h4⟩
theorem heldRO_r (hX : ∀ f, X f = none) {lo hi : Nat} {gs : List (List Int)} {x : Value} {h : Heap} {c : Int} (a : RO lo hi h x gs) (hM : Mkds c gs) (s : SmallR gs) (hc0 : 0 ≤ c) (hc1 : c ≤ 1000) : Ret Try.prog ro X 30 [x, .int .i64 c] h (.int .i64 (c + (offs gs gs.length : Nat))) := by
  obtain ⟨xs, a1, a2, a3⟩ := a
  have q1 := s.1
  have q2 := s.2
  exact heldInt64SS_r hX a1 a3 hM (by omega) (by omega) hc0 (by omega)
def farRes (l : List Int) (n : Nat) (apart : Int) : List (List Int) := if faOk n l apart = true then farG l apart n else []
theorem offs_small {gs : List (List Int)} {k : Nat} (hk : ∀ j, j < gs.length → (rowI gs j).length ≤ k) : ∀ i, i ≤ gs.length → offs gs i ≤ i * k
  | 0, _ => by rw [offs_zero]; omega
  | i + 1, h => by
    rw [offs_succ (by omega), Nat.succ_mul]
    have := offs_small hk i (by omega)
    have := hk i (by omega)
    omega
theorem farRes_small (l : List Int) (n : Nat) (apart : Int) : SmallR (farRes l n apart) := by
  unfold farRes
  split
  · rename_i h
    have hb : isB n l = true := by simp only [faOk, Bool.and_eq_true] at h; exact h.1
    have hn := isB_n hb
    have g := farG_ok l apart n
    have h1 := g.len
    have h2 := offs_small (gs := farG l apart n) (k := 7) (fun j hj => by have := g.rlen hj; omega) (farG l apart n).length (Nat.le_refl _)
    exact ⟨by omega, by omega⟩
  · exact ⟨by simp, by simp [offs]⟩
theorem FaR.out {l : List Int} {n : Nat} {apart : Int} {h h' : Heap} {r : Value} (p : FaR l n apart h h' r) : Pfx h h' ∧ ∃ y, r = .tuple ⟨[y, .bool (faOk n l apart)]⟩ ∧ RO h.length h'.length h' y (farRes l n apart) := by
  obtain ⟨p1, ⟨p2, rfl⟩ | ⟨p2, y, xs, rfl, p3, p4⟩⟩ := p
  · refine ⟨p1, _, by rw [p2], ?_⟩
    unfold farRes
    rw [if_neg (by rw [p2]; simp)]
    exact ⟨[], ⟨rfl, .inl ⟨rfl, rfl⟩⟩, .inl rfl, NG.ni (lo := h.length) (t := 0) NG.nil⟩
  · refine ⟨p1, y, by rw [p2], ?_⟩
    unfold farRes
    rw [if_pos p2]
    exact ⟨xs, p3.vs, .inr p3.bof, p4.ni⟩
set_option maxHeartbeats 4000000 in
theorem lawFar_c (hX : ∀ f, X f = none) {lo hi n : Nat} {l : List Int} {x : Value} {h : Heap} {apart : Int} (hI : IS lo hi 4 h x n l) (hn0 : n ≤ 140737488355328) (hro : ro ≤ h.length) :
    CallR Try.prog ro X 6 [x, .int .i64 apart] h (fun r h' => r = .bool true) := by
  refine callR_of (hX _) Try.func6 rfl (by kernel_rfl) (Nat.le_of_ble_eq_true rfl) ?_
  (repeat' first | simp -dsimp (disch := first | omega | assumption | (refine OkS.sto ?_ (by omega); first | assumption | (refine OkS.sto ?_ (by omega); first | assumption | (refine OkS.sto ?_ (by omega); first | assumption | (refine OkS.sto ?_ (by omega); first | assumption | (refine OkS.sto ?_ (by omega); first | assumption | (refine OkS.sto ?_ (by omega); first | assumption)))))) | exact Pfx.refl _ | (apply Pfx.snoc; repeat (first | exact Pfx.refl _ | assumption | apply Pfx.snoc)) | with_unfolding_all exact of_eq_true (eq_true rfl) | (simp only [List.length_append, List.length_cons, List.length_nil]; omega)) only [↓wpre0, ↓wpre1, ↓reduceIte, Int.reduceToNat, Nat.reduceAdd, Nat.reduceMul, Nat.reduceEqDiff, wpost0, wpost1, wpost2, wpost3, wpost4, ite_self, ite_true, ite_false, if_true, if_false, bin_lss, un_not, xbneq4, bin_neq, fr6, wrap_int, wrap_u8, iteP_yes, iteP_no, szBeamS_r hX hI hn0] | refine iteP_two (fun hc hd => ?_) (fun hc hd => ?_) | refine iteP_intro (fun hc => ?_) (fun hc => ?_))
  have hn1 : n ≤ 1048576 := by
    rcases Nat.lt_or_ge 1048576 n with q | q
    · rw [if_pos (by omega)] at hc; omega
    · exact q
  have hn : n ≤ 1099511627776 := by omega
  refine cf_rel (toBeamS_c hX hI hn hro) (fun q => by cases q) ?_
  rintro r1 h1 ⟨cap1, hr1, p1, l1, I1⟩
  clear hc hd
  have sm := farRes_small l n apart
  simp -dsimp (disch := first | omega | assumption | (refine OkS.sto ?_ (by omega); first | assumption | (refine OkS.sto ?_ (by omega); first | assumption | (refine OkS.sto ?_ (by omega); first | assumption | (refine OkS.sto ?_ (by omega); first | assumption | (refine OkS.sto ?_ (by omega); first | assumption | (refine OkS.sto ?_ (by omega); first | assumption)))))) | exact Pfx.refl _ | (apply Pfx.snoc; repeat (first | exact Pfx.refl _ | assumption | apply Pfx.snoc)) | with_unfolding_all exact of_eq_true (eq_true rfl) | (simp only [List.length_append, List.length_cons, List.length_nil]; omega)) only [↓wpre0, ↓wpre1, ↓reduceIte, Int.reduceToNat, Nat.reduceAdd, Nat.reduceMul, Nat.reduceEqDiff, wpost0, wpost1, wpost2, wpost3, wpost4, ite_self, ite_true, ite_false, if_true, if_false, bin_lss, un_not, xbneq4, bin_neq, fr6, wrap_int, wrap_u8, iteP_yes, iteP_no]
  refine cf_rel (sFar_c hX (apart := apart) I1 hn1 (by omega)) (fun q => by cases q) ?_
  intro r h2 hr
  obtain ⟨p2, y, rfl, IY⟩ := hr.out
  have L2 := p2.len
  have hI2 := hI.pre (p1.trans p2)
  simp -dsimp (disch := first | omega | assumption | (refine OkS.sto ?_ (by omega); first | assumption | (refine OkS.sto ?_ (by omega); first | assumption | (refine OkS.sto ?_ (by omega); first | assumption | (refine OkS.sto ?_ (by omega); first | assumption | (refine OkS.sto ?_ (by omega); first | assumption | (refine OkS.sto ?_ (by omega); first | assumption)))))) | exact Pfx.refl _ | (apply Pfx.snoc; repeat (first | exact Pfx.refl _ | assumption | apply Pfx.snoc)) | with_unfolding_all exact of_eq_true (eq_true rfl) | (simp only [List.length_append, List.length_cons, List.length_nil]; omega)) only [↓wpre0, ↓wpre1, ↓reduceIte, Int.reduceToNat, Nat.reduceAdd, Nat.reduceMul, Nat.reduceEqDiff, wpost0, wpost1, wpost2, wpost3, wpost4, ite_self, ite_true, ite_false, if_true, if_false, bin_lss, un_not, xbneq4, bin_neq, fr6, wrap_int, wrap_u8, iteP_yes, iteP_no]
  refine cf_rel (toBeamS_c hX hI2 hn (by omega)) (fun q => by cases q) ?_
  rintro r3 h3 ⟨cap3, hr3, p3, l3, I3⟩
  simp -dsimp (disch := first | omega | assumption | (refine OkS.sto ?_ (by omega); first | assumption | (refine OkS.sto ?_ (by omega); first | assumption | (refine OkS.sto ?_ (by omega); first | assumption | (refine OkS.sto ?_ (by omega); first | assumption | (refine OkS.sto ?_ (by omega); first | assumption | (refine OkS.sto ?_ (by omega); first | assumption)))))) | exact Pfx.refl _ | (apply Pfx.snoc; repeat (first | exact Pfx.refl _ | assumption | apply Pfx.snoc)) | with_unfolding_all exact of_eq_true (eq_true rfl) | (simp only [List.length_append, List.length_cons, List.length_nil]; omega)) only [↓wpre0, ↓wpre1, ↓reduceIte, Int.reduceToNat, Nat.reduceAdd, Nat.reduceMul, Nat.reduceEqDiff, wpost0, wpost1, wpost2, wpost3, wpost4, ite_self, ite_true, ite_false, if_true, if_false, bin_lss, un_not, xbneq4, bin_neq, fr6, wrap_int, wrap_u8, iteP_yes, iteP_no]
  refine cf_rel (iFar_c hX (apart := apart) I3 hn1 (by omega)) (fun q => by cases q) ?_
  intro r h4 hr
  obtain ⟨p4, y4, rfl, IY4⟩ := hr.out
  have L4 := p4.len
  have IYa := IY.pre (p3.trans p4)
  have I3a := I3.pre p4
  simp -dsimp (disch := first | omega | assumption | (refine OkS.sto ?_ (by omega); first | assumption | (refine OkS.sto ?_ (by omega); first | assumption | (refine OkS.sto ?_ (by omega); first | assumption | (refine OkS.sto ?_ (by omega); first | assumption | (refine OkS.sto ?_ (by omega); first | assumption | (refine OkS.sto ?_ (by omega); first | assumption)))))) | exact Pfx.refl _ | (apply Pfx.snoc; repeat (first | exact Pfx.refl _ | assumption | apply Pfx.snoc)) | with_unfolding_all exact of_eq_true (eq_true rfl) | (simp only [List.length_append, List.length_cons, List.length_nil]; omega)) only [↓wpre0, ↓wpre1, ↓reduceIte, Int.reduceToNat, Nat.reduceAdd, Nat.reduceMul, Nat.reduceEqDiff, wpost0, wpost1, wpost2, wpost3, wpost4, ite_self, ite_true, ite_false, if_true, if_false, bin_lss, un_not, xbneq4, bin_neq, fr6, wrap_int, wrap_u8, iteP_yes, iteP_no, eqRO_r (ro := ro) hX IY4 IYa sm sm (by omega), decide_true, bne_self_eq_false]
  have hI4 := hI2.pre (p3.trans p4)
  refine cf_rel (toBeamS_c hX hI4 hn (by omega)) (fun q => by cases q) ?_
  rintro r5 h5 ⟨cap5, hr5, p5, l5, I5⟩
  have I3b := I3a.pre p5
  simp -dsimp (disch := first | omega | assumption | (refine OkS.sto ?_ (by omega); first | assumption | (refine OkS.sto ?_ (by omega); first | assumption | (refine OkS.sto ?_ (by omega); first | assumption | (refine OkS.sto ?_ (by omega); first | assumption | (refine OkS.sto ?_ (by omega); first | assumption | (refine OkS.sto ?_ (by omega); first | assumption)))))) | exact Pfx.refl _ | (apply Pfx.snoc; repeat (first | exact Pfx.refl _ | assumption | apply Pfx.snoc)) | with_unfolding_all exact of_eq_true (eq_true rfl) | (simp only [List.length_append, List.length_cons, List.length_nil]; omega)) only [↓wpre0, ↓wpre1, ↓reduceIte, Int.reduceToNat, Nat.reduceAdd, Nat.reduceMul, Nat.reduceEqDiff, wpost0, wpost1, wpost2, wpost3, wpost4, ite_self, ite_true, ite_false, if_true, if_false, bin_lss, un_not, xbneq4, bin_neq, fr6, wrap_int, wrap_u8, iteP_yes, iteP_no, eqBeamS_r (ro := ro) hX I3b I5 hn hn (by omega), decide_true, bne_self_eq_false]
  refine cf_rel (markBeamS_c (c := 1) hX I3b hn (by omega) (by omega) (by omega)) (fun q => by cases q) ?_
  rintro r6 h6 ⟨rfl, I6, R6⟩
  have l6 := R6.1
  have IY6 := (IYa.pre p5).rng R6 (by omega)
  have IZ6 := (IY4.pre p5).rng R6 (by omega)
  simp -dsimp (disch := first | omega | assumption | (refine OkS.sto ?_ (by omega); first | assumption | (refine OkS.sto ?_ (by omega); first | assumption | (refine OkS.sto ?_ (by omega); first | assumption | (refine OkS.sto ?_ (by omega); first | assumption | (refine OkS.sto ?_ (by omega); first | assumption | (refine OkS.sto ?_ (by omega); first | assumption)))))) | exact Pfx.refl _ | (apply Pfx.snoc; repeat (first | exact Pfx.refl _ | assumption | apply Pfx.snoc)) | with_unfolding_all exact of_eq_true (eq_true rfl) | (simp only [List.length_append, List.length_cons, List.length_nil]; omega)) only [↓wpre0, ↓wpre1, ↓reduceIte, Int.reduceToNat, Nat.reduceAdd, Nat.reduceMul, Nat.reduceEqDiff, wpost0, wpost1, wpost2, wpost3, wpost4, ite_self, ite_true, ite_false, if_true, if_false, bin_lss, un_not, xbneq4, bin_neq, fr6, wrap_int, wrap_u8, iteP_yes, iteP_no, eqRO_r (ro := ro) hX IZ6 IY6 sm sm (by omega), decide_true, bne_self_eq_false]
  refine cf_rel (markRO_c (c := 1) hX IZ6 sm (by omega) (by omega) (by omega)) (fun q => by cases q) ?_
  rintro r7 h7 ⟨rfl, I7, R7⟩
  have l7 := R7.1
  have L5 := p5.len
  have IY7 := IY6.rng R7 (by omega)
  have sk : SmallR (mks 1 (farRes l n apart).length (farRes l n apart)) := by
    refine ⟨by rw [mks_len]; exact sm.1, ?_⟩
    rw [mks_len, offs_mks _ (Nat.le_refl _)]; exact sm.2
  have hk : offs (mks 1 (farRes l n apart).length (farRes l n apart)) (mks 1 (farRes l n apart).length (farRes l n apart)).length = offs (farRes l n apart) (farRes l n apart).length := by rw [mks_len, offs_mks _ (Nat.le_refl _)]
  have hh7 := heldRO_r (ro := ro) (c := 1) hX I7 mkds sk (by omega) (by omega)
  rw [hk] at hh7
  have sm2 := sm.2
  simp -dsimp (disch := first | omega | assumption | (refine OkS.sto ?_ (by omega); first | assumption | (refine OkS.sto ?_ (by omega); first | assumption | (refine OkS.sto ?_ (by omega); first | assumption | (refine OkS.sto ?_ (by omega); first | assumption | (refine OkS.sto ?_ (by omega); first | assumption | (refine OkS.sto ?_ (by omega); first | assumption)))))) | exact Pfx.refl _ | (apply Pfx.snoc; repeat (first | exact Pfx.refl _ | assumption | apply Pfx.snoc)) | with_unfolding_all exact of_eq_true (eq_true rfl) | (simp only [List.length_append, List.length_cons, List.length_nil]; omega)) only [↓wpre0, ↓wpre1, ↓reduceIte, Int.reduceToNat, Nat.reduceAdd, Nat.reduceMul, Nat.reduceEqDiff, wpost0, wpost1, wpost2, wpost3, wpost4, ite_self, ite_true, ite_false, if_true, if_false, bin_lss, un_not, xbneq4, bin_neq, fr6, wrap_int, wrap_u8, iteP_yes, iteP_no, hh7, decide_true, bne_self_eq_false]
  have hI7 : IS lo hi 4 h7 x n l := hI.pre ((((p1.trans (p2.trans (p3.trans (p4.trans p5)))).rng R6 (by omega)).rng R7 (by omega)))
  refine cf_rel (toBeamS_c hX hI7 hn (by omega)) (fun q => by cases q) ?_
  rintro r8 h8 ⟨cap8, hr8, p8, l8, I8⟩
  simp -dsimp (disch := first | omega | assumption | (refine OkS.sto ?_ (by omega); first | assumption | (refine OkS.sto ?_ (by omega); first | assumption | (refine OkS.sto ?_ (by omega); first | assumption | (refine OkS.sto ?_ (by omega); first | assumption | (refine OkS.sto ?_ (by omega); first | assumption | (refine OkS.sto ?_ (by omega); first | assumption)))))) | exact Pfx.refl _ | (apply Pfx.snoc; repeat (first | exact Pfx.refl _ | assumption | apply Pfx.snoc)) | with_unfolding_all exact of_eq_true (eq_true rfl) | (simp only [List.length_append, List.length_cons, List.length_nil]; omega)) only [↓wpre0, ↓wpre1, ↓reduceIte, Int.reduceToNat, Nat.reduceAdd, Nat.reduceMul, Nat.reduceEqDiff, wpost0, wpost1, wpost2, wpost3, wpost4, ite_self, ite_true, ite_false, if_true, if_false, bin_lss, un_not, xbneq4, bin_neq, fr6, wrap_int, wrap_u8, iteP_yes, iteP_no]
  refine cf_rel (iFar_c hX (apart := apart) I8 hn1 (by omega)) (fun q => by cases q) ?_
  intro r h9 hr
  obtain ⟨p9, y9, rfl, IY9⟩ := hr.out
  have L9 := p9.len
  have IYb := IY7.pre (p8.trans p9)
  have I7b := I7.pre (p8.trans p9)
  have hh9 := heldRO_r (ro := ro) (c := 1) hX I7b mkds sk (by omega) (by omega)
  rw [hk] at hh9
  simp -dsimp (disch := first | omega | assumption | (refine OkS.sto ?_ (by omega); first | assumption | (refine OkS.sto ?_ (by omega); first | assumption | (refine OkS.sto ?_ (by omega); first | assumption | (refine OkS.sto ?_ (by omega); first | assumption | (refine OkS.sto ?_ (by omega); first | assumption | (refine OkS.sto ?_ (by omega); first | assumption)))))) | exact Pfx.refl _ | (apply Pfx.snoc; repeat (first | exact Pfx.refl _ | assumption | apply Pfx.snoc)) | with_unfolding_all exact of_eq_true (eq_true rfl) | (simp only [List.length_append, List.length_cons, List.length_nil]; omega)) only [↓wpre0, ↓wpre1, ↓reduceIte, Int.reduceToNat, Nat.reduceAdd, Nat.reduceMul, Nat.reduceEqDiff, wpost0, wpost1, wpost2, wpost3, wpost4, ite_self, ite_true, ite_false, if_true, if_false, bin_lss, un_not, xbneq4, bin_neq, fr6, wrap_int, wrap_u8, iteP_yes, iteP_no, eqRO_r (ro := ro) hX IY9 IYb sm sm (by omega), hh9, decide_true, bne_self_eq_false]
end Go.Proofs.Ytbakaopgdcojfaa.Sim
