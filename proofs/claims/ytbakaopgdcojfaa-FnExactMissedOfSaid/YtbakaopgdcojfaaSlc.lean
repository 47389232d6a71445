/- How late the jobs of slots are: what the reference says. Lemmas only; no condition. -/
import Derived.Test.YtbakaopgdcojfaaSlb
set_option linter.unusedSimpArgs false
set_option linter.unusedVariables false
set_option maxRecDepth 8000
namespace Go.Proofs.Ytbakaopgdcojfaa.Sim
open Go Go.RowKit
variable {ro : Nat} {X : Ext}
/-- How late a job is. -/
def lateI (l : List Int) (m : Nat) (s : List Int) (i : Nat) : Int := max 0 (nth s (i * 2 + 1) + nth l ((nth s (i * 2)).toNat * 4 + 2) - (cn m s i (nth s (i * 2)) + 1) * nth l ((nth s (i * 2)).toNat * 4 + 3))
def lateL (l : List Int) (m : Nat) (s : List Int) (i : Nat) : List Int := (List.range i).map (lateI l m s)
theorem lateL_succ (l : List Int) (m : Nat) (s : List Int) (i : Nat) : vints (lateL l m s (i + 1)) = vints (lateL l m s i) ++ [.int .i64 (lateI l m s i)] := by
  simp [lateL, List.range_succ, vints]
theorem lateL_len (l : List Int) (m : Nat) (s : List Int) (i : Nat) : (lateL l m s i).length = i := by simp [lateL]
noncomputable def plB (n : Nat) (l : List Int) (m : Nat) (s : List Int) : Bool := isB n l && slB n l m s
/-- Numbers that are told if something holds. -/
def cond (b : Bool) (L : List Int) : List Int := if b then L else []
theorem cond_len {b : Bool} {L : List Int} {k : Nat} (h : L.length ≤ k) : (cond b L).length ≤ k := by
  unfold cond
  split
  · exact h
  · exact Nat.zero_le _
/-- What is left: nothing or a list. -/
def ResL (h h' : Heap) (r : Value) (ok : Bool) (L : List Int) : Prop := Pfx h h' ∧ ∃ y, r = .tuple ⟨[y, .bool ok]⟩ ∧ IS h.length h'.length 1 h' y (cond ok L).length (cond ok L)
theorem resL_no {h h' : Heap} {L : List Int} {ok : Bool} (p : Pfx h h') (hk : ok = false) : ResL h h' (.tuple ⟨[.slice none 0 0, .bool false]⟩) ok L := by
  subst hk
  exact ⟨p, _, rfl, rfl, .inl ⟨rfl, rfl⟩⟩
theorem resL_yes {h h' : Heap} {L : List Int} {ok : Bool} {y : Value} {lo n : Nat} {t : TypeId} (p : Pfx h h') (hk : ok = true) (hlo : h.length ≤ lo) (g : VG lo t 1 h' y n (vints L)) : ResL h h' (.tuple ⟨[y, .bool true]⟩) ok L := by
  subst hk
  have hn : L.length = n := by have := g.1; rw [vints_len] at this; omega
  subst hn
  have i1 := g.vsl.is
  refine ⟨p, _, rfl, by show L.length = L.length * 1; omega, ?_⟩
  show (L.length = 0 ∧ _) ∨ _
  exact i1.2.imp id fun ⟨b, o, cap, Bk, q1, q2, q3⟩ => ⟨b, o, cap, Bk, q1, by omega, q3⟩
set_option maxHeartbeats 4000000 in
theorem sLate_c (hX : XN X) {lo hi lo2 hi2 n m : Nat} {l s : List Int} {x y : Value} {h : Heap} (hI : IS lo hi 4 h x n l) (hS : IS lo2 hi2 2 h y m s) (hn : n ≤ 1048576) (hm : m ≤ 1048576) (hro : ro ≤ h.length) :
    CallR Try.prog ro X 42 [x, y] h (fun r h' => ResL h h' r (plB n l m s) (lateL l m s m)) := by
  refine callR_of (hX _ rfl) Try.func42 rfl (by kernel_rfl) (Nat.le_of_ble_eq_true rfl) ?_
  cases hb : isB n l with
  | false =>
    have hp : plB n l m s = false := by simp [plB, hb]
    (repeat' first | simp -dsimp (disch := first | omega | assumption | (refine OkS.sto ?_ (by omega); first | assumption | (refine OkS.sto ?_ (by omega); first | assumption | (refine OkS.sto ?_ (by omega); first | assumption | (refine OkS.sto ?_ (by omega); first | assumption | (refine OkS.sto ?_ (by omega); first | assumption | (refine OkS.sto ?_ (by omega); first | assumption)))))) | exact Pfx.refl _ | (apply Pfx.snoc; repeat (first | exact Pfx.refl _ | assumption | apply Pfx.snoc)) | with_unfolding_all exact of_eq_true (eq_true rfl) | (simp only [List.length_append, List.length_cons, List.length_nil]; omega)) only [↓wpre0, ↓wpre1, ↓reduceIte, Int.reduceToNat, Nat.reduceAdd, Nat.reduceMul, Nat.reduceEqDiff, wpost0, wpost1, wpost2, wpost3, wpost4, ite_self, ite_true, ite_false, if_true, if_false, un_not, xlen42, xmk63, xbls63_0, xbls63_1, xlen56, bin_lss, xiad56, xfad115_0, xld2, xiad42, xld98, tze98, xst98, xiad63, bin_add, xst2, xfad115_1, xfad98_1, xfad98_2, bin_mul, bin_sub, fr42, wrap_int, wrap_u8, iteP_yes, iteP_no, l09Is_r hX hI hn hro, hb] | refine iteP_two (fun hc hd => ?_) (fun hc hd => ?_) | refine iteP_intro (fun hc => ?_) (fun hc => ?_))
    exact resL_no (Pfx.refl _) hp
  | true =>
  cases hsb : slB n l m s with
  | false =>
    have hp : plB n l m s = false := by simp [plB, hb, hsb]
    (repeat' first | simp -dsimp (disch := first | omega | assumption | (refine OkS.sto ?_ (by omega); first | assumption | (refine OkS.sto ?_ (by omega); first | assumption | (refine OkS.sto ?_ (by omega); first | assumption | (refine OkS.sto ?_ (by omega); first | assumption | (refine OkS.sto ?_ (by omega); first | assumption | (refine OkS.sto ?_ (by omega); first | assumption)))))) | exact Pfx.refl _ | (apply Pfx.snoc; repeat (first | exact Pfx.refl _ | assumption | apply Pfx.snoc)) | with_unfolding_all exact of_eq_true (eq_true rfl) | (simp only [List.length_append, List.length_cons, List.length_nil]; omega)) only [↓wpre0, ↓wpre1, ↓reduceIte, Int.reduceToNat, Nat.reduceAdd, Nat.reduceMul, Nat.reduceEqDiff, wpost0, wpost1, wpost2, wpost3, wpost4, ite_self, ite_true, ite_false, if_true, if_false, un_not, xlen42, xmk63, xbls63_0, xbls63_1, xlen56, bin_lss, xiad56, xfad115_0, xld2, xiad42, xld98, tze98, xst98, xiad63, bin_add, xst2, xfad115_1, xfad98_1, xfad98_2, bin_mul, bin_sub, fr42, wrap_int, wrap_u8, iteP_yes, iteP_no, l09Is_r hX hI hn hro, hb, l09Slots_r hX hI hS hb hm hro, hsb] | refine iteP_two (fun hc hd => ?_) (fun hc hd => ?_) | refine iteP_intro (fun hc => ?_) (fun hc => ?_))
    exact resL_no (Pfx.refl _) hp
  | true =>
    have hp : plB n l m s = true := by simp [plB, hb, hsb]
    obtain ⟨hm2, hok⟩ := slB_ok hsb
    have hnn := isB_n hb
    (repeat' first | simp -dsimp (disch := first | omega | assumption | (refine OkS.sto ?_ (by omega); first | assumption | (refine OkS.sto ?_ (by omega); first | assumption | (refine OkS.sto ?_ (by omega); first | assumption | (refine OkS.sto ?_ (by omega); first | assumption | (refine OkS.sto ?_ (by omega); first | assumption | (refine OkS.sto ?_ (by omega); first | assumption)))))) | exact Pfx.refl _ | (apply Pfx.snoc; repeat (first | exact Pfx.refl _ | assumption | apply Pfx.snoc)) | with_unfolding_all exact of_eq_true (eq_true rfl) | (simp only [List.length_append, List.length_cons, List.length_nil]; omega)) only [↓wpre0, ↓wpre1, ↓reduceIte, Int.reduceToNat, Nat.reduceAdd, Nat.reduceMul, Nat.reduceEqDiff, wpost0, wpost1, wpost2, wpost3, wpost4, ite_self, ite_true, ite_false, if_true, if_false, un_not, xlen42, xmk63, xbls63_0, xbls63_1, xlen56, bin_lss, xiad56, xfad115_0, xld2, xiad42, xld98, tze98, xst98, xiad63, bin_add, xst2, xfad115_1, xfad98_1, xfad98_2, bin_mul, bin_sub, fr42, wrap_int, wrap_u8, iteP_yes, iteP_no, l09Is_r hX hI hn hro, hb, l09Slots_r hX hI hS hb hm hro, hsb, hI.len Try.underlying42, hS.len Try.underlying56] | refine iteP_two (fun hc hd => ?_) (fun hc hd => ?_) | refine iteP_intro (fun hc => ?_) (fun hc => ?_))
    generalize hr : Value.slice (some ⟨h.length, 0, none⟩) n n = r
    have hbj : bOf r = h.length := by rw [← hr]; rfl
    refine loop_rounds (fun k e h' => ∃ (i : Nat) (nx : List Int) (yv : Value), k = m - i ∧ i ≤ m ∧ (∀ q, q < n → nth nx q = cn m s i q) ∧ IS h.length (h.length + 1) 1 h' r n nx ∧ VG (h.length + 1) 2 1 h' yv i (vints (lateL l m s i)) ∧ Pfx h h' ∧ e 0 = x ∧ e 1 = y ∧ e 6 = r ∧ e 7 = yv ∧ e 24 = .int .i64 m ∧ e 25 = .int .i64 i) _ ⟨0, List.replicate n 0, .slice (some ⟨h.length + 1, 0, none⟩) 0 0, rfl, ?_⟩ ?_
    · simp only [updO_at, updO_not, entry_at, List.getD_cons_zero, List.getD_cons_succ, ↓reduceIte, Nat.reduceEqDiff, true_and, and_true]
      refine ⟨by omega, fun q hq => ?_, ?_, ?_, ((Pfx.refl h).snoc).snoc, by simp⟩
      · rw [cn_zero]; simp [nth, hq]
      · have := (IS.made h 2 n 1).pre (Pfx.refl (h ++ [zblk 2 (n * 1)])).snoc (h' := _ ++ [(⟨2, []⟩ : Blk)])
        rw [hr] at this
        simpa using this
      · have := vg_new (lo := h.length + 1) (t := 2) (k := 1) (h ++ [zblk 2 (n * 1)]) (by simp)
        simpa [lateL, vints] using this
    rintro k e h' ⟨i, nx, yv, hk, him, hnx, hJ, hG, hpx, g0, g1, g6, g7, g24, g25⟩
    have hl := hpx.len
    by_cases hin : i < m
    · have o := hok i hin
      have b0 := o.b0
      have b1 := o.b1
      have at0 := o.at0 hb
      have at1 := o.a1
      have bb := (o.br hb).1
      have bd := bb.d
      have bp := bb.p
      have hcr := cn_range m s i (nth s (i * 2))
      have hnl : nx.length = n := by have := hJ.1; omega
      have hyb := hG.bof
      have hpr := prod_range (c := cn m s i (nth s (i * 2)) + 1) (by omega) (by omega) (show 1 ≤ nth l ((nth s (i * 2)).toNat * 4 + 3) by omega) bp.2
      have hnb : nth nx ((nth s (i * 2)).toNat * 1) = cn m s i (nth s (i * 2)) := by
        rw [Nat.mul_one, hnx _ (by omega), Int.toNat_of_nonneg b0]
      have hcn : ∀ q, q < n → nth (nx.set ((nth s (i * 2)).toNat * 1) (cn m s i (nth s (i * 2)) + 1)) q = cn m s (i + 1) q := fun q hq => by
        rw [nth_set (by omega), cn_succ hin]
        by_cases e : (nth s (i * 2)).toNat * 1 = q
        · rw [if_pos e, if_pos (by omega), show nth s (i * 2) = (q : Int) by omega]
        · rw [if_neg e, if_neg (by omega), hnx q hq, Int.add_zero]
      -- the beam's copy
      generalize hbk : (⟨98, [.int .i64 (nth l ((nth s (i * 2)).toNat * 4)), .int .i64 (nth l ((nth s (i * 2)).toNat * 4 + 1)), .int .i64 (nth l ((nth s (i * 2)).toNat * 4 + 2)), .int .i64 (nth l ((nth s (i * 2)).toNat * 4 + 3))]⟩ : Blk) = bk
      have pA : Pfx h' (h' ++ [bk]) := (Pfx.refl h').snoc
      have lA : (h' ++ [bk]).length = h'.length + 1 := by simp
      have qA : (h' ++ [bk])[h'.length]? = some bk := by simp
      have hst : ∀ (c : Nat) (v : Int), c < n * 1 → stv Try.prog ro (h' ++ [bk]) 2 (ea r c) (.int .i64 v) = some (sto (h' ++ [bk]) r c (.int .i64 v)) := fun c v hc => stv_sto tsz2 hro (hJ.pre pA).ok hc
      have hJB := (hJ.pre pA).sto (c := (nth s (i * 2)).toNat * 1) (by omega) (cn m s i (nth s (i * 2)) + 1)
      have pB : Pfx h (sto (h' ++ [bk]) r ((nth s (i * 2)).toNat * 1) (.int .i64 (cn m s i (nth s (i * 2)) + 1))) := (hpx.trans pA).sto (by omega)
      have qB : (sto (h' ++ [bk]) r ((nth s (i * 2)).toNat * 1) (.int .i64 (cn m s i (nth s (i * 2)) + 1)))[h'.length]? = some bk := by rw [sto_get (by omega)]; exact qA
      have hGB : VG (h.length + 1) 2 1 (sto (h' ++ [bk]) r ((nth s (i * 2)).toNat * 1) (.int .i64 (cn m s i (nth s (i * 2)) + 1))) yv i (vints (lateL l m s i)) := (hG.pre pA).frame (sto_get (by omega))
      have lB : (sto (h' ++ [bk]) r ((nth s (i * 2)).toNat * 1) (.int .i64 (cn m s i (nth s (i * 2)) + 1))).length = h'.length + 1 := by rw [sto_len, lA]
      have hnb2 : nth (nx.set ((nth s (i * 2)).toNat * 1) (cn m s i (nth s (i * 2)) + 1)) ((nth s (i * 2)).toNat * 1) = cn m s i (nth s (i * 2)) + 1 := by rw [nth_set (by omega), if_pos rfl]
      generalize hBe : sto (h' ++ [bk]) r ((nth s (i * 2)).toNat * 1) (.int .i64 (cn m s i (nth s (i * 2)) + 1)) = HB at hJB pB qB hGB lB
      obtain ⟨H, ap, vg, old, hH⟩ := acc1 (P := Try.prog) (ro := ro) (T := 63) (v := .int .i64 (lateI l m s i)) tel63 tsz2 tby2 tze2 (.inl hGB) (by omega) (by omega) rfl (by omega) (by omega)
      subst hbk
      have qB' := qB
      have hval : lateI l m s i = max 0 (nth s (i * 2 + 1) + nth l ((nth s (i * 2)).toNat * 4 + 2) - (cn m s i (nth s (i * 2)) + 1) * nth l ((nth s (i * 2)).toNat * 4 + 3)) := rfl
      rw [hval] at ap
      (repeat' first | simp -dsimp (disch := first | omega | assumption | (refine OkS.sto ?_ (by omega); first | assumption | (refine OkS.sto ?_ (by omega); first | assumption | (refine OkS.sto ?_ (by omega); first | assumption | (refine OkS.sto ?_ (by omega); first | assumption | (refine OkS.sto ?_ (by omega); first | assumption | (refine OkS.sto ?_ (by omega); first | assumption)))))) | exact Pfx.refl _ | (apply Pfx.snoc; repeat (first | exact Pfx.refl _ | assumption | apply Pfx.snoc)) | with_unfolding_all exact of_eq_true (eq_true rfl) | (simp only [List.length_append, List.length_cons, List.length_nil]; omega)) only [↓wpre0, ↓wpre1, ↓reduceIte, Int.reduceToNat, Nat.reduceAdd, Nat.reduceMul, Nat.reduceEqDiff, wpost0, wpost1, wpost2, wpost3, wpost4, ite_self, ite_true, ite_false, if_true, if_false, un_not, xlen42, xmk63, xbls63_0, xbls63_1, xlen56, bin_lss, xiad56, xfad115_0, xld2, xiad42, xld98, tze98, xst98, xiad63, bin_add, xst2, xfad115_1, xfad98_1, xfad98_2, bin_mul, bin_sub, fr42, wrap_int, wrap_u8, iteP_yes, iteP_no, g0, g1, g6, g7, g24, g25, hnb, hnb2, hS.len Try.underlying56, IS.iad hS Try.underlying56 tsz115, IS.fad hS tfi115_0 (by decide), IS.fad hS tfi115_1 (by decide), IS.ld1p hS tsz2 tag2, IS.iad hI Try.underlying42 tsz98, IS.ldmp hI tsz98 tag98, IS.iad hJ Try.underlying63 tsz2, IS.ld1p hJ tsz2 tag2, hst, hBe, IS.ld1 hJB tsz2 tag2, cellb qB', l00Max_r hX, ap] | refine iteP_two (fun hc hd => ?_) (fun hc hd => ?_) | refine iteP_intro (fun hc => ?_) (fun hc => ?_))
      refine ⟨_, by omega, i + 1, _, _, rfl, by omega, hcn, hJB.frame fun b q1 q2 => old.2.1 b (by omega) (.inr (by omega)), ?_, old.1 _ pB (by omega), rfl, by simp⟩
      rw [lateL_succ]
      exact vg
    · have : i = m := by omega
      subst this
      have hnf : flat yv = false := by obtain ⟨_, b, cap, rfl, _⟩ := hG; rfl
      (repeat' first | simp -dsimp (disch := first | omega | assumption | (refine OkS.sto ?_ (by omega); first | assumption | (refine OkS.sto ?_ (by omega); first | assumption | (refine OkS.sto ?_ (by omega); first | assumption | (refine OkS.sto ?_ (by omega); first | assumption | (refine OkS.sto ?_ (by omega); first | assumption | (refine OkS.sto ?_ (by omega); first | assumption)))))) | exact Pfx.refl _ | (apply Pfx.snoc; repeat (first | exact Pfx.refl _ | assumption | apply Pfx.snoc)) | with_unfolding_all exact of_eq_true (eq_true rfl) | (simp only [List.length_append, List.length_cons, List.length_nil]; omega)) only [↓wpre0, ↓wpre1, ↓reduceIte, Int.reduceToNat, Nat.reduceAdd, Nat.reduceMul, Nat.reduceEqDiff, wpost0, wpost1, wpost2, wpost3, wpost4, ite_self, ite_true, ite_false, if_true, if_false, un_not, xlen42, xmk63, xbls63_0, xbls63_1, xlen56, bin_lss, xiad56, xfad115_0, xld2, xiad42, xld98, tze98, xst98, xiad63, bin_add, xst2, xfad115_1, xfad98_1, xfad98_2, bin_mul, bin_sub, fr42, wrap_int, wrap_u8, iteP_yes, iteP_no, g0, g1, g6, g7, g24, g25] | refine iteP_two (fun hc hd => ?_) (fun hc hd => ?_) | refine iteP_intro (fun hc => ?_) (fun hc => ?_))
      rw [endH_not (by cases hG with | intro _ g => obtain ⟨b, cap, rfl, _⟩ := g; rfl)]
      exact resL_yes hpx hp (by omega) hG
end Go.Proofs.Ytbakaopgdcojfaa.Sim
