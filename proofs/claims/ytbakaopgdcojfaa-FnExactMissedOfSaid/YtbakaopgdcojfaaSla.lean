/- Slots of beams: when they are a plan, and what the reference says of it. Lemmas only; no condition. -/
import Derived.Test.YtbakaopgdcojfaaJof
import Derived.Test.YtbakaopgdcojfaaPls
set_option linter.unusedSimpArgs false
set_option linter.unusedVariables false
set_option maxRecDepth 8000
namespace Go.Proofs.Ytbakaopgdcojfaa.Sim
open Go Go.RowKit
variable {ro : Nat} {X : Ext}
theorem IS.ld1p {P : Program} {lo hi k n : Nat} {h g : Heap} {x : Value} {l : List Int} {t : TypeId} (s : IS lo hi k h x n l) (hs : szT P t = some 1) (ha : aggT P t = false) {c : Nat} (hp : Pfx h g) (hc : c < n * k) : ld P g t (ea x c) = some (.int .i64 (nth l c)) := (s.pre hp).ld1 hs ha hc
theorem IS.ldmp {P : Program} {lo hi k n m : Nat} {h g : Heap} {x : Value} {l : List Int} {t : TypeId} (s : IS lo hi k h x n l) (hs : szT P t = some m) (ha : aggT P t = true) {c : Nat} (hp : Pfx h g) (hn : 0 < n) (hc : c + m ≤ n * k) : ld P g t (ea x c) = some (.agg ⟨ints l c m⟩) := (s.pre hp).ldm hs ha hn hc
/-- How many of the first slots have the same beam. -/
def cn (m : Nat) (s : List Int) (i : Nat) (k : Int) : Int := (cntK (keysL m s) i k : Nat)
theorem cn_zero (m : Nat) (s : List Int) (k : Int) : cn m s 0 k = 0 := by unfold cn; rw [cntK_zero]; rfl
theorem cn_succ {m i : Nat} {s : List Int} (hi : i < m) (k : Int) : cn m s (i + 1) k = cn m s i k + (if nth s (i * 2) = k then 1 else 0) := by
  unfold cn
  rw [cntK_succ (by rw [keysL_len]; exact hi), keysL_get]
  split <;> simp
theorem cn_range (m : Nat) (s : List Int) (i : Nat) (k : Int) : 0 ≤ cn m s i k ∧ cn m s i k ≤ i := by
  unfold cn
  have := cntK_le (keysL m s) i k
  omega
/-- A slot that follows the others. -/
structure SlOk (n : Nat) (l : List Int) (m : Nat) (s : List Int) (i : Nat) : Prop where
  b0 : 0 ≤ nth s (i * 2)
  b1 : nth s (i * 2) ≤ (n : Int) - 1
  a0 : cn m s i (nth s (i * 2)) * nth l ((nth s (i * 2)).toNat * 4 + 3) ≤ nth s (i * 2 + 1)
  a1 : nth s (i * 2 + 1) ≤ 100000
  gap : 0 < i → nth s ((i - 1) * 2 + 1) + nth l ((nth s ((i - 1) * 2)).toNat * 4 + 2) + swt (nth l ((nth s ((i - 1) * 2)).toNat * 4)) (nth l ((nth s ((i - 1) * 2)).toNat * 4 + 1)) (nth l ((nth s (i * 2)).toNat * 4)) (nth l ((nth s (i * 2)).toNat * 4 + 1)) ≤ nth s (i * 2 + 1)
open Classical in
noncomputable def slB (n : Nat) (l : List Int) (m : Nat) (s : List Int) : Bool := decide (m ≤ 200 ∧ ∀ i, i < m → SlOk n l m s i)
theorem slB_many {n m : Nat} {l s : List Int} (h : 200 < m) : slB n l m s = false := by simp [slB]; omega
theorem slB_false {n m i : Nat} {l s : List Int} (hi : i < m) (h : ¬ SlOk n l m s i) : slB n l m s = false := by
  simp only [slB, decide_eq_false_iff_not]
  exact fun q => h (q.2 i hi)
theorem slB_true {n m : Nat} {l s : List Int} (hm : m ≤ 200) (h : ∀ i, i < m → SlOk n l m s i) : slB n l m s = true := by
  simp only [slB, decide_eq_true_eq]
  exact ⟨hm, h⟩
theorem slB_ok {n m : Nat} {l s : List Int} (h : slB n l m s = true) : m ≤ 200 ∧ ∀ i, i < m → SlOk n l m s i := by
  simpa [slB] using h
theorem SlOk.br {n m i : Nat} {l s : List Int} (o : SlOk n l m s i) (hb : isB n l = true) : BR l (nth s (i * 2)).toNat ∧ (nth s (i * 2)).toNat < n := by
  have h0 := o.b0
  have h1 := o.b1
  exact ⟨Sim.br hb (by omega), by omega⟩
theorem prod_range {c v : Int} (hc : 0 ≤ c) (hc1 : c ≤ 1000) (hv : 1 ≤ v) (hv1 : v ≤ 10000) : 0 ≤ c * v ∧ c * v ≤ 10000000 := by
  have h1 := Int.mul_nonneg hc (show 0 ≤ v by omega)
  have h2 := Int.mul_le_mul hc1 hv1 (by omega) (by omega : (0 : Int) ≤ 1000)
  exact ⟨h1, by omega⟩
theorem SlOk.at0 {n m i : Nat} {l s : List Int} (o : SlOk n l m s i) (hb : isB n l = true) : 0 ≤ nth s (i * 2 + 1) := by
  have h1 := (o.br hb).1.d
  have h2 := (o.br hb).1.p
  have h3 := cn_range m s i (nth s (i * 2))
  have h4 := Int.mul_nonneg h3.1 (show 0 ≤ nth l ((nth s (i * 2)).toNat * 4 + 3) by omega)
  have := o.a0
  omega
set_option maxHeartbeats 4000000 in
theorem l09Slots_r (hX : XN X) {lo hi lo2 hi2 n m : Nat} {l s : List Int} {x y : Value} {h : Heap} (hI : IS lo hi 4 h x n l) (hS : IS lo2 hi2 2 h y m s) (hb : isB n l = true) (hm : m ≤ 1048576) (hro : ro ≤ h.length) : Ret Try.prog ro X 91 [x, y] h (.bool (slB n l m s)) := by
  have hn := isB_n hb
  refine ret_of (callR_of (hX _ rfl) Try.func91 rfl (by kernel_rfl) (Nat.le_of_ble_eq_true rfl) ?_)
  (repeat' first | simp -dsimp (disch := first | omega | assumption | (refine OkS.sto ?_ (by omega); first | assumption | (refine OkS.sto ?_ (by omega); first | assumption | (refine OkS.sto ?_ (by omega); first | assumption | (refine OkS.sto ?_ (by omega); first | assumption | (refine OkS.sto ?_ (by omega); first | assumption | (refine OkS.sto ?_ (by omega); first | assumption)))))) | exact Pfx.refl _ | (apply Pfx.snoc; repeat (first | exact Pfx.refl _ | assumption | apply Pfx.snoc)) | with_unfolding_all exact of_eq_true (eq_true rfl) | (simp only [List.length_append, List.length_cons, List.length_nil]; omega)) only [↓wpre0, ↓wpre1, ↓reduceIte, Int.reduceToNat, Nat.reduceAdd, Nat.reduceMul, Nat.reduceEqDiff, wpost0, wpost1, wpost2, wpost3, wpost4, ite_self, ite_true, ite_false, if_true, if_false, xlen56, bin_gtr, xlen42, xmk63, bin_lss, xiad56, xld115, tze115, xst115, xfad115_0, xld2, bin_sub, un_not, xfad115_1, xiad63, xiad42, xfad98_2, bin_mul, xfad98_1, bin_add, xfad98_0, xld96, xst2, fr91, wrap_int, wrap_u8, iteP_yes, iteP_no, hS.len Try.underlying56, hI.len Try.underlying42] | refine iteP_two (fun hc hd => ?_) (fun hc hd => ?_) | refine iteP_intro (fun hc => ?_) (fun hc => ?_))
  · rw [slB_many (by omega)]
  generalize hr : Value.slice (some ⟨h.length, 0, none⟩) n n = r
  refine loop_rounds (fun k e h' => ∃ (i : Nat) (nx : List Int), k = m - i ∧ i ≤ m ∧ (∀ j, j < i → SlOk n l m s j) ∧ (∀ q, q < n → nth nx q = cn m s i q) ∧ IS h.length (h.length + 1) 1 h' r n nx ∧ Pfx h h' ∧ e 0 = x ∧ e 1 = y ∧ e 5 = r ∧ e 16 = .int .i64 m ∧ e 17 = .int .i64 i) _ ⟨0, List.replicate n 0, rfl, ?_⟩ ?_
  · simp only [updO_at, updO_not, entry_at, List.getD_cons_zero, List.getD_cons_succ, ↓reduceIte, Nat.reduceEqDiff, true_and, and_true]
    refine ⟨by omega, fun j hj => by omega, fun q hq => ?_, ?_, (Pfx.refl h).snoc, rfl⟩
    · rw [cn_zero]; simp [nth, hq]
    · have := IS.made h 2 n 1
      rw [hr] at this
      simpa using this
  · rintro k e h' ⟨i, nx, hk, him, hall, hnx, hJ, hpx, g0, g1, g5, g16, g17⟩
    have hl := hpx.len
    have hI' := hI.pre hpx
    have hS' := hS.pre hpx
    have hcr := cn_range m s i (nth s (i * 2))
    by_cases hin : i < m
    · have hst : ∀ (g : Heap) (c : Nat) (v : Int), Pfx h' g → c < n * 1 → stv Try.prog ro g 2 (ea r c) (.int .i64 v) = some (sto g r c (.int .i64 v)) := fun g c v hp hc => stv_sto tsz2 hro (hJ.pre hp).ok hc
      have hc1 : ((i : Int) - 1).toNat = i - 1 := by omega
      have hge : 0 < i → nth s ((i - 1) * 2) ≤ (n : Int) - 1 ∧ 0 ≤ nth s ((i - 1) * 2) ∧ 0 ≤ nth s ((i - 1) * 2 + 1) ∧ nth s ((i - 1) * 2 + 1) ≤ 100000 ∧ BR l (nth s ((i - 1) * 2)).toNat := fun q => by
        have o := hall (i - 1) (by omega)
        exact ⟨o.b1, o.b0, o.at0 hb, o.a1, (o.br hb).1⟩
      have hgu : 0 < i → -64 ≤ nth l ((nth s ((i - 1) * 2)).toNat * 4) ∧ nth l ((nth s ((i - 1) * 2)).toNat * 4) ≤ 64 := fun q => (hge q).2.2.2.2.u
      have hgv : 0 < i → -64 ≤ nth l ((nth s ((i - 1) * 2)).toNat * 4 + 1) ∧ nth l ((nth s ((i - 1) * 2)).toNat * 4 + 1) ≤ 64 := fun q => (hge q).2.2.2.2.v
      have hgd : 0 < i → 1 ≤ nth l ((nth s ((i - 1) * 2)).toNat * 4 + 2) ∧ nth l ((nth s ((i - 1) * 2)).toNat * 4 + 2) ≤ 10000 := fun q => (hge q).2.2.2.2.d
      by_cases hbr : 0 ≤ nth s (i * 2) ∧ nth s (i * 2) ≤ (n : Int) - 1
      · have b2 := br hb (i := (nth s (i * 2)).toNat) (by omega)
        have hbb : (decide (0 ≤ nth s (i * 2)) && decide (nth s (i * 2) ≤ (n : Int) - 1)) = true := by simp [hbr]
        have hbu := b2.u
        have hbv := b2.v
        have hbd := b2.d
        have hbp := b2.p
        have hnb : nth nx ((nth s (i * 2)).toNat * 1) = cn m s i (nth s (i * 2)) := by
          rw [Nat.mul_one, hnx _ (by omega), Int.toNat_of_nonneg hbr.1]
        have hpr := prod_range hcr.1 (by omega) (show 1 ≤ nth l ((nth s (i * 2)).toNat * 4 + 3) by omega) hbp.2
        have hsw : 0 < i → 0 ≤ swt (nth l ((nth s ((i - 1) * 2)).toNat * 4)) (nth l ((nth s ((i - 1) * 2)).toNat * 4 + 1)) (nth l ((nth s (i * 2)).toNat * 4)) (nth l ((nth s (i * 2)).toNat * 4 + 1)) ∧ swt (nth l ((nth s ((i - 1) * 2)).toNat * 4)) (nth l ((nth s ((i - 1) * 2)).toNat * 4 + 1)) (nth l ((nth s (i * 2)).toNat * 4)) (nth l ((nth s (i * 2)).toNat * 4 + 1)) ≤ 64 := fun q => swt_range (hgu q) (hgv q) hbu hbv
        have hsl : ∀ o : SlOk n l m s i, ∀ j, j < i + 1 → SlOk n l m s j := fun o j hj => by
          rcases Nat.lt_or_eq_of_le (show j ≤ i by omega) with q | q
          · exact hall j q
          · rw [q]; exact o
        have hnl : nx.length = n := by have := hJ.1; omega
        have hcn : ∀ q, q < n → nth (nx.set ((nth s (i * 2)).toNat * 1) (cn m s i (nth s (i * 2)) + 1)) q = cn m s (i + 1) q := fun q hq => by
          rw [nth_set (by omega), cn_succ hin]
          by_cases e : (nth s (i * 2)).toNat * 1 = q
          · rw [if_pos e, if_pos (by omega), show nth s (i * 2) = (q : Int) by omega]
          · rw [if_neg e, if_neg (by omega), hnx q hq, Int.add_zero]
        have hbj : bOf r = h.length := by rw [← hr]; rfl
        have hJg : ∀ (g : Heap) (v : Int), Pfx h' g → IS h.length (h.length + 1) 1 (sto g r ((nth s (i * 2)).toNat * 1) (.int .i64 v)) r n (nx.set ((nth s (i * 2)).toNat * 1) v) := fun g v p => (hJ.pre p).sto (by omega) v
        have hPg : ∀ (g : Heap) (v : Value), Pfx h' g → Pfx h (sto g r ((nth s (i * 2)).toNat * 1) v) := fun g v p => (hpx.trans p).sto (by omega)
        (repeat' first | simp -dsimp (disch := first | omega | assumption | (refine OkS.sto ?_ (by omega); first | assumption | (refine OkS.sto ?_ (by omega); first | assumption | (refine OkS.sto ?_ (by omega); first | assumption | (refine OkS.sto ?_ (by omega); first | assumption | (refine OkS.sto ?_ (by omega); first | assumption | (refine OkS.sto ?_ (by omega); first | assumption)))))) | exact Pfx.refl _ | (apply Pfx.snoc; repeat (first | exact Pfx.refl _ | assumption | apply Pfx.snoc)) | with_unfolding_all exact of_eq_true (eq_true rfl) | (simp only [List.length_append, List.length_cons, List.length_nil]; omega)) only [↓wpre0, ↓wpre1, ↓reduceIte, Int.reduceToNat, Nat.reduceAdd, Nat.reduceMul, Nat.reduceEqDiff, wpost0, wpost1, wpost2, wpost3, wpost4, ite_self, ite_true, ite_false, if_true, if_false, xlen56, bin_gtr, xlen42, xmk63, bin_lss, xiad56, xld115, tze115, xst115, xfad115_0, xld2, bin_sub, un_not, xfad115_1, xiad63, xiad42, xfad98_2, bin_mul, xfad98_1, bin_add, xfad98_0, xld96, xst2, fr91, wrap_int, wrap_u8, iteP_yes, iteP_no, g0, g1, g5, g16, g17, hnb, hc1, hbb, hS'.len Try.underlying56, hI'.len Try.underlying42, IS.iad hS' Try.underlying56 tsz115, IS.ldmp hS tsz115 tag115, l00In_r hX, IS.iad hI' Try.underlying42 tsz98, IS.fad hI' tfi98_2 (by decide), IS.fad hI' tfi98_0 (by decide), IS.fad hI' tfi98_1 (by decide), IS.ld1p hI tsz2 tag2, IS.ldmp hI tsz96 tag96, IS.iad hJ Try.underlying63 tsz2, IS.ld1p hJ tsz2 tag2, hst, l09Switch_r hX] | refine iteP_two (fun hc hd => ?_) (fun hc hd => ?_) | refine iteP_intro (fun hc => ?_) (fun hc => ?_))
        all_goals first
          | (rw [slB_false hin (fun o => by
              have h1 := o.b0
              have h2 := o.b1
              have h3 := o.a0
              have h4 := o.a1
              have h5 := o.gap
              omega)]; done)
          | exact ⟨_, by omega, i + 1, _, rfl, by omega, hsl ⟨by omega, by omega, by omega, by omega, by omega⟩, hcn, hJg _ _ (by repeat (first | exact Pfx.refl _ | apply Pfx.snoc)), hPg _ _ (by repeat (first | exact Pfx.refl _ | apply Pfx.snoc)), by simp⟩
      · (repeat' first | simp -dsimp (disch := first | omega | assumption | (refine OkS.sto ?_ (by omega); first | assumption | (refine OkS.sto ?_ (by omega); first | assumption | (refine OkS.sto ?_ (by omega); first | assumption | (refine OkS.sto ?_ (by omega); first | assumption | (refine OkS.sto ?_ (by omega); first | assumption | (refine OkS.sto ?_ (by omega); first | assumption)))))) | exact Pfx.refl _ | (apply Pfx.snoc; repeat (first | exact Pfx.refl _ | assumption | apply Pfx.snoc)) | with_unfolding_all exact of_eq_true (eq_true rfl) | (simp only [List.length_append, List.length_cons, List.length_nil]; omega)) only [↓wpre0, ↓wpre1, ↓reduceIte, Int.reduceToNat, Nat.reduceAdd, Nat.reduceMul, Nat.reduceEqDiff, wpost0, wpost1, wpost2, wpost3, wpost4, ite_self, ite_true, ite_false, if_true, if_false, xlen56, bin_gtr, xlen42, xmk63, bin_lss, xiad56, xld115, tze115, xst115, xfad115_0, xld2, bin_sub, un_not, xfad115_1, xiad63, xiad42, xfad98_2, bin_mul, xfad98_1, bin_add, xfad98_0, xld96, xst2, fr91, wrap_int, wrap_u8, iteP_yes, iteP_no, g0, g1, g5, g16, g17, hS'.len Try.underlying56, hI'.len Try.underlying42, IS.iad hS' Try.underlying56 tsz115, IS.ldmp hS tsz115 tag115, l00In_r hX] | refine iteP_two (fun hc hd => ?_) (fun hc hd => ?_) | refine iteP_intro (fun hc => ?_) (fun hc => ?_))
        all_goals rw [slB_false hin (fun o => hbr ⟨o.b0, o.b1⟩)]
    · have : i = m := by omega
      subst this
      (repeat' first | simp -dsimp (disch := first | omega | assumption | (refine OkS.sto ?_ (by omega); first | assumption | (refine OkS.sto ?_ (by omega); first | assumption | (refine OkS.sto ?_ (by omega); first | assumption | (refine OkS.sto ?_ (by omega); first | assumption | (refine OkS.sto ?_ (by omega); first | assumption | (refine OkS.sto ?_ (by omega); first | assumption)))))) | exact Pfx.refl _ | (apply Pfx.snoc; repeat (first | exact Pfx.refl _ | assumption | apply Pfx.snoc)) | with_unfolding_all exact of_eq_true (eq_true rfl) | (simp only [List.length_append, List.length_cons, List.length_nil]; omega)) only [↓wpre0, ↓wpre1, ↓reduceIte, Int.reduceToNat, Nat.reduceAdd, Nat.reduceMul, Nat.reduceEqDiff, wpost0, wpost1, wpost2, wpost3, wpost4, ite_self, ite_true, ite_false, if_true, if_false, xlen56, bin_gtr, xlen42, xmk63, bin_lss, xiad56, xld115, tze115, xst115, xfad115_0, xld2, bin_sub, un_not, xfad115_1, xiad63, xiad42, xfad98_2, bin_mul, xfad98_1, bin_add, xfad98_0, xld96, xst2, fr91, wrap_int, wrap_u8, iteP_yes, iteP_no, g0, g1, g5, g16, g17] | refine iteP_two (fun hc hd => ?_) (fun hc hd => ?_) | refine iteP_intro (fun hc => ?_) (fun hc => ?_))
      all_goals rw [slB_true (by omega) hall]
end Go.Proofs.Ytbakaopgdcojfaa.Sim
