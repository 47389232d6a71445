/- Directions and numbers that a law draws; wrong symbols. Lemmas only; no condition. -/
import Derived.Test.YtelogajobjflfaaSnc
import Derived.Test.YtelogajobjflfaaDrr
import Derived.Test.YtelogajobjflfaaMsc
import Derived.Test.YtelogajobjflfaaSkx
set_option linter.unusedSimpArgs false
set_option linter.unusedVariables false
set_option maxRecDepth 8000
namespace Go.Proofs.Ytelogajobjflfaa.Sim
open Go Go.RowKit Fl
variable {ro lo hi lo' hi' n : Nat} {X : Ext} {h : Heap} {x y : Value} {l : List Int} {u v : Int} {g s0 s k lev : Nat} {cd : List UInt8}
theorem xbld107_0_1_2 {u v s : Int} {g : Nat} : bld Try.prog 107 [(0, .agg ⟨[.int .i64 u, .int .i64 v]⟩), (1, .float .f32 g), (2, .int .i64 s)] = some (.agg ⟨[.int .i64 u, .int .i64 v, .float .f32 g, .int .i64 s]⟩) := by kernel_rfl
theorem r8Long_r (hX : X 40 = none) {lo hi lo' hi' n n' : Nat} {x y : Value} {L M : List Value} {h : Heap} (hV : VS lo hi 1 h x n L) (hU : VS lo' hi' 1 h y n' M) (hn : n ≤ 140737488355328) (hn' : n' ≤ 140737488355328) : Ret Try.prog ro X 40 [x, y] h (.bool (decide (48 < n) || decide (48 < n'))) := by
  refine ret_of (callR_of hX Try.func40 rfl (by kernel_rfl) (Nat.le_of_ble_eq_true rfl) ?_)
  (repeat' first | simp -dsimp (disch := first | omega | assumption | (refine OkS.sto ?_ (by omega); first | assumption | (refine OkS.sto ?_ (by omega); first | assumption | (refine OkS.sto ?_ (by omega); first | assumption | (refine OkS.sto ?_ (by omega); first | assumption | (refine OkS.sto ?_ (by omega); first | assumption | (refine OkS.sto ?_ (by omega); first | assumption)))))) | exact Pfx.refl _ | (apply Pfx.snoc; repeat (first | exact Pfx.refl _ | assumption | apply Pfx.snoc)) | with_unfolding_all exact of_eq_true (eq_true rfl) | (simp only [List.length_append, List.length_cons, List.length_nil]; omega)) only [↓wpre0, ↓wpre1, ↓reduceIte, Int.reduceToNat, Nat.reduceAdd, Nat.reduceMul, Nat.reduceEqDiff, wpost0, wpost1, wpost2, wpost3, wpost4, ite_self, ite_true, ite_false, if_true, if_false, xlen22, bin_gtr, fr40, wrap_int, wrap_u8, iteP_yes, iteP_no, hV.len Try.underlying22, hU.len Try.underlying22] | refine iteP_two (fun hc hd => ?_) (fun hc hd => ?_) | refine iteP_intro (fun hc => ?_) (fun hc => ?_))
  all_goals first
    | (rw [decide_eq_true (p := 48 < n) (by omega)]; rfl)
    | (rw [decide_eq_false (p := 48 < n) (by omega), Bool.false_or]; congr 1; exact decide_eq_decide.2 (by omega))
theorem r8At_r (hX : X 47 = none) {lo hi : Nat} {x : Value} {cd : List UInt8} {h : Heap} {i n : Int} (hV : VS lo hi 1 h x cd.length (cd.map u8v)) (h0 : 0 ≤ i) (h1 : i ≤ 100000) (hn : 2 ≤ n) (hn2 : n ≤ 100000) (hl : cd.length ≤ 1099511627776) : ∃ v : Nat, (v : Int) < n ∧ Ret Try.prog ro X 47 [x, .int .i64 i, .int .i64 n] h (.int .i64 v) := by
  by_cases hin : i < cd.length
  · obtain ⟨m, rfl⟩ : ∃ m : Nat, i = m := ⟨i.toNat, by omega⟩
    have hm : m < cd.length := by omega
    have hld : ld Try.prog h 5 (ea x (m * 1)) = some (.int .u8 ((cd[m]'hm).toNat : Int)) := by
      rw [hV.ld1 tsz5 tag5 (by omega), Nat.mul_one]
      simp [vth, u8v, List.getD_eq_getElem?_getD, hm]
    have hb := (cd[m]'hm).toNat_lt
    generalize (cd[m]'hm).toNat = w at *
    have hmod : ((w : Int).tmod n) = ((w % n.toNat : Nat) : Int) := by
      rw [Int.tmod_eq_emod_of_nonneg (by omega)]
      conv => lhs; rw [show n = (n.toNat : Int) by omega]
      rfl
    have hlt : w % n.toNat < n.toNat := Nat.mod_lt _ (by omega)
    refine ⟨w % n.toNat, by omega, ?_⟩
    refine ret_of (callR_of hX Try.func47 rfl (by kernel_rfl) (Nat.le_of_ble_eq_true rfl) ?_)
    (repeat' first | simp -dsimp (disch := first | omega | assumption | (refine OkS.sto ?_ (by omega); first | assumption | (refine OkS.sto ?_ (by omega); first | assumption | (refine OkS.sto ?_ (by omega); first | assumption | (refine OkS.sto ?_ (by omega); first | assumption | (refine OkS.sto ?_ (by omega); first | assumption | (refine OkS.sto ?_ (by omega); first | assumption)))))) | exact Pfx.refl _ | (apply Pfx.snoc; repeat (first | exact Pfx.refl _ | assumption | apply Pfx.snoc)) | with_unfolding_all exact of_eq_true (eq_true rfl) | (simp only [List.length_append, List.length_cons, List.length_nil]; omega)) only [↓wpre0, ↓wpre1, ↓reduceIte, Int.reduceToNat, Nat.reduceAdd, Nat.reduceMul, Nat.reduceEqDiff, wpost0, wpost1, wpost2, wpost3, wpost4, ite_self, ite_true, ite_false, if_true, if_false, bin_leq, xlen22, bin_geq, xiad22, xld5, xcv5_2, bin_rem, fr47, wrap_int, wrap_u8, iteP_yes, iteP_no, hV.len Try.underlying22, hV.iad Try.underlying22 tsz5, Int.toNat_natCast, hld, bin_rem, hmod] | refine iteP_two (fun hc hd => ?_) (fun hc hd => ?_) | refine iteP_intro (fun hc => ?_) (fun hc => ?_))
  · refine ⟨0, by omega, ?_⟩
    refine ret_of (callR_of hX Try.func47 rfl (by kernel_rfl) (Nat.le_of_ble_eq_true rfl) ?_)
    (repeat' first | simp -dsimp (disch := first | omega | assumption | (refine OkS.sto ?_ (by omega); first | assumption | (refine OkS.sto ?_ (by omega); first | assumption | (refine OkS.sto ?_ (by omega); first | assumption | (refine OkS.sto ?_ (by omega); first | assumption | (refine OkS.sto ?_ (by omega); first | assumption | (refine OkS.sto ?_ (by omega); first | assumption)))))) | exact Pfx.refl _ | (apply Pfx.snoc; repeat (first | exact Pfx.refl _ | assumption | apply Pfx.snoc)) | with_unfolding_all exact of_eq_true (eq_true rfl) | (simp only [List.length_append, List.length_cons, List.length_nil]; omega)) only [↓wpre0, ↓wpre1, ↓reduceIte, Int.reduceToNat, Nat.reduceAdd, Nat.reduceMul, Nat.reduceEqDiff, wpost0, wpost1, wpost2, wpost3, wpost4, ite_self, ite_true, ite_false, if_true, if_false, bin_leq, xlen22, bin_geq, xiad22, xld5, xcv5_2, bin_rem, fr47, wrap_int, wrap_u8, iteP_yes, iteP_no, hV.len Try.underlying22] | refine iteP_two (fun hc hd => ?_) (fun hc hd => ?_) | refine iteP_intro (fun hc => ?_) (fun hc => ?_))
    rfl
set_option maxHeartbeats 2000000 in
theorem EightD_c (hX : XN X) (hV : VS lo hi 1 h x n (cd.map u8v)) (hro : ro ≤ h.length) (hhi : hi ≤ h.length) (hl : cd.length ≤ 1099511627776) :
    CallR Try.prog ro X 71 [x] h (fun r h' => ∃ a b : Nat, a < 91 ∧ b < 91 ∧ r = .agg ⟨[.int .i64 ((a : Int) - 45), .int .i64 ((b : Int) - 45)]⟩ ∧ h' = h) := by
  refine callR_of (hX _ rfl) Try.func71 rfl (by kernel_rfl) (Nat.le_of_ble_eq_true rfl) ?_
  (repeat' first | simp -dsimp (disch := first | omega | assumption | (refine OkS.sto ?_ (by omega); first | assumption | (refine OkS.sto ?_ (by omega); first | assumption | (refine OkS.sto ?_ (by omega); first | assumption | (refine OkS.sto ?_ (by omega); first | assumption | (refine OkS.sto ?_ (by omega); first | assumption | (refine OkS.sto ?_ (by omega); first | assumption)))))) | exact Pfx.refl _ | (apply Pfx.snoc; repeat (first | exact Pfx.refl _ | assumption | apply Pfx.snoc)) | with_unfolding_all exact of_eq_true (eq_true rfl) | (simp only [List.length_append, List.length_cons, List.length_nil]; omega)) only [↓wpre0, ↓wpre1, ↓reduceIte, Int.reduceToNat, Nat.reduceAdd, Nat.reduceMul, Nat.reduceEqDiff, wpost0, wpost1, wpost2, wpost3, wpost4, ite_self, ite_true, ite_false, if_true, if_false, tze62, bin_sub, xbld62_0, xst62, xfad62_1, xst2, xld62, fr71, wrap_int, wrap_u8, iteP_yes, iteP_no] | refine iteP_two (fun hc hd => ?_) (fun hc hd => ?_) | refine iteP_intro (fun hc => ?_) (fun hc => ?_))
  have p0 : Pfx h (h ++ [(⟨62, [.int .i64 0, .int .i64 0]⟩ : Blk)]) := (Pfx.refl h).snoc
  have l0 : (h ++ [(⟨62, [.int .i64 0, .int .i64 0]⟩ : Blk)]).length = h.length + 1 := by simp
  refine cf_rel (From_c (hX _ rfl) (hV.pre p0) (by omega)) (fun q => by cases q) ?_
  rintro r H1 ⟨rfl, p1, l1, S1⟩
  rw [l0] at l1 S1
  (repeat' first | simp -dsimp (disch := first | omega | assumption | (refine OkS.sto ?_ (by omega); first | assumption | (refine OkS.sto ?_ (by omega); first | assumption | (refine OkS.sto ?_ (by omega); first | assumption | (refine OkS.sto ?_ (by omega); first | assumption | (refine OkS.sto ?_ (by omega); first | assumption | (refine OkS.sto ?_ (by omega); first | assumption)))))) | exact Pfx.refl _ | (apply Pfx.snoc; repeat (first | exact Pfx.refl _ | assumption | apply Pfx.snoc)) | with_unfolding_all exact of_eq_true (eq_true rfl) | (simp only [List.length_append, List.length_cons, List.length_nil]; omega)) only [↓wpre0, ↓wpre1, ↓reduceIte, Int.reduceToNat, Nat.reduceAdd, Nat.reduceMul, Nat.reduceEqDiff, wpost0, wpost1, wpost2, wpost3, wpost4, ite_self, ite_true, ite_false, if_true, if_false, tze62, bin_sub, xbld62_0, xst62, xfad62_1, xst2, xld62, fr71, wrap_int, wrap_u8, iteP_yes, iteP_no, l0] | refine iteP_two (fun hc hd => ?_) (fun hc hd => ?_) | refine iteP_intro (fun hc => ?_) (fun hc => ?_))
  refine cf_rel (pick_c (hX _ rfl) (hX _ rfl) (n := 91) S1 (by omega) (by omega) (by omega) hl (by omega)) (fun q => by cases q) ?_
  rintro r H2 ⟨a, rfl, _, ha, S2, o2⟩
  have ha' := ha (by omega)
  have l2 := o2.1
  (repeat' first | simp -dsimp (disch := first | omega | assumption | (refine OkS.sto ?_ (by omega); first | assumption | (refine OkS.sto ?_ (by omega); first | assumption | (refine OkS.sto ?_ (by omega); first | assumption | (refine OkS.sto ?_ (by omega); first | assumption | (refine OkS.sto ?_ (by omega); first | assumption | (refine OkS.sto ?_ (by omega); first | assumption)))))) | exact Pfx.refl _ | (apply Pfx.snoc; repeat (first | exact Pfx.refl _ | assumption | apply Pfx.snoc)) | with_unfolding_all exact of_eq_true (eq_true rfl) | (simp only [List.length_append, List.length_cons, List.length_nil]; omega)) only [↓wpre0, ↓wpre1, ↓reduceIte, Int.reduceToNat, Nat.reduceAdd, Nat.reduceMul, Nat.reduceEqDiff, wpost0, wpost1, wpost2, wpost3, wpost4, ite_self, ite_true, ite_false, if_true, if_false, tze62, bin_sub, xbld62_0, xst62, xfad62_1, xst2, xld62, fr71, wrap_int, wrap_u8, iteP_yes, iteP_no, l0] | refine iteP_two (fun hc hd => ?_) (fun hc hd => ?_) | refine iteP_intro (fun hc => ?_) (fun hc => ?_))
  have p2 : Pfx H2 (H2 ++ [(⟨62, [.int .i64 ((a : Int) - 45), .int .i64 0]⟩ : Blk)]) := (Pfx.refl H2).snoc
  have l3 : (H2 ++ [(⟨62, [.int .i64 ((a : Int) - 45), .int .i64 0]⟩ : Blk)]).length = H2.length + 1 := by simp
  refine cf_rel (pick_c (hX _ rfl) (hX _ rfl) (n := 91) (S2.pre p2) (by omega) (by omega) (by omega) hl (by omega)) (fun q => by cases q) ?_
  rintro r H4 ⟨b, rfl, _, hb, S4, o4⟩
  have hb' := hb (by omega)
  have l4 := o4.1
  have D4 : H4[H2.length]? = some ⟨62, [.int .i64 ((a : Int) - 45), .int .i64 0]⟩ := by
    rw [o4.2 _ (by omega)]; exact get_last rfl
  have P4 : put ro H4 H2.length 1 1 (.int .i64 ((b : Int) - 45)) = some (H4.set H2.length ⟨62, [.int .i64 ((a : Int) - 45), .int .i64 ((b : Int) - 45)]⟩) := putb (n := 1) (o := 1) D4 (by omega) rfl (by simp) rfl
  have C5 : cells (H4.set H2.length ⟨62, [.int .i64 ((a : Int) - 45), .int .i64 ((b : Int) - 45)]⟩) H2.length 0 2 = some (.agg ⟨[.int .i64 ((a : Int) - 45), .int .i64 ((b : Int) - 45)]⟩) := cells_set (o := 0) (n := 2) (by omega) (by simp)
  have D5 : (H4.set H2.length ⟨62, [.int .i64 ((a : Int) - 45), .int .i64 ((b : Int) - 45)]⟩)[h.length]? = some ⟨62, [.int .i64 0, .int .i64 0]⟩ := by
    rw [set_get (by omega), o4.2 _ (by omega), p2.get (by omega), o2.2 _ (by omega), p1.get (by omega)]
    exact get_last rfl
  have P5 : put ro (H4.set H2.length ⟨62, [.int .i64 ((a : Int) - 45), .int .i64 ((b : Int) - 45)]⟩) h.length 0 2 (.agg ⟨[.int .i64 ((a : Int) - 45), .int .i64 ((b : Int) - 45)]⟩) = some ((H4.set H2.length ⟨62, [.int .i64 ((a : Int) - 45), .int .i64 ((b : Int) - 45)]⟩).set h.length ⟨62, [.int .i64 ((a : Int) - 45), .int .i64 ((b : Int) - 45)]⟩) := putb (n := 2) (o := 0) D5 (by omega) rfl (by simp) rfl
  have C6 : cells ((H4.set H2.length ⟨62, [.int .i64 ((a : Int) - 45), .int .i64 ((b : Int) - 45)]⟩).set h.length ⟨62, [.int .i64 ((a : Int) - 45), .int .i64 ((b : Int) - 45)]⟩) h.length 0 2 = some (.agg ⟨[.int .i64 ((a : Int) - 45), .int .i64 ((b : Int) - 45)]⟩) := cells_set (o := 0) (n := 2) (by rw [List.length_set]; omega) (by simp)
  have pH : Pfx h ((H4.set H2.length ⟨62, [.int .i64 ((a : Int) - 45), .int .i64 ((b : Int) - 45)]⟩).set h.length ⟨62, [.int .i64 ((a : Int) - 45), .int .i64 ((b : Int) - 45)]⟩) := by
    have q1 : Pfx h H2 := pfx_onl (p0.trans p1) o2 (by omega)
    have q2 : Pfx h H4 := pfx_onl (q1.trans p2) o4 (by omega)
    exact (q2.set (by omega)).set (Nat.le_refl _)
  have ef : endH (.agg ⟨[.int .i64 ((a : Int) - 45), .int .i64 ((b : Int) - 45)]⟩) h ((H4.set H2.length ⟨62, [.int .i64 ((a : Int) - 45), .int .i64 ((b : Int) - 45)]⟩).set h.length ⟨62, [.int .i64 ((a : Int) - 45), .int .i64 ((b : Int) - 45)]⟩) = h := endH_flat rfl pH
  (repeat' first | simp -dsimp (disch := first | omega | assumption | (refine OkS.sto ?_ (by omega); first | assumption | (refine OkS.sto ?_ (by omega); first | assumption | (refine OkS.sto ?_ (by omega); first | assumption | (refine OkS.sto ?_ (by omega); first | assumption | (refine OkS.sto ?_ (by omega); first | assumption | (refine OkS.sto ?_ (by omega); first | assumption)))))) | exact Pfx.refl _ | (apply Pfx.snoc; repeat (first | exact Pfx.refl _ | assumption | apply Pfx.snoc)) | with_unfolding_all exact of_eq_true (eq_true rfl) | (simp only [List.length_append, List.length_cons, List.length_nil]; omega)) only [↓wpre0, ↓wpre1, ↓reduceIte, Int.reduceToNat, Nat.reduceAdd, Nat.reduceMul, Nat.reduceEqDiff, wpost0, wpost1, wpost2, wpost3, wpost4, ite_self, ite_true, ite_false, if_true, if_false, tze62, bin_sub, xbld62_0, xst62, xfad62_1, xst2, xld62, fr71, wrap_int, wrap_u8, iteP_yes, iteP_no, l0, P4, C5, P5, C6, ef] | refine iteP_two (fun hc hd => ?_) (fun hc hd => ?_) | refine iteP_intro (fun hc => ?_) (fun hc => ?_))
  exact ⟨a, b, by omega, by omega, rfl⟩
/-- A complex number, turned. -/
def ngB (u : CB) : CB := ⟨cf .f32 (Op.negFloat .f32 u.a), cf .f32 (Op.negFloat .f32 u.b)⟩

def eqC (u w : CB) : Bool := fcmp .eql .f32 u.a w.a && fcmp .eql .f32 u.b w.b
theorem half_tab : ∀ a : Fin 2, fcmp .eql .f32 (hfB a) (hfB a) = true ∧ fcmp .eql .f32 (cf .f32 (Op.negFloat .f32 (hfB a))) (hfB a) = false ∧ fcmp .leq .f32 0 (hfB a) = decide (a.val = 0) := by decide +kernel
theorem hfB_two (k : Nat) : hfB k = hfB (k % 2) := by unfold hfB; rw [Nat.mod_mod]
theorem half_eq (k : Nat) : fcmp .eql .f32 (hfB k) (hfB k) = true := by rw [hfB_two]; exact (half_tab ⟨k % 2, Nat.mod_lt _ (by decide)⟩).1
theorem half_ne (k : Nat) : fcmp .eql .f32 (cf .f32 (Op.negFloat .f32 (hfB k))) (hfB k) = false := by rw [hfB_two]; exact (half_tab ⟨k % 2, Nat.mod_lt _ (by decide)⟩).2.1
theorem half_sg (k : Nat) : fcmp .leq .f32 0 (hfB k) = decide (k % 2 = 0) := by rw [hfB_two]; exact (half_tab ⟨k % 2, Nat.mod_lt _ (by decide)⟩).2.2
theorem half_pow : ∀ a b : Fin 2, fcmp .eql .f32 (nr (pwF ⟨hfB a, hfB b⟩)) 1056964608 = true := by decide +kernel
theorem syF_pow (s k : Nat) : fcmp .eql .f32 (nr (pwF (syF s k))) 1056964608 = true := by
  have := half_pow ⟨(drN s (2 * k) / 16384) % 2, Nat.mod_lt _ (by decide)⟩ ⟨(drN s (2 * k) / 8192) % 2, Nat.mod_lt _ (by decide)⟩
  simp only [← hfB_two] at this
  exact this
theorem syF_eq (s k : Nat) : eqC (syF s k) (syF s k) = true := by unfold eqC syF; simp only [half_eq, Bool.and_self]
theorem syF_ne (s k : Nat) : eqC (ngB (syF s k)) (syF s k) = false := by unfold eqC ngB syF; simp only [half_ne, Bool.false_and]
theorem signHalf_r (hX : XN X) (k : Nat) (h : Heap) : Ret Try.prog ro X 158 [.float .f32 (hfB k)] h (.float .f32 (hfB k)) := by
  have hs := half_sg k
  rcases (show k % 2 = 0 ∨ k % 2 = 1 by omega) with q | q
  · have e : hfB k = 1056964608 := by unfold hfB; rw [if_neg (by omega)]
    rw [decide_eq_true q, e] at hs
    rw [e]
    refine ret_of (callR_of (hX _ rfl) Try.func158 rfl (by kernel_rfl) (Nat.le_of_ble_eq_true rfl) ?_)
    (repeat' first | simp -dsimp (disch := first | omega | assumption | (refine OkS.sto ?_ (by omega); first | assumption | (refine OkS.sto ?_ (by omega); first | assumption | (refine OkS.sto ?_ (by omega); first | assumption | (refine OkS.sto ?_ (by omega); first | assumption | (refine OkS.sto ?_ (by omega); first | assumption | (refine OkS.sto ?_ (by omega); first | assumption)))))) | exact Pfx.refl _ | (apply Pfx.snoc; repeat (first | exact Pfx.refl _ | assumption | apply Pfx.snoc)) | with_unfolding_all exact of_eq_true (eq_true rfl) | (simp only [List.length_append, List.length_cons, List.length_nil]; omega)) only [↓wpre0, ↓wpre1, ↓reduceIte, Int.reduceToNat, Nat.reduceAdd, Nat.reduceMul, Nat.reduceEqDiff, wpost0, wpost1, wpost2, wpost3, wpost4, ite_self, ite_true, ite_false, if_true, if_false, bin_fgeq, fr158, wrap_int, wrap_u8, iteP_yes, iteP_no, hs] | refine iteP_two (fun hc hd => ?_) (fun hc hd => ?_) | refine iteP_intro (fun hc => ?_) (fun hc => ?_))
  · have e : hfB k = 3204448256 := by unfold hfB; rw [if_pos q]
    rw [decide_eq_false (by omega), e] at hs
    rw [e]
    refine ret_of (callR_of (hX _ rfl) Try.func158 rfl (by kernel_rfl) (Nat.le_of_ble_eq_true rfl) ?_)
    (repeat' first | simp -dsimp (disch := first | omega | assumption | (refine OkS.sto ?_ (by omega); first | assumption | (refine OkS.sto ?_ (by omega); first | assumption | (refine OkS.sto ?_ (by omega); first | assumption | (refine OkS.sto ?_ (by omega); first | assumption | (refine OkS.sto ?_ (by omega); first | assumption | (refine OkS.sto ?_ (by omega); first | assumption)))))) | exact Pfx.refl _ | (apply Pfx.snoc; repeat (first | exact Pfx.refl _ | assumption | apply Pfx.snoc)) | with_unfolding_all exact of_eq_true (eq_true rfl) | (simp only [List.length_append, List.length_cons, List.length_nil]; omega)) only [↓wpre0, ↓wpre1, ↓reduceIte, Int.reduceToNat, Nat.reduceAdd, Nat.reduceMul, Nat.reduceEqDiff, wpost0, wpost1, wpost2, wpost3, wpost4, ite_self, ite_true, ite_false, if_true, if_false, bin_fgeq, fr158, wrap_int, wrap_u8, iteP_yes, iteP_no, hs] | refine iteP_two (fun hc hd => ?_) (fun hc hd => ?_) | refine iteP_intro (fun hc => ?_) (fun hc => ?_))
theorem Nearest_r (hX : XN X) (s k : Nat) (h : Heap) : Ret Try.prog ro X 68 [toV (syF s k)] h (toV (syF s k)) := by
  refine ret_of (callR_of (hX _ rfl) Try.func68 rfl (by kernel_rfl) (Nat.le_of_ble_eq_true rfl) ?_)
  unfold syF
  (repeat' first | simp -dsimp (disch := first | omega | assumption | (refine OkS.sto ?_ (by omega); first | assumption | (refine OkS.sto ?_ (by omega); first | assumption | (refine OkS.sto ?_ (by omega); first | assumption | (refine OkS.sto ?_ (by omega); first | assumption | (refine OkS.sto ?_ (by omega); first | assumption | (refine OkS.sto ?_ (by omega); first | assumption)))))) | exact Pfx.refl _ | (apply Pfx.snoc; repeat (first | exact Pfx.refl _ | assumption | apply Pfx.snoc)) | with_unfolding_all exact of_eq_true (eq_true rfl) | (simp only [List.length_append, List.length_cons, List.length_nil]; omega)) only [↓wpre0, ↓wpre1, ↓reduceIte, Int.reduceToNat, Nat.reduceAdd, Nat.reduceMul, Nat.reduceEqDiff, wpost0, wpost1, wpost2, wpost3, wpost4, ite_self, ite_true, ite_false, if_true, if_false, blt_real, blt_imag, blt_cpx, fr68, wrap_int, wrap_u8, iteP_yes, iteP_no, signHalf_r hX] | refine iteP_two (fun hc hd => ?_) (fun hc hd => ?_) | refine iteP_intro (fun hc => ?_) (fun hc => ?_))
set_option maxHeartbeats 2000000 in
theorem Wrong_r (hX : XN X) {c : CB} (hR : RowB lo h y 1 (fun _ => c)) (hs : s ≤ 2147483647) (hk : k ≤ 900000) (h' : Heap) (hh : h' = h) : Ret Try.prog ro X 81 [y, .int .i64 s, .int .i64 k] h' (.tuple ⟨[.int .i64 (if eqC c (syF s k) = true then 0 else 1), .bool true]⟩) := by
  subst hh
  have e1 : (k : Int) + ((1 : Nat) : Int) - 1 = (k : Int) := by omega
  refine ret_of (callR_of (hX _ rfl) Try.func81 rfl (by kernel_rfl) (Nat.le_of_ble_eq_true rfl) ?_)
  (repeat' first | simp -dsimp (disch := first | omega | assumption | (refine OkS.sto ?_ (by omega); first | assumption | (refine OkS.sto ?_ (by omega); first | assumption | (refine OkS.sto ?_ (by omega); first | assumption | (refine OkS.sto ?_ (by omega); first | assumption | (refine OkS.sto ?_ (by omega); first | assumption | (refine OkS.sto ?_ (by omega); first | assumption)))))) | exact Pfx.refl _ | (apply Pfx.snoc; repeat (first | exact Pfx.refl _ | assumption | apply Pfx.snoc)) | with_unfolding_all exact of_eq_true (eq_true rfl) | (simp only [List.length_append, List.length_cons, List.length_nil]; omega)) only [↓wpre0, ↓wpre1, ↓reduceIte, Int.reduceToNat, Nat.reduceAdd, Nat.reduceMul, Nat.reduceEqDiff, wpost0, wpost1, wpost2, wpost3, wpost4, ite_self, ite_true, ite_false, if_true, if_false, xlen44, bin_gtr, un_not, bin_add, bin_sub, bin_lss, xiad44, xld46, bin_cneq, fr81, wrap_int, wrap_u8, iteP_yes, iteP_no, hR.len, isSeed_r hX hs, isIndex_r hX (show k ≤ 1000000 by omega), e1] | refine iteP_two (fun hc hd => ?_) (fun hc hd => ?_) | refine iteP_intro (fun hc => ?_) (fun hc => ?_))
  refine loop_rounds (fun mm e h2 => ∃ j : Nat, mm = 1 - j ∧ j ≤ 1 ∧ h2 = h' ∧ e 1 = .int .i64 s ∧ e 2 = .int .i64 k ∧ e 9 = .int .i64 (if j = 0 then 0 else if eqC c (syF s k) = true then 0 else 1) ∧ e 38 = y ∧ e 39 = .int .i64 1 ∧ e 40 = .int .i64 j) _ ⟨0, rfl, ?_⟩ ?_
  · simp only [updO_at, updO_not, entry_at, List.getD_cons_zero, List.getD_cons_succ, ↓reduceIte, Nat.reduceEqDiff, true_and, and_true]
    (repeat' (first | assumption | rfl | omega | refine And.intro ?_ ?_))
  · rintro mm e h2 ⟨j, hmm, hj, rfl, g1, g2, g9, g38, g39, g40⟩
    rcases (show j = 0 ∨ j = 1 by omega) with rfl | rfl
    · have hld := hR.ld (i := 0) (by omega)
      have hsy := symbol_r (ro := ro) hX hs (show k ≤ 1000000 by omega)
      have e0 : (k : Int) + ((0 : Nat) : Int) = (k : Int) := by omega
      cases hq : eqC c (syF s k) with
      | true =>
        have hq' := hq
        unfold eqC at hq'
        (repeat' first | simp -dsimp (disch := first | omega | assumption | (refine OkS.sto ?_ (by omega); first | assumption | (refine OkS.sto ?_ (by omega); first | assumption | (refine OkS.sto ?_ (by omega); first | assumption | (refine OkS.sto ?_ (by omega); first | assumption | (refine OkS.sto ?_ (by omega); first | assumption | (refine OkS.sto ?_ (by omega); first | assumption)))))) | exact Pfx.refl _ | (apply Pfx.snoc; repeat (first | exact Pfx.refl _ | assumption | apply Pfx.snoc)) | with_unfolding_all exact of_eq_true (eq_true rfl) | (simp only [List.length_append, List.length_cons, List.length_nil]; omega)) only [↓wpre0, ↓wpre1, ↓reduceIte, Int.reduceToNat, Nat.reduceAdd, Nat.reduceMul, Nat.reduceEqDiff, wpost0, wpost1, wpost2, wpost3, wpost4, ite_self, ite_true, ite_false, if_true, if_false, xlen44, bin_gtr, un_not, bin_add, bin_sub, bin_lss, xiad44, xld46, bin_cneq, fr81, wrap_int, wrap_u8, iteP_yes, iteP_no, g1, g2, g9, g38, g39, g40, hR.iad, hld, hsy, e0, hq'] | refine iteP_two (fun hc hd => ?_) (fun hc hd => ?_) | refine iteP_intro (fun hc => ?_) (fun hc => ?_))
        exact ⟨0, by omega, 1, by (repeat' (first | assumption | rfl | omega | refine And.intro ?_ ?_))⟩
      | false =>
        have hq' := hq
        unfold eqC at hq'
        (repeat' first | simp -dsimp (disch := first | omega | assumption | (refine OkS.sto ?_ (by omega); first | assumption | (refine OkS.sto ?_ (by omega); first | assumption | (refine OkS.sto ?_ (by omega); first | assumption | (refine OkS.sto ?_ (by omega); first | assumption | (refine OkS.sto ?_ (by omega); first | assumption | (refine OkS.sto ?_ (by omega); first | assumption)))))) | exact Pfx.refl _ | (apply Pfx.snoc; repeat (first | exact Pfx.refl _ | assumption | apply Pfx.snoc)) | with_unfolding_all exact of_eq_true (eq_true rfl) | (simp only [List.length_append, List.length_cons, List.length_nil]; omega)) only [↓wpre0, ↓wpre1, ↓reduceIte, Int.reduceToNat, Nat.reduceAdd, Nat.reduceMul, Nat.reduceEqDiff, wpost0, wpost1, wpost2, wpost3, wpost4, ite_self, ite_true, ite_false, if_true, if_false, xlen44, bin_gtr, un_not, bin_add, bin_sub, bin_lss, xiad44, xld46, bin_cneq, fr81, wrap_int, wrap_u8, iteP_yes, iteP_no, g1, g2, g9, g38, g39, g40, hR.iad, hld, hsy, e0, hq'] | refine iteP_two (fun hc hd => ?_) (fun hc hd => ?_) | refine iteP_intro (fun hc => ?_) (fun hc => ?_))
        exact ⟨0, by omega, 1, by (repeat' (first | assumption | rfl | omega | refine And.intro ?_ ?_))⟩
    · (repeat' first | simp -dsimp (disch := first | omega | assumption | (refine OkS.sto ?_ (by omega); first | assumption | (refine OkS.sto ?_ (by omega); first | assumption | (refine OkS.sto ?_ (by omega); first | assumption | (refine OkS.sto ?_ (by omega); first | assumption | (refine OkS.sto ?_ (by omega); first | assumption | (refine OkS.sto ?_ (by omega); first | assumption)))))) | exact Pfx.refl _ | (apply Pfx.snoc; repeat (first | exact Pfx.refl _ | assumption | apply Pfx.snoc)) | with_unfolding_all exact of_eq_true (eq_true rfl) | (simp only [List.length_append, List.length_cons, List.length_nil]; omega)) only [↓wpre0, ↓wpre1, ↓reduceIte, Int.reduceToNat, Nat.reduceAdd, Nat.reduceMul, Nat.reduceEqDiff, wpost0, wpost1, wpost2, wpost3, wpost4, ite_self, ite_true, ite_false, if_true, if_false, xlen44, bin_gtr, un_not, bin_add, bin_sub, bin_lss, xiad44, xld46, bin_cneq, fr81, wrap_int, wrap_u8, iteP_yes, iteP_no, g1, g2, g9, g38, g39, g40] | refine iteP_two (fun hc hd => ?_) (fun hc hd => ?_) | refine iteP_intro (fun hc => ?_) (fun hc => ?_))
end Go.Proofs.Ytelogajobjflfaa.Sim

/- What FnSnapshots leans on. Lemmas only; no condition. -/
set_option linter.unusedSimpArgs false
set_option linter.unusedVariables false
set_option maxRecDepth 8000
namespace Go.Proofs.Ytelogajobjflfaa.Sim
open Go Go.RowKit Fl
variable {ro lo hi lo' hi' n : Nat} {X : Ext} {h : Heap} {x y : Value} {l : List Int} {u v : Int} {g s0 s k lev : Nat} {cd md : List UInt8}
/-- A gain in quarters. -/
def gnF (q : Nat) : Nat := farith .quo .f32 (cf .f32 (FloatKind.f32.nearest (1 + (q : Int)))) 1082130432
theorem gnF_bd {q : Nat} (hq : q < 8) : bd .f32 150 (gnF q) := by
  have hn : bd .f32 152 (cf .f32 (FloatKind.f32.nearest (1 + (q : Int)))) := by
    have e24 : (2 : Nat) ^ 24 = 16777216 := by decide
    refine (nearest_fx .f32 (n := 1 + (q : Int)) (show (1 + (q : Int)).natAbs < 2 ^ 24 by rw [e24]; omega)).bd ?_
    rw [abs_mul_pow, show (-lp .f32).toNat = 149 by decide]
    exact mul_pow_le (n := 152) (b := 3) (m := 149) (by omega) rfl
  exact quo_bd hn (w := 151) (big_of (by decide +kernel)) (by decide) (by decide)
theorem scS_bd {s k q : Nat} (hq : q < 8) : bdC 149 (scB (syF s k) (gnF q)) := ⟨mul_bd (syF_bd s k).a (gnF_bd hq) (by decide) (by decide), mul_bd (syF_bd s k).b (gnF_bd hq) (by decide) (by decide)⟩
theorem snM_bd (hg : goodP n l) (hd : dirB u v = true) {q : Nat} (hq : q < 8) {i : Nat} (hi : i < n) : bdC 154 (snM l u v (gnF q) s0 k i) := (mulB_bd (scS_bd hq) (PH_bdC (stp_lt hg hd hi)) (by decide) (by decide)).2
/-- Without noise, what an element receives is the symbol times its gain, in its phase. -/
theorem snz_eq (hg : goodP n l) (hd : dirB u v = true) {q : Nat} (hq : q < 8) {i : Nat} (hi : i < n) : fcmp .eql .f32 (snN l u v (gnF q) s0 s k 0 i).a (snM l u v (gnF q) s0 k i).a = true ∧ fcmp .eql .f32 (snN l u v (gnF q) s0 s k 0 i).b (snM l u v (gnF q) s0 k i).b = true := by
  have b := snM_bd (s0 := s0) (k := k) hg hd hq hi
  have l1 := drN_lt s (2 * nzI k i)
  have l2 := drN_lt s (2 * nzI k i + 1)
  unfold snN
  generalize snM l u v (gnF q) s0 k i = M at *
  unfold nzF
  generalize drN s (2 * nzI k i) = d1 at *
  generalize drN s (2 * nzI k i + 1) = d2 at *
  obtain ⟨va, ha, _⟩ := b.a
  obtain ⟨vb, hb, _⟩ := b.b
  have a1 := (add_zero_fin ha zero_fin).2
  have b1 := (add_zero_fin hb zero_fin).2
  have a2 := (add_zero_fin a1 (paz_fin l1)).1
  have b2 := (add_zero_fin b1 (paz_fin l2)).1
  refine ⟨?_, ?_⟩
  · simp only [addB, scB, zeroB]
    rw [cmp_eq a2 ha]
    exact decide_eq_true rfl
  · simp only [addB, scB, zeroB]
    rw [cmp_eq b2 hb]
    exact decide_eq_true rfl
theorem snq_ok (hg : goodP n l) (hd : dirB u v = true) {q : Nat} (hq : q < 8) {i : Nat} (hi : i < n) : okF (snN l u v (gnF q) s0 s k 1048576000 i).a ∧ okF (snN l u v (gnF q) s0 s k 1048576000 i).b := by
  have b := snM_bd (s0 := s0) (k := k) hg hd hq hi
  have c : bdC 156 (snN l u v (gnF q) s0 s k 1048576000 i) := addB_bd (addB_bd (zeroB_bd 154) b (by decide)) ((nzq_bd s k i).mono (by decide)) (by decide)
  obtain ⟨va, ha, _⟩ := c.a
  obtain ⟨vb, hb, _⟩ := c.b
  exact ⟨okF_of ha, okF_of hb⟩
theorem nzq_cmp (s k i : Nat) : fcmp .lss .f32 1048576000 (nzF s k i 1048576000).a = false ∧ fcmp .lss .f32 (nzF s k i 1048576000).a 3196059648 = false ∧ fcmp .lss .f32 1048576000 (nzF s k i 1048576000).b = false ∧ fcmp .lss .f32 (nzF s k i 1048576000).b 3196059648 = false := by
  have c1 := paq_cmp (drN_lt s (2 * nzI k i))
  have c2 := paq_cmp (drN_lt s (2 * nzI k i + 1))
  unfold nzF
  simp only [scB]
  exact ⟨c1.1, c1.2, c2.1, c2.2⟩
theorem dir_91 {a b : Nat} (ha : a < 91) (hb : b < 91) : dirB ((a : Int) - 45) ((b : Int) - 45) = true := by
  have e : ∀ a : Nat, a < 91 → ((a : Int) - 45) * ((a : Int) - 45) ≤ 2025 := fun a ha => by
    have h : ((a : Int) - 45) * ((a : Int) - 45) = ((((a : Int) - 45).natAbs * ((a : Int) - 45).natAbs : Nat) : Int) := by rw [← Int.natAbs_mul_self]
    have h2 : ((a : Int) - 45).natAbs * ((a : Int) - 45).natAbs ≤ 45 * 45 := Nat.mul_le_mul (by omega) (by omega)
    omega
  have e1 := e a ha
  have e2 := e b hb
  unfold dirB
  rw [decide_eq_true (p := -64 ≤ (a : Int) - 45) (by omega), decide_eq_true (p := (a : Int) - 45 ≤ 64) (by omega), decide_eq_true (p := -64 ≤ (b : Int) - 45) (by omega), decide_eq_true (p := (b : Int) - 45 ≤ 64) (by omega), decide_eq_true (p := ((a : Int) - 45) * ((a : Int) - 45) + ((b : Int) - 45) * ((b : Int) - 45) ≤ 4096) (by omega)]
  rfl
theorem env_cut {P : Program} {c : Code} {Q : Ex → Env → Heap → Prop} {e : Env} {h : Heap} (M : Env → Heap → Prop) (h1 : M e h) (k : ∀ e h, M e h → W P ro X c Q e h) : W P ro X c Q e h := k e h h1
end Go.Proofs.Ytelogajobjflfaa.Sim

/- The law FnSnapshots. Lemmas only; no condition. -/
set_option linter.unusedSimpArgs false
set_option linter.unusedVariables false
set_option maxRecDepth 8000
namespace Go.Proofs.Ytelogajobjflfaa.Sim
open Go Go.RowKit Fl
variable {ro lo hi lo' hi' n : Nat} {X : Ext} {h : Heap} {x y : Value} {l : List Int} {u v : Int} {g s0 s k lev : Nat} {cd md : List UInt8}
set_option maxHeartbeats 16000000 in
theorem lawSnap_c (hX : XN X) (hX0 : XN xS0) (hW : XDW xS0) (hA : XAbs X) (hx : X 127 = xPl ro xS0 127) (hV : VS lo hi 1 h x cd.length (cd.map u8v)) (hU : VS lo' hi' 1 h y md.length (md.map u8v)) (hhi : hi ≤ h.length) (hhi' : hi' ≤ h.length) (hro : ro ≤ h.length) (hl : cd.length ≤ 140737488351232) (hl' : md.length ≤ 140737488351232) :
    CallR Try.prog ro X 9 [x, y] h (fun r h' => r = .bool true) := by
  refine callR_of (hX _ rfl) Try.func9 rfl (by kernel_rfl) (Nat.le_of_ble_eq_true rfl) ?_
  by_cases hlong : (decide (48 < cd.length) || decide (48 < md.length)) = true
  · (repeat' first | simp -dsimp (disch := first | omega | assumption | (refine OkS.sto ?_ (by omega); first | assumption | (refine OkS.sto ?_ (by omega); first | assumption | (refine OkS.sto ?_ (by omega); first | assumption | (refine OkS.sto ?_ (by omega); first | assumption | (refine OkS.sto ?_ (by omega); first | assumption | (refine OkS.sto ?_ (by omega); first | assumption)))))) | exact Pfx.refl _ | (apply Pfx.snoc; repeat (first | exact Pfx.refl _ | assumption | apply Pfx.snoc)) | with_unfolding_all exact of_eq_true (eq_true rfl) | (simp only [List.length_append, List.length_cons, List.length_nil]; omega)) only [↓wpre0, ↓wpre1, ↓reduceIte, Int.reduceToNat, Nat.reduceAdd, Nat.reduceMul, Nat.reduceEqDiff, wpost0, wpost1, wpost2, wpost3, wpost4, ite_self, ite_true, ite_false, if_true, if_false, tze62, xst62, bin_mul, bin_add, xcv2_29, bin_fquo, xld62, xbld107_0_1_2, xbls108_0, xbls108_1, un_not, xlen44, xlen54, bin_neq, xlen36, bin_lss, bin_gtr, bin_fneq, xiad44, xld46, bin_cneq, xiad36, xld44, blt_real, bin_fgtr, bin_flss, blt_imag, xbls44_0, xbls44_1, un_cneg, bin_eql, bin_ceql, fr9, wrap_int, wrap_u8, iteP_yes, iteP_no, r8Long_r (hX _ rfl) hV hU (by omega) (by omega), hlong] | refine iteP_two (fun hc hd => ?_) (fun hc hd => ?_) | refine iteP_intro (fun hc => ?_) (fun hc => ?_))
  have hlong' : (decide (48 < cd.length) || decide (48 < md.length)) = false := by simpa using hlong
  have hc1 : cd.length ≤ 48 := by simp at hlong'; omega
  have hm1 : md.length ≤ 48 := by simp at hlong'; omega
  (repeat' first | simp -dsimp (disch := first | omega | assumption | (refine OkS.sto ?_ (by omega); first | assumption | (refine OkS.sto ?_ (by omega); first | assumption | (refine OkS.sto ?_ (by omega); first | assumption | (refine OkS.sto ?_ (by omega); first | assumption | (refine OkS.sto ?_ (by omega); first | assumption | (refine OkS.sto ?_ (by omega); first | assumption)))))) | exact Pfx.refl _ | (apply Pfx.snoc; repeat (first | exact Pfx.refl _ | assumption | apply Pfx.snoc)) | with_unfolding_all exact of_eq_true (eq_true rfl) | (simp only [List.length_append, List.length_cons, List.length_nil]; omega)) only [↓wpre0, ↓wpre1, ↓reduceIte, Int.reduceToNat, Nat.reduceAdd, Nat.reduceMul, Nat.reduceEqDiff, wpost0, wpost1, wpost2, wpost3, wpost4, ite_self, ite_true, ite_false, if_true, if_false, tze62, xst62, bin_mul, bin_add, xcv2_29, bin_fquo, xld62, xbld107_0_1_2, xbls108_0, xbls108_1, un_not, xlen44, xlen54, bin_neq, xlen36, bin_lss, bin_gtr, bin_fneq, xiad44, xld46, bin_cneq, xiad36, xld44, blt_real, bin_fgtr, bin_flss, blt_imag, xbls44_0, xbls44_1, un_cneg, bin_eql, bin_ceql, fr9, wrap_int, wrap_u8, iteP_yes, iteP_no, r8Long_r (hX _ rfl) hV hU (by omega) (by omega), hlong'] | refine iteP_two (fun hc hd => ?_) (fun hc hd => ?_) | refine iteP_intro (fun hc => ?_) (fun hc => ?_))
  refine cf_rel (Places_c hW hX0 (hX _ rfl) (hX _ rfl) hx hV hro hhi (by omega)) (fun q => by cases q) ?_
  rintro r H1 ⟨n, yb, yc, l, rfl, hyb, hD, hll, hg, hr, p1⟩
  have hI := is_blk (dc := yc) hD hll
  have l1 := p1.len
  have n16 := hg.n16
  have n1 := hg.n1
  have hU1 := hU.pre p1
  have hyb1 : yb < H1.length := by
    rcases Nat.lt_or_ge yb H1.length with q | q
    · exact q
    · rw [List.getElem?_eq_none q] at hD; cases hD
  have ht1 : tyP ro H1 (.slice (some ⟨yb, 0, none⟩) n yc) := fun _ => by show (H1[yb]?).map Blk.ty = _; rw [hD]; rfl
  (repeat' first | simp -dsimp (disch := first | omega | assumption | (refine OkS.sto ?_ (by omega); first | assumption | (refine OkS.sto ?_ (by omega); first | assumption | (refine OkS.sto ?_ (by omega); first | assumption | (refine OkS.sto ?_ (by omega); first | assumption | (refine OkS.sto ?_ (by omega); first | assumption | (refine OkS.sto ?_ (by omega); first | assumption)))))) | exact Pfx.refl _ | (apply Pfx.snoc; repeat (first | exact Pfx.refl _ | assumption | apply Pfx.snoc)) | with_unfolding_all exact of_eq_true (eq_true rfl) | (simp only [List.length_append, List.length_cons, List.length_nil]; omega)) only [↓wpre0, ↓wpre1, ↓reduceIte, Int.reduceToNat, Nat.reduceAdd, Nat.reduceMul, Nat.reduceEqDiff, wpost0, wpost1, wpost2, wpost3, wpost4, ite_self, ite_true, ite_false, if_true, if_false, tze62, xst62, bin_mul, bin_add, xcv2_29, bin_fquo, xld62, xbld107_0_1_2, xbls108_0, xbls108_1, un_not, xlen44, xlen54, bin_neq, xlen36, bin_lss, bin_gtr, bin_fneq, xiad44, xld46, bin_cneq, xiad36, xld44, blt_real, bin_fgtr, bin_flss, blt_imag, xbls44_0, xbls44_1, un_cneg, bin_eql, bin_ceql, fr9, wrap_int, wrap_u8, iteP_yes, iteP_no] | refine iteP_two (fun hc hd => ?_) (fun hc hd => ?_) | refine iteP_intro (fun hc => ?_) (fun hc => ?_))
  refine cf_rel (EightD_c hX hU1 (by omega) (by omega) (by omega)) (fun q => by cases q) ?_
  rintro _ H1 ⟨a, b, ha, hb, rfl, e1⟩
  subst e1
  have hd := dir_91 ha hb
  generalize (a : Int) - 45 = u at *
  generalize (b : Int) - 45 = v at *
  obtain ⟨a1, ha1, hat1⟩ := r8At_r (ro := ro) (X := X) (hX _ rfl) (hU1.pre (Pfx.refl H1).snoc (h' := H1 ++ [(⟨62, [.int .i64 u, .int .i64 v]⟩ : Blk)])) (i := 40) (n := 256) (by omega) (by omega) (by omega) (by omega) (by omega)
  obtain ⟨a2, ha2, hat2⟩ := r8At_r (ro := ro) (X := X) (hX _ rfl) (hU1.pre (Pfx.refl H1).snoc (h' := H1 ++ [(⟨62, [.int .i64 u, .int .i64 v]⟩ : Blk)])) (i := 41) (n := 256) (by omega) (by omega) (by omega) (by omega) (by omega)
  obtain ⟨k, hk, hat3⟩ := r8At_r (ro := ro) (X := X) (hX _ rfl) (hU1.pre (Pfx.refl H1).snoc (h' := H1 ++ [(⟨62, [.int .i64 u, .int .i64 v]⟩ : Blk)])) (i := 42) (n := 200) (by omega) (by omega) (by omega) (by omega) (by omega)
  obtain ⟨q, hq, hat4⟩ := r8At_r (ro := ro) (X := X) (hX _ rfl) (hU1.pre (Pfx.refl H1).snoc (h' := H1 ++ [(⟨62, [.int .i64 u, .int .i64 v]⟩ : Blk)])) (i := 43) (n := 8) (by omega) (by omega) (by omega) (by omega) (by omega)
  have hq8 : q < 8 := by omega
  obtain ⟨s, hs⟩ : ∃ s : Nat, s = 65536 * a1 + a2 := ⟨_, rfl⟩
  have es : (65536 : Int) * (a1 : Int) + (a2 : Int) = (s : Int) := by omega
  have s24 : s ≤ 16777215 := by omega
  have pG1 : Pfx H1 (H1 ++ [(⟨62, [.int .i64 u, .int .i64 v]⟩ : Blk)]) := (Pfx.refl H1).snoc
  have cG1 : cells (H1 ++ [(⟨62, [.int .i64 u, .int .i64 v]⟩ : Blk)]) H1.length 0 2 = some (.agg ⟨[.int .i64 u, .int .i64 v]⟩) := cells_last rfl (by simp)
  have gq : farith .quo .f32 (cf .f32 (FloatKind.f32.nearest (1 + (q : Int)))) 1082130432 = gnF q := rfl
  (repeat' first | simp -dsimp (disch := first | omega | assumption | (refine OkS.sto ?_ (by omega); first | assumption | (refine OkS.sto ?_ (by omega); first | assumption | (refine OkS.sto ?_ (by omega); first | assumption | (refine OkS.sto ?_ (by omega); first | assumption | (refine OkS.sto ?_ (by omega); first | assumption | (refine OkS.sto ?_ (by omega); first | assumption)))))) | exact Pfx.refl _ | (apply Pfx.snoc; repeat (first | exact Pfx.refl _ | assumption | apply Pfx.snoc)) | with_unfolding_all exact of_eq_true (eq_true rfl) | (simp only [List.length_append, List.length_cons, List.length_nil]; omega)) only [↓wpre0, ↓wpre1, ↓reduceIte, Int.reduceToNat, Nat.reduceAdd, Nat.reduceMul, Nat.reduceEqDiff, wpost0, wpost1, wpost2, wpost3, wpost4, ite_self, ite_true, ite_false, if_true, if_false, tze62, xst62, bin_mul, bin_add, xcv2_29, bin_fquo, xld62, xbld107_0_1_2, xbls108_0, xbls108_1, un_not, xlen44, xlen54, bin_neq, xlen36, bin_lss, bin_gtr, bin_fneq, xiad44, xld46, bin_cneq, xiad36, xld44, blt_real, bin_fgtr, bin_flss, blt_imag, xbls44_0, xbls44_1, un_cneg, bin_eql, bin_ceql, fr9, wrap_int, wrap_u8, iteP_yes, iteP_no, hat1, hat2, hat3, hat4, es, gq, conv_if Try.underlying2 Try.underlying29, SymbolOf_r hX (show s ≤ 2147483647 by omega) (show k ≤ 1000000 by omega)] | refine iteP_two (fun hc hd => ?_) (fun hc hd => ?_) | refine iteP_intro (fun hc => ?_) (fun hc => ?_))
  obtain ⟨G1, hG1⟩ : ∃ G, G = H1 ++ [(⟨62, [.int .i64 u, .int .i64 v]⟩ : Blk)] := ⟨_, rfl⟩
  have lG1 : G1.length = H1.length + 1 := by rw [hG1]; simp
  have dG1 : G1[H1.length]? = some ⟨62, [.int .i64 u, .int .i64 v]⟩ := by rw [hG1]; exact get_last rfl
  rw [← hG1] at pG1 cG1 hat1 hat2 hat3 hat4 ⊢
  obtain ⟨G2, hG2⟩ : ∃ G, G = G1 ++ [(⟨107, [.int .i64 u, .int .i64 v, .float .f32 (gnF q), .int .i64 s]⟩ : Blk)] := ⟨_, rfl⟩
  obtain ⟨ys, hys⟩ : ∃ ys : Value, ys = .slice (some ⟨G1.length, 0, none⟩) 1 1 := ⟨_, rfl⟩
  have bys : bOf ys = G1.length := by rw [hys]; rfl
  have hS2 : VS G1.length (G1.length + 1) 4 G2 ys 1 (srcL u v (gnF q) s) := by
    have := (vg_lit (k := 4) (n := 1) (t := 107) (L := srcL u v (gnF q) s) G1 (Nat.le_refl _) rfl).vs
    rw [hG2, hys]
    exact this
  have pG2 : Pfx G1 G2 := by rw [hG2]; exact (Pfx.refl G1).snoc
  have lG2 : G2.length = G1.length + 1 := by rw [hG2]; simp
  rw [← hG2, ← hys]
  have p12 := pG1.trans pG2
  have cD : ∀ {G : Heap}, Pfx G1 G → cells G H1.length 0 2 = some (.agg ⟨[.int .i64 u, .int .i64 v]⟩) := fun p => cellsb (o := 0) (n := 2) ((p.get (by omega)).trans dG1) (by simp)
  have mI : ∀ {G : Heap}, Pfx G2 G → IS yb (yb + 1) 2 G (.slice (some ⟨yb, 0, none⟩) n yc) n l := fun p => hI.pre (p12.trans p)
  have mT : ∀ {G : Heap}, Pfx G2 G → tyP ro G (.slice (some ⟨yb, 0, none⟩) n yc) := fun p => ht1.pre hI (by omega) (p12.trans p)
  have mS : ∀ {G : Heap}, Pfx G2 G → VS G1.length (G1.length + 1) 4 G ys 1 (srcL u v (gnF q) s) := fun p => hS2.pre p
  have x0 := Pfx.refl G2
  refine cf_rel (SnapshotOf_c (k := k) (s := s) (s0 := s) (lev := 0) (g := gnF q) hX hA (mI x0) (mT x0) hg hd (mS x0) (scS_bd hq8) (by omega) (by omega) (by omega) (by omega) (by omega) (by omega)) (fun q => by cases q) ?_
  rintro _ G3 ⟨z1, rfl, x3, hz1⟩
  have lG3 := x3.len
  (repeat' first | simp -dsimp (disch := first | omega | assumption | (refine OkS.sto ?_ (by omega); first | assumption | (refine OkS.sto ?_ (by omega); first | assumption | (refine OkS.sto ?_ (by omega); first | assumption | (refine OkS.sto ?_ (by omega); first | assumption | (refine OkS.sto ?_ (by omega); first | assumption | (refine OkS.sto ?_ (by omega); first | assumption)))))) | exact Pfx.refl _ | (apply Pfx.snoc; repeat (first | exact Pfx.refl _ | assumption | apply Pfx.snoc)) | with_unfolding_all exact of_eq_true (eq_true rfl) | (simp only [List.length_append, List.length_cons, List.length_nil]; omega)) only [↓wpre0, ↓wpre1, ↓reduceIte, Int.reduceToNat, Nat.reduceAdd, Nat.reduceMul, Nat.reduceEqDiff, wpost0, wpost1, wpost2, wpost3, wpost4, ite_self, ite_true, ite_false, if_true, if_false, tze62, xst62, bin_mul, bin_add, xcv2_29, bin_fquo, xld62, xbld107_0_1_2, xbls108_0, xbls108_1, un_not, xlen44, xlen54, bin_neq, xlen36, bin_lss, bin_gtr, bin_fneq, xiad44, xld46, bin_cneq, xiad36, xld44, blt_real, bin_fgtr, bin_flss, blt_imag, xbls44_0, xbls44_1, un_cneg, bin_eql, bin_ceql, fr9, wrap_int, wrap_u8, iteP_yes, iteP_no, cD (pG2.trans x3)] | refine iteP_two (fun hc hd => ?_) (fun hc hd => ?_) | refine iteP_intro (fun hc => ?_) (fun hc => ?_))
  refine cf_rel (SteeringOf_c hX hA (mI x3) (mT x3) hg hd (by omega) (by omega)) (fun q => by cases q) ?_
  rintro _ G4 ⟨z2, rfl, y4, hz2⟩
  have lG4 := y4.len
  have x4 := x3.trans y4
  (repeat' first | simp -dsimp (disch := first | omega | assumption | (refine OkS.sto ?_ (by omega); first | assumption | (refine OkS.sto ?_ (by omega); first | assumption | (refine OkS.sto ?_ (by omega); first | assumption | (refine OkS.sto ?_ (by omega); first | assumption | (refine OkS.sto ?_ (by omega); first | assumption | (refine OkS.sto ?_ (by omega); first | assumption)))))) | exact Pfx.refl _ | (apply Pfx.snoc; repeat (first | exact Pfx.refl _ | assumption | apply Pfx.snoc)) | with_unfolding_all exact of_eq_true (eq_true rfl) | (simp only [List.length_append, List.length_cons, List.length_nil]; omega)) only [↓wpre0, ↓wpre1, ↓reduceIte, Int.reduceToNat, Nat.reduceAdd, Nat.reduceMul, Nat.reduceEqDiff, wpost0, wpost1, wpost2, wpost3, wpost4, ite_self, ite_true, ite_false, if_true, if_false, tze62, xst62, bin_mul, bin_add, xcv2_29, bin_fquo, xld62, xbld107_0_1_2, xbls108_0, xbls108_1, un_not, xlen44, xlen54, bin_neq, xlen36, bin_lss, bin_gtr, bin_fneq, xiad44, xld46, bin_cneq, xiad36, xld44, blt_real, bin_fgtr, bin_flss, blt_imag, xbls44_0, xbls44_1, un_cneg, bin_eql, bin_ceql, fr9, wrap_int, wrap_u8, iteP_yes, iteP_no] | refine iteP_two (fun hc hd => ?_) (fun hc hd => ?_) | refine iteP_intro (fun hc => ?_) (fun hc => ?_))
  refine cf_rel (SnapshotsOf_c (k := k) (s := s) (s0 := s) (lev := 1048576000) (g := gnF q) hX hA (mI x4) (mT x4) hg hd (mS x4) (fun k => scS_bd hq8) (by omega) (by omega) (by omega) (by omega) (by omega) (by omega)) (fun q => by cases q) ?_
  rintro _ G5 ⟨z3, R, rfl, y5, hz3, hR3⟩
  have lG5 := y5.len
  have x5 := x4.trans y5
  have e2 : (k : Int) + 2 = ((k + 2 : Nat) : Int) := by omega
  (repeat' first | simp -dsimp (disch := first | omega | assumption | (refine OkS.sto ?_ (by omega); first | assumption | (refine OkS.sto ?_ (by omega); first | assumption | (refine OkS.sto ?_ (by omega); first | assumption | (refine OkS.sto ?_ (by omega); first | assumption | (refine OkS.sto ?_ (by omega); first | assumption | (refine OkS.sto ?_ (by omega); first | assumption)))))) | exact Pfx.refl _ | (apply Pfx.snoc; repeat (first | exact Pfx.refl _ | assumption | apply Pfx.snoc)) | with_unfolding_all exact of_eq_true (eq_true rfl) | (simp only [List.length_append, List.length_cons, List.length_nil]; omega)) only [↓wpre0, ↓wpre1, ↓reduceIte, Int.reduceToNat, Nat.reduceAdd, Nat.reduceMul, Nat.reduceEqDiff, wpost0, wpost1, wpost2, wpost3, wpost4, ite_self, ite_true, ite_false, if_true, if_false, tze62, xst62, bin_mul, bin_add, xcv2_29, bin_fquo, xld62, xbld107_0_1_2, xbls108_0, xbls108_1, un_not, xlen44, xlen54, bin_neq, xlen36, bin_lss, bin_gtr, bin_fneq, xiad44, xld46, bin_cneq, xiad36, xld44, blt_real, bin_fgtr, bin_flss, blt_imag, xbls44_0, xbls44_1, un_cneg, bin_eql, bin_ceql, fr9, wrap_int, wrap_u8, iteP_yes, iteP_no, e2] | refine iteP_two (fun hc hd => ?_) (fun hc hd => ?_) | refine iteP_intro (fun hc => ?_) (fun hc => ?_))
  refine cf_rel (SnapshotOf_c (k := k + 2) (s := s) (s0 := s) (lev := 1048576000) (g := gnF q) hX hA (mI x5) (mT x5) hg hd (mS x5) (scS_bd hq8) (by omega) (by omega) (by omega) (by omega) (by omega) (by omega)) (fun q => by cases q) ?_
  rintro _ G6 ⟨z4, rfl, y6, hz4⟩
  have lG6 := y6.len
  have x6 := x5.trans y6
  have nl := nxN_lt s
  have okx := (syF_bd s k).ok
  have pw : okN (pwF (syF s k)) := (pwF_bd ((syF_bd s k).mono (show 148 ≤ 200 by decide)) (show 252 + 148 = 2 * 200 from rfl) (by decide)).1
  have hpw := syF_pow s k
  have h1 : RowB G2.length G6 z1 n (snN l u v (gnF q) s s k 0) := hz1.pre (y4.trans (y5.trans y6))
  have h2 : RowB G3.length G6 z2 n (fun i => PH (stpN l u v i)) := hz2.pre (y5.trans y6)
  have h3 : VS G4.length G6.length 1 G6 z3 3 R := ((hz3.pre y6).vsl)
  have h3r : RowB G4.length G6 (vth R 2) n (snN l u v (gnF q) s s (k + 2) 1048576000) := (hR3 2 (by omega)).pre y6
  have vs6 := vSources_r (ro := ro) hX hd (mS x6) (show s ≤ 2147483647 by omega) (by omega)
  (repeat' first | simp -dsimp (disch := first | omega | assumption | (refine OkS.sto ?_ (by omega); first | assumption | (refine OkS.sto ?_ (by omega); first | assumption | (refine OkS.sto ?_ (by omega); first | assumption | (refine OkS.sto ?_ (by omega); first | assumption | (refine OkS.sto ?_ (by omega); first | assumption | (refine OkS.sto ?_ (by omega); first | assumption)))))) | exact Pfx.refl _ | (apply Pfx.snoc; repeat (first | exact Pfx.refl _ | assumption | apply Pfx.snoc)) | with_unfolding_all exact of_eq_true (eq_true rfl) | (simp only [List.length_append, List.length_cons, List.length_nil]; omega)) only [↓thenQ_normal, ↓thenQ_exit, ↓thenQ_ret, ↓blockQ_normal, ↓blockQ_exit, ↓blockQ_ret, ↓o_plain, ↓o_nil, ↓o_guard, ↓gvl_zero, ↓gvl_succ, ↓p_move, ↓p_assign, ↓p_pick, ↓p_binOp, ↓p_unOp, ↓wpre1, ↓reduceIte, Int.reduceToNat, Nat.reduceAdd, Nat.reduceMul, Nat.reduceEqDiff, wpost0, wpost1, wpost2, wpost3, wpost4, ite_self, ite_true, ite_false, if_true, if_false, tze62, xst62, bin_mul, bin_add, xcv2_29, bin_fquo, xld62, xbld107_0_1_2, xbls108_0, xbls108_1, un_not, xlen44, xlen54, bin_neq, xlen36, bin_lss, bin_gtr, bin_fneq, xiad44, xld46, bin_cneq, xiad36, xld44, blt_real, bin_fgtr, bin_flss, blt_imag, xbls44_0, xbls44_1, un_cneg, bin_eql, bin_ceql, fr9, wrap_int, wrap_u8, iteP_yes, iteP_no, e2] | refine iteP_two (fun hc hd => ?_) (fun hc hd => ?_) | refine iteP_intro (fun hc => ?_) (fun hc => ?_))
  refine env_cut (fun e h2 => h2 = G6 ∧ e 5 = .slice (some ⟨yb, 0, none⟩) n yc ∧ e 7 = .int .i64 s ∧ e 8 = .int .i64 k ∧ e 9 = .float .f32 (gnF q) ∧ e 10 = ys ∧ e 11 = toV (syF s k) ∧ e 12 = .bool true ∧ e 13 = z1 ∧ e 14 = .bool true ∧ e 15 = z2 ∧ e 16 = .bool true ∧ e 17 = z3 ∧ e 18 = .bool true ∧ e 19 = z4 ∧ e 20 = .bool true) ?_ ?_
  · simp only [updO_at, updO_not, entry_at, List.getD_cons_zero, List.getD_cons_succ, ↓reduceIte, Nat.reduceEqDiff, true_and, and_true]
    (repeat' (first | assumption | rfl | omega | refine And.intro ?_ ?_))
  rintro e h' ⟨rfl, g5, g7, g8, g9, g10, g11, g12, g13, g14, g15, g16, g17, g18, g19, g20⟩
  have c1 : decide (((nxN s : Nat) : Int) < 0) = false := decide_eq_false (by omega)
  have c2 : decide ((2147483647 : Int) < ((nxN s : Nat) : Int)) = false := decide_eq_false (by omega)
  (repeat' first | simp -dsimp (disch := first | omega | assumption | (refine OkS.sto ?_ (by omega); first | assumption | (refine OkS.sto ?_ (by omega); first | assumption | (refine OkS.sto ?_ (by omega); first | assumption | (refine OkS.sto ?_ (by omega); first | assumption | (refine OkS.sto ?_ (by omega); first | assumption | (refine OkS.sto ?_ (by omega); first | assumption)))))) | exact Pfx.refl _ | (apply Pfx.snoc; repeat (first | exact Pfx.refl _ | assumption | apply Pfx.snoc)) | with_unfolding_all exact of_eq_true (eq_true rfl) | (simp only [List.length_append, List.length_cons, List.length_nil]; omega)) only [↓wpre0, ↓wpre1, ↓reduceIte, Int.reduceToNat, Nat.reduceAdd, Nat.reduceMul, Nat.reduceEqDiff, wpost0, wpost1, wpost2, wpost3, wpost4, ite_self, ite_true, ite_false, if_true, if_false, tze62, xst62, bin_mul, bin_add, xcv2_29, bin_fquo, xld62, xbld107_0_1_2, xbls108_0, xbls108_1, un_not, xlen44, xlen54, bin_neq, xlen36, bin_lss, bin_gtr, bin_fneq, xiad44, xld46, bin_cneq, xiad36, xld44, blt_real, bin_fgtr, bin_flss, blt_imag, xbls44_0, xbls44_1, un_cneg, bin_eql, bin_ceql, fr9, wrap_int, wrap_u8, iteP_yes, iteP_no, g5, g7, g8, g9, g10, g11, g12, g13, g14, g15, g16, g17, g18, g19, g20, NextSeed_r hX (show s ≤ 2147483647 by omega), vs6, h1.len, h3.len Try.underlying36, hz4.len, (mI x6).len Try.underlying54, PowerOf_r hX okx pw, hpw, c1, c2] | refine iteP_two (fun hc hd => ?_) (fun hc hd => ?_) | refine iteP_intro (fun hc => ?_) (fun hc => ?_))
  refine loop_exit 0 (fun e h2 => h2 = h' ∧ e 7 = .int .i64 s ∧ e 8 = .int .i64 k ∧ e 11 = toV (syF s k)) ?_ ?_
  · refine loop_rounds (fun mm e h2 => ∃ i : Nat, mm = n - i ∧ i ≤ n ∧ h2 = h' ∧ e 7 = .int .i64 s ∧ e 8 = .int .i64 k ∧ e 9 = .float .f32 (gnF q) ∧ e 11 = toV (syF s k) ∧ e 13 = z1 ∧ e 15 = z2 ∧ e 17 = z3 ∧ e 19 = z4 ∧ e 23 = .int .i64 i) _ ⟨0, rfl, ?_⟩ ?_
    · simp only [updO_at, updO_not, entry_at, List.getD_cons_zero, List.getD_cons_succ, ↓reduceIte, Nat.reduceEqDiff, true_and, and_true]
      exact ⟨Nat.zero_le _, g7, g8, g9, g11, g13, g15, g17, g19, rfl⟩
    · rintro mm e h2' ⟨i, hmm, hle, rfl, g7, g8, g9, g11, g13, g15, g17, g19, g23⟩
      have hks : (i : Int) + 1 = ((i + 1 : Nat) : Int) := by omega
      by_cases hi : i < n
      · have hin : (i : Int) < (n : Int) := by omega
        have hN := NoiseOf_r (ro := ro) (X := X) (s := s) (k := k + 2) (i := i) (lev := 1048576000) hX (by omega) (by omega) (by omega)
        have hM := Mul_r (ro := ro) hX (mulB_bd (scS_bd (s := s) (k := k) hq8) (PH_bdC (stp_lt hg hd hi)) (show 154 + 148 = 149 + 153 from rfl) (by decide)).1
        obtain ⟨zq1, zq2⟩ := snz_eq (s := s) (s0 := s) (k := k) hg hd hq8 hi
        unfold snM at zq1 zq2
        have hld3 : ld Try.prog h2' 44 (ea z3 2) = some (vth R 2) := h3.ld1 (c := 2) tsz44 tag44 (by omega)
        obtain ⟨o1, o2⟩ := snq_ok (s := s) (s0 := s) (k := k + 2) hg hd hq8 hi
        have hSC := SameC_r (ro := ro) hX hA.bits o1 o2
        obtain ⟨m1, m2, m3, m4⟩ := nzq_cmp s (k + 2) i
        simp -dsimp (disch := first | omega | assumption | (refine OkS.sto ?_ (by omega); first | assumption | (refine OkS.sto ?_ (by omega); first | assumption | (refine OkS.sto ?_ (by omega); first | assumption | (refine OkS.sto ?_ (by omega); first | assumption | (refine OkS.sto ?_ (by omega); first | assumption | (refine OkS.sto ?_ (by omega); first | assumption)))))) | exact Pfx.refl _ | (apply Pfx.snoc; repeat (first | exact Pfx.refl _ | assumption | apply Pfx.snoc)) | with_unfolding_all exact of_eq_true (eq_true rfl) | (simp only [List.length_append, List.length_cons, List.length_nil]; omega)) only [↓wpre0, ↓wpre1, ↓reduceIte, Int.reduceToNat, Nat.reduceAdd, Nat.reduceMul, Nat.reduceEqDiff, wpost0, wpost1, wpost2, wpost3, wpost4, ite_self, ite_true, ite_false, if_true, if_false, tze62, xst62, bin_mul, bin_add, xcv2_29, bin_fquo, xld62, xbld107_0_1_2, xbls108_0, xbls108_1, un_not, xlen44, xlen54, bin_neq, xlen36, bin_lss, bin_gtr, bin_fneq, xiad44, xld46, bin_cneq, xiad36, xld44, blt_real, bin_fgtr, bin_flss, blt_imag, xbls44_0, xbls44_1, un_cneg, bin_eql, bin_ceql, fr9, wrap_int, wrap_u8, iteP_yes, iteP_no, g7, g8, g9, g11, g13, g15, g17, g19, g23, h1.len, e2, hN, Scale_r hX, h2.iad, h2.ld, hM, h1.iad, h1.ld, zq1, zq2, h3.iad Try.underlying36 tsz44, hld3, h3r.iad, h3r.ld, hz4.iad, hz4.ld, hSC, m1, m2, m3, m4, Bool.not_true, Bool.not_false]
        exact ⟨n - (i + 1), by omega, i + 1, rfl, by omega, by rw [hks]⟩
      · simp -dsimp (disch := first | omega | assumption | (refine OkS.sto ?_ (by omega); first | assumption | (refine OkS.sto ?_ (by omega); first | assumption | (refine OkS.sto ?_ (by omega); first | assumption | (refine OkS.sto ?_ (by omega); first | assumption | (refine OkS.sto ?_ (by omega); first | assumption | (refine OkS.sto ?_ (by omega); first | assumption)))))) | exact Pfx.refl _ | (apply Pfx.snoc; repeat (first | exact Pfx.refl _ | assumption | apply Pfx.snoc)) | with_unfolding_all exact of_eq_true (eq_true rfl) | (simp only [List.length_append, List.length_cons, List.length_nil]; omega)) only [↓wpre0, ↓wpre1, ↓reduceIte, Int.reduceToNat, Nat.reduceAdd, Nat.reduceMul, Nat.reduceEqDiff, wpost0, wpost1, wpost2, wpost3, wpost4, ite_self, ite_true, ite_false, if_true, if_false, tze62, xst62, bin_mul, bin_add, xcv2_29, bin_fquo, xld62, xbld107_0_1_2, xbls108_0, xbls108_1, un_not, xlen44, xlen54, bin_neq, xlen36, bin_lss, bin_gtr, bin_fneq, xiad44, xld46, bin_cneq, xiad36, xld44, blt_real, bin_fgtr, bin_flss, blt_imag, xbls44_0, xbls44_1, un_cneg, bin_eql, bin_ceql, fr9, wrap_int, wrap_u8, iteP_yes, iteP_no, g7, g8, g9, g11, g13, g15, g17, g19, g23, h1.len, hi]
  · rintro e h2' ⟨rfl, g7, g8, g11⟩
    have r1 : RowB h2'.length (h2' ++ [(⟨46, [toV (syF s k)]⟩ : Blk)]) (.slice (some ⟨h2'.length, 0, none⟩) 1 1) 1 (fun _ => syF s k) := (vg_lit (lo := h2'.length) (t := 46) (k := 1) (n := 1) (L := [toV (syF s k)]) h2' (Nat.le_refl _) rfl).vsl
    have w1 := Wrong_r (ro := ro) (s := s) (k := k) hX r1 (by omega) (by omega) _ rfl
    rw [syF_eq, if_pos rfl] at w1
    have r2 : RowB (h2'.length + 1) (h2' ++ [(⟨46, [toV (syF s k)]⟩ : Blk)] ++ [(⟨46, [toV (ngB (syF s k))]⟩ : Blk)]) (.slice (some ⟨h2'.length + 1, 0, none⟩) 1 1) 1 (fun _ => ngB (syF s k)) := by
      have := (vg_lit (lo := h2'.length + 1) (t := 46) (k := 1) (n := 1) (L := [toV (ngB (syF s k))]) (h2' ++ [(⟨46, [toV (syF s k)]⟩ : Blk)]) (by simp) rfl).vsl
      have e : (h2' ++ [(⟨46, [toV (syF s k)]⟩ : Blk)]).length = h2'.length + 1 := by simp
      rw [e] at this
      exact this
    have w2 := Wrong_r (ro := ro) (s := s) (k := k) hX r2 (by omega) (by omega) _ rfl
    rw [syF_ne, if_neg (by decide)] at w2
    have q1 := syF_eq s k
    unfold eqC at q1
    unfold ngB at w2
    simp only [toV] at w1 w2
    have el : (h2' ++ [(⟨46, [toV (syF s k)]⟩ : Blk)]).length = h2'.length + 1 := by simp
    simp only [toV] at el
    simp -dsimp (disch := first | omega | assumption | (refine OkS.sto ?_ (by omega); first | assumption | (refine OkS.sto ?_ (by omega); first | assumption | (refine OkS.sto ?_ (by omega); first | assumption | (refine OkS.sto ?_ (by omega); first | assumption | (refine OkS.sto ?_ (by omega); first | assumption | (refine OkS.sto ?_ (by omega); first | assumption)))))) | exact Pfx.refl _ | (apply Pfx.snoc; repeat (first | exact Pfx.refl _ | assumption | apply Pfx.snoc)) | with_unfolding_all exact of_eq_true (eq_true rfl) | (simp only [List.length_append, List.length_cons, List.length_nil]; omega)) only [↓wpre0, ↓wpre1, ↓reduceIte, Int.reduceToNat, Nat.reduceAdd, Nat.reduceMul, Nat.reduceEqDiff, wpost0, wpost1, wpost2, wpost3, wpost4, ite_self, ite_true, ite_false, if_true, if_false, tze62, xst62, bin_mul, bin_add, xcv2_29, bin_fquo, xld62, xbld107_0_1_2, xbls108_0, xbls108_1, un_not, xlen44, xlen54, bin_neq, xlen36, bin_lss, bin_gtr, bin_fneq, xiad44, xld46, bin_cneq, xiad36, xld44, blt_real, bin_fgtr, bin_flss, blt_imag, xbls44_0, xbls44_1, un_cneg, bin_eql, bin_ceql, fr9, wrap_int, wrap_u8, iteP_yes, iteP_no, g7, g8, g11, w1, el, w2, Nearest_r hX, q1]
theorem lawN_c (hV : VS lo hi 1 h x cd.length (cd.map u8v)) (hU : VS lo' hi' 1 h y md.length (md.map u8v)) (hhi : hi ≤ h.length) (hhi' : hi' ≤ h.length) (hro : ro ≤ h.length) (hl : cd.length ≤ 140737488351232) (hl' : md.length ≤ 140737488351232) :
    CallR Try.prog ro (xS1 ro) 9 [x, y] h (fun r h' => r = .bool true) :=
  lawSnap_c (xn_S1 ro) xn_S0 (XDW.of xn_S0 rfl) ⟨rfl, rfl⟩ rfl hV hU hhi hhi' hro hl hl'
end Go.Proofs.Ytelogajobjflfaa.Sim
