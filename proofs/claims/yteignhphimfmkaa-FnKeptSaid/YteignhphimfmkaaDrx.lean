/- Draws of numbers with floats. Lemmas only; no condition. -/
import Derived.Test.YteignhphimfmkaaDrw
import Derived.Test.YteignhphimfmkaaMath
import Derived.Laws.FloatArith
set_option linter.unusedSimpArgs false
set_option linter.unusedVariables false
set_option maxRecDepth 8000
namespace Go.Proofs.Yteignhphimfmkaa.Sim
open Go Go.RowKit
variable {ro : Nat} {X : Ext}
/-- The bits of a single float, as they are kept. -/
def okS (b : Nat) : Prop := cf .f32 b = b ∧ b ≤ 4294967295
theorem nan_s : cf .f32 (nanOf .f32) = nanOf .f32 ∧ nanOf .f32 ≤ 4294967295 := ⟨by decide +kernel, by decide +kernel⟩
theorem okS_cf {b : Nat} (h : b ≤ 4294967295) : okS (cf .f32 b) := by
  by_cases q : (FloatKind.f32.decode b).isNaN = true
  · have e : cf .f32 b = nanOf .f32 := by unfold cf; rw [if_pos q]
    rw [e]
    exact nan_s
  · have e : cf .f32 b = b := by unfold cf; rw [if_neg q]
    rw [e]
    exact ⟨e, h⟩
theorem wf_s {b : Nat} (h : (Lit.float .f32 b).wf = true) : b ≤ 4294967295 := by
  simp [Lit.wf] at h
  omega
theorem okS_arith (op : BinOp) (a b : Nat) : okS (farith op .f32 a b) := by
  unfold farith
  refine okS_cf ?_
  cases e : floatBits op .f32 a b with
  | none => exact nan_s.2
  | some r => exact wf_s (floatBits_wf e)
theorem okS_int (n : Int) : okS (cf .f32 (FloatKind.f32.nearest n)) := okS_cf (wf_s (encode_wf .f32 _))
/-- But for one block, a heap that goes on. -/
def Dst (b : Nat) (h h' : Heap) : Prop := h.length ≤ h'.length ∧ ∀ j, j < h.length → j ≠ b → h'[j]? = h[j]?
theorem Only.dst {b : Nat} {h h' : Heap} (o : Only b h h') : Dst b h h' := ⟨Nat.le_of_eq o.1.symm, fun j _ hj => o.2 j hj⟩
theorem Pfx.dst {b : Nat} {h h' : Heap} (p : Pfx h h') : Dst b h h' := ⟨p.len, fun j hj _ => p.get hj⟩
theorem Dst.refl (b : Nat) (h : Heap) : Dst b h h := ⟨Nat.le_refl _, fun _ _ _ => rfl⟩
theorem Dst.trans {b : Nat} {h h1 h2 : Heap} (a : Dst b h h1) (c : Dst b h1 h2) : Dst b h h2 := ⟨Nat.le_trans a.1 c.1, fun j hj hb => (c.2 j (Nat.lt_of_lt_of_le hj a.1) hb).trans (a.2 j hj hb)⟩
structure XDW (X : Ext) : Prop where
  next : X 40 = none
  pick : X 29 = none
  one : X 42 = none
  plain : X 53 = none
  fine : X 50 = none
  flt : X 52 = none
  cpl : X 49 = none
  cpls : X 41 = none
  from_ : X 54 = none
  among : X 55 = none
  frm : X 47 = some (ext1 fFrom)
variable {lo hi b A : Nat} {x : Value} {cd : List UInt8} {h : Heap}
theorem DrawPlain_c (hX : XDW X) (hS : SRC lo hi b A x cd h) (hro : ro ≤ b) (hd : hi ≤ b) (hA : A ≤ 1152921504606846900) (hl : cd.length ≤ 1099511627776) :
    CallR Try.prog ro X 53 [.pointer (some ⟨b, 0, none⟩)] h (fun r h' => ∃ f, r = .float .f32 f ∧ okS f ∧ SRC lo hi b (A + 4) x cd h' ∧ Only b h h') := by
  refine callR_of hX.plain Try.func53 rfl (by kernel_rfl) (Nat.le_of_ble_eq_true rfl) ?_
  (repeat' first | simp -dsimp (disch := first | omega | assumption | (refine OkS.sto ?_ (by omega); first | assumption | (refine OkS.sto ?_ (by omega); first | assumption | (refine OkS.sto ?_ (by omega); first | assumption | (refine OkS.sto ?_ (by omega); first | assumption | (refine OkS.sto ?_ (by omega); first | assumption | (refine OkS.sto ?_ (by omega); first | assumption)))))) | exact Pfx.refl _ | (apply Pfx.snoc; repeat (first | exact Pfx.refl _ | assumption | apply Pfx.snoc)) | with_unfolding_all exact of_eq_true (eq_true rfl) | (simp only [List.length_append, List.length_cons, List.length_nil]; omega)) only [↓wpre0, ↓wpre1, ↓reduceIte, Int.reduceToNat, Nat.reduceAdd, Nat.reduceMul, Nat.reduceEqDiff, wpost0, wpost1, wpost2, wpost3, wpost4, ite_self, ite_true, ite_false, if_true, if_false, bin_sub, xcv2_73, bin_fquo, fr53, wrap_int, wrap_u8, iteP_yes, iteP_no] | refine iteP_two (fun hc hd => ?_) (fun hc hd => ?_) | refine iteP_intro (fun hc => ?_) (fun hc => ?_))
  refine cf_rel (pick_c hX.next hX.pick (n := 129) hS hro hd (by omega) hl (by omega)) (fun q => by cases q) ?_
  rintro r H1 ⟨v, rfl, _, hv, S1, o1⟩
  (repeat' first | simp -dsimp (disch := first | omega | assumption | (refine OkS.sto ?_ (by omega); first | assumption | (refine OkS.sto ?_ (by omega); first | assumption | (refine OkS.sto ?_ (by omega); first | assumption | (refine OkS.sto ?_ (by omega); first | assumption | (refine OkS.sto ?_ (by omega); first | assumption | (refine OkS.sto ?_ (by omega); first | assumption)))))) | exact Pfx.refl _ | (apply Pfx.snoc; repeat (first | exact Pfx.refl _ | assumption | apply Pfx.snoc)) | with_unfolding_all exact of_eq_true (eq_true rfl) | (simp only [List.length_append, List.length_cons, List.length_nil]; omega)) only [↓wpre0, ↓wpre1, ↓reduceIte, Int.reduceToNat, Nat.reduceAdd, Nat.reduceMul, Nat.reduceEqDiff, wpost0, wpost1, wpost2, wpost3, wpost4, ite_self, ite_true, ite_false, if_true, if_false, bin_sub, xcv2_73, bin_fquo, fr53, wrap_int, wrap_u8, iteP_yes, iteP_no] | refine iteP_two (fun hc hd => ?_) (fun hc hd => ?_) | refine iteP_intro (fun hc => ?_) (fun hc => ?_))
  refine cf_rel (one_c hX.next hX.pick hX.one (n := 4) S1 hro hd (by omega) hl (by omega)) (fun q => by cases q) ?_
  rintro r H2 ⟨q, rfl, S2, o2⟩
  have o3 := Only.trans' o1 o2
  have ef : ∀ u, endH (.float .f32 u) h H2 = H2 := fun u => endH_len o3.1
  cases q with
  | true =>
    (repeat' first | simp -dsimp (disch := first | omega | assumption | (refine OkS.sto ?_ (by omega); first | assumption | (refine OkS.sto ?_ (by omega); first | assumption | (refine OkS.sto ?_ (by omega); first | assumption | (refine OkS.sto ?_ (by omega); first | assumption | (refine OkS.sto ?_ (by omega); first | assumption | (refine OkS.sto ?_ (by omega); first | assumption)))))) | exact Pfx.refl _ | (apply Pfx.snoc; repeat (first | exact Pfx.refl _ | assumption | apply Pfx.snoc)) | with_unfolding_all exact of_eq_true (eq_true rfl) | (simp only [List.length_append, List.length_cons, List.length_nil]; omega)) only [↓wpre0, ↓wpre1, ↓reduceIte, Int.reduceToNat, Nat.reduceAdd, Nat.reduceMul, Nat.reduceEqDiff, wpost0, wpost1, wpost2, wpost3, wpost4, ite_self, ite_true, ite_false, if_true, if_false, bin_sub, xcv2_73, bin_fquo, fr53, wrap_int, wrap_u8, iteP_yes, iteP_no, ef] | refine iteP_two (fun hc hd => ?_) (fun hc hd => ?_) | refine iteP_intro (fun hc => ?_) (fun hc => ?_))
    exact ⟨_, rfl, okS_arith _ _ _, S2, o3⟩
  | false =>
    (repeat' first | simp -dsimp (disch := first | omega | assumption | (refine OkS.sto ?_ (by omega); first | assumption | (refine OkS.sto ?_ (by omega); first | assumption | (refine OkS.sto ?_ (by omega); first | assumption | (refine OkS.sto ?_ (by omega); first | assumption | (refine OkS.sto ?_ (by omega); first | assumption | (refine OkS.sto ?_ (by omega); first | assumption)))))) | exact Pfx.refl _ | (apply Pfx.snoc; repeat (first | exact Pfx.refl _ | assumption | apply Pfx.snoc)) | with_unfolding_all exact of_eq_true (eq_true rfl) | (simp only [List.length_append, List.length_cons, List.length_nil]; omega)) only [↓wpre0, ↓wpre1, ↓reduceIte, Int.reduceToNat, Nat.reduceAdd, Nat.reduceMul, Nat.reduceEqDiff, wpost0, wpost1, wpost2, wpost3, wpost4, ite_self, ite_true, ite_false, if_true, if_false, bin_sub, xcv2_73, bin_fquo, fr53, wrap_int, wrap_u8, iteP_yes, iteP_no, ef] | refine iteP_two (fun hc hd => ?_) (fun hc hd => ?_) | refine iteP_intro (fun hc => ?_) (fun hc => ?_))
    exact ⟨_, rfl, okS_arith _ _ _, S2, o3⟩
theorem DrawFine_c (hX : XDW X) (hS : SRC lo hi b A x cd h) (hro : ro ≤ b) (hd : hi ≤ b) (hA : A ≤ 1152921504606846900) (hl : cd.length ≤ 1099511627776) :
    CallR Try.prog ro X 50 [.pointer (some ⟨b, 0, none⟩)] h (fun r h' => ∃ f g, r = .complex .f32 f g ∧ okS f ∧ okS g ∧ SRC lo hi b (A + 4) x cd h' ∧ Only b h h') := by
  refine callR_of hX.fine Try.func50 rfl (by kernel_rfl) (Nat.le_of_ble_eq_true rfl) ?_
  (repeat' first | simp -dsimp (disch := first | omega | assumption | (refine OkS.sto ?_ (by omega); first | assumption | (refine OkS.sto ?_ (by omega); first | assumption | (refine OkS.sto ?_ (by omega); first | assumption | (refine OkS.sto ?_ (by omega); first | assumption | (refine OkS.sto ?_ (by omega); first | assumption | (refine OkS.sto ?_ (by omega); first | assumption)))))) | exact Pfx.refl _ | (apply Pfx.snoc; repeat (first | exact Pfx.refl _ | assumption | apply Pfx.snoc)) | with_unfolding_all exact of_eq_true (eq_true rfl) | (simp only [List.length_append, List.length_cons, List.length_nil]; omega)) only [↓wpre0, ↓wpre1, ↓reduceIte, Int.reduceToNat, Nat.reduceAdd, Nat.reduceMul, Nat.reduceEqDiff, wpost0, wpost1, wpost2, wpost3, wpost4, ite_self, ite_true, ite_false, if_true, if_false, bin_sub, xcv2_73, bin_fquo, blt_cpx, fr50, wrap_int, wrap_u8, iteP_yes, iteP_no] | refine iteP_two (fun hc hd => ?_) (fun hc hd => ?_) | refine iteP_intro (fun hc => ?_) (fun hc => ?_))
  refine cf_rel (pick_c hX.next hX.pick (n := 65) hS hro hd (by omega) hl (by omega)) (fun q => by cases q) ?_
  rintro r H1 ⟨v, rfl, _, hv, S1, o1⟩
  (repeat' first | simp -dsimp (disch := first | omega | assumption | (refine OkS.sto ?_ (by omega); first | assumption | (refine OkS.sto ?_ (by omega); first | assumption | (refine OkS.sto ?_ (by omega); first | assumption | (refine OkS.sto ?_ (by omega); first | assumption | (refine OkS.sto ?_ (by omega); first | assumption | (refine OkS.sto ?_ (by omega); first | assumption)))))) | exact Pfx.refl _ | (apply Pfx.snoc; repeat (first | exact Pfx.refl _ | assumption | apply Pfx.snoc)) | with_unfolding_all exact of_eq_true (eq_true rfl) | (simp only [List.length_append, List.length_cons, List.length_nil]; omega)) only [↓wpre0, ↓wpre1, ↓reduceIte, Int.reduceToNat, Nat.reduceAdd, Nat.reduceMul, Nat.reduceEqDiff, wpost0, wpost1, wpost2, wpost3, wpost4, ite_self, ite_true, ite_false, if_true, if_false, bin_sub, xcv2_73, bin_fquo, blt_cpx, fr50, wrap_int, wrap_u8, iteP_yes, iteP_no] | refine iteP_two (fun hc hd => ?_) (fun hc hd => ?_) | refine iteP_intro (fun hc => ?_) (fun hc => ?_))
  refine cf_rel (pick_c hX.next hX.pick (n := 65) S1 hro hd (by omega) hl (by omega)) (fun q => by cases q) ?_
  rintro r H2 ⟨v2, rfl, _, hv2, S2, o2⟩
  have o3 := Only.trans' o1 o2
  have ef : ∀ u w, endH (.complex .f32 u w) h H2 = H2 := fun u w => endH_len o3.1
  (repeat' first | simp -dsimp (disch := first | omega | assumption | (refine OkS.sto ?_ (by omega); first | assumption | (refine OkS.sto ?_ (by omega); first | assumption | (refine OkS.sto ?_ (by omega); first | assumption | (refine OkS.sto ?_ (by omega); first | assumption | (refine OkS.sto ?_ (by omega); first | assumption | (refine OkS.sto ?_ (by omega); first | assumption)))))) | exact Pfx.refl _ | (apply Pfx.snoc; repeat (first | exact Pfx.refl _ | assumption | apply Pfx.snoc)) | with_unfolding_all exact of_eq_true (eq_true rfl) | (simp only [List.length_append, List.length_cons, List.length_nil]; omega)) only [↓wpre0, ↓wpre1, ↓reduceIte, Int.reduceToNat, Nat.reduceAdd, Nat.reduceMul, Nat.reduceEqDiff, wpost0, wpost1, wpost2, wpost3, wpost4, ite_self, ite_true, ite_false, if_true, if_false, bin_sub, xcv2_73, bin_fquo, blt_cpx, fr50, wrap_int, wrap_u8, iteP_yes, iteP_no, ef] | refine iteP_two (fun hc hd => ?_) (fun hc hd => ?_) | refine iteP_intro (fun hc => ?_) (fun hc => ?_))
  exact ⟨_, _, rfl, okS_arith _ _ _, okS_arith _ _ _, S2, o3⟩
theorem From1_r (hX : XDW X) {n : Int} (h0 : 0 ≤ n) (h1 : n ≤ 4294967295) (h : Heap) : Ret Try.prog ro X 54 [.int .i64 n] h (.float .f32 (cf .f32 n.toNat)) := by
  have hw : IntKind.u32.wrap n = n := wrap_u32 h0 h1
  have fr : ∀ h', Ret Try.prog ro X 47 [.int .u32 n] h' (.float .f32 (cf .f32 n.toNat)) := fun h' _ _ => cf_eq (call_ext hX.frm rfl)
  refine ret_of (callR_of hX.from_ Try.func54 rfl (by kernel_rfl) (Nat.le_of_ble_eq_true rfl) ?_)
  (repeat' first | simp -dsimp (disch := first | omega | assumption | (refine OkS.sto ?_ (by omega); first | assumption | (refine OkS.sto ?_ (by omega); first | assumption | (refine OkS.sto ?_ (by omega); first | assumption | (refine OkS.sto ?_ (by omega); first | assumption | (refine OkS.sto ?_ (by omega); first | assumption | (refine OkS.sto ?_ (by omega); first | assumption)))))) | exact Pfx.refl _ | (apply Pfx.snoc; repeat (first | exact Pfx.refl _ | assumption | apply Pfx.snoc)) | with_unfolding_all exact of_eq_true (eq_true rfl) | (simp only [List.length_append, List.length_cons, List.length_nil]; omega)) only [↓wpre0, ↓wpre1, ↓reduceIte, Int.reduceToNat, Nat.reduceAdd, Nat.reduceMul, Nat.reduceEqDiff, wpost0, wpost1, wpost2, wpost3, wpost4, ite_self, ite_true, ite_false, if_true, if_false, xcv2_86, fr54, wrap_int, wrap_u8, iteP_yes, iteP_no, hw, fr] | refine iteP_two (fun hc hd => ?_) (fun hc hd => ?_) | refine iteP_intro (fun hc => ?_) (fun hc => ?_))
theorem among_c (hX : XDW X) {lo' hi' n : Nat} {y : Value} {L : List Int} (hI : IS lo' hi' 1 h y n L) (hn0 : 1 ≤ n) (hn : n ≤ 1048576) (hb : b < lo' ∨ hi' ≤ b) (hS : SRC lo hi b A x cd h) (hro : ro ≤ b) (hd : hi ≤ b) (hA : A ≤ 1152921504606846900) (hl : cd.length ≤ 1099511627776) :
    CallR Try.prog ro X 55 [.pointer (some ⟨b, 0, none⟩), y] h (fun r h' => ∃ i, i < n ∧ r = .int .i64 (nth L i) ∧ SRC lo hi b (A + 2) x cd h' ∧ Only b h h') := by
  refine callR_of hX.among Try.func55 rfl (by kernel_rfl) (Nat.le_of_ble_eq_true rfl) ?_
  (repeat' first | simp -dsimp (disch := first | omega | assumption | (refine OkS.sto ?_ (by omega); first | assumption | (refine OkS.sto ?_ (by omega); first | assumption | (refine OkS.sto ?_ (by omega); first | assumption | (refine OkS.sto ?_ (by omega); first | assumption | (refine OkS.sto ?_ (by omega); first | assumption | (refine OkS.sto ?_ (by omega); first | assumption)))))) | exact Pfx.refl _ | (apply Pfx.snoc; repeat (first | exact Pfx.refl _ | assumption | apply Pfx.snoc)) | with_unfolding_all exact of_eq_true (eq_true rfl) | (simp only [List.length_append, List.length_cons, List.length_nil]; omega)) only [↓wpre0, ↓wpre1, ↓reduceIte, Int.reduceToNat, Nat.reduceAdd, Nat.reduceMul, Nat.reduceEqDiff, wpost0, wpost1, wpost2, wpost3, wpost4, ite_self, ite_true, ite_false, if_true, if_false, xlen97, xiad97, xld2, fr55, wrap_int, wrap_u8, iteP_yes, iteP_no, hI.len Try.underlying97] | refine iteP_two (fun hc hd => ?_) (fun hc hd => ?_) | refine iteP_intro (fun hc => ?_) (fun hc => ?_))
  refine cf_rel (pick_c hX.next hX.pick (n := n) hS hro hd (by omega) hl (by omega)) (fun q => by cases q) ?_
  rintro r H1 ⟨v, rfl, _, hv, S1, o1⟩
  have hvn : v < n := by have := hv (by omega); omega
  have hI1 : IS lo' hi' 1 H1 y n L := hI.frame fun j h1 h2 => o1.2 j (by omega)
  have ef : ∀ u, endH (.int .i64 u) h H1 = H1 := fun u => endH_len o1.1
  (repeat' first | simp -dsimp (disch := first | omega | assumption | (refine OkS.sto ?_ (by omega); first | assumption | (refine OkS.sto ?_ (by omega); first | assumption | (refine OkS.sto ?_ (by omega); first | assumption | (refine OkS.sto ?_ (by omega); first | assumption | (refine OkS.sto ?_ (by omega); first | assumption | (refine OkS.sto ?_ (by omega); first | assumption)))))) | exact Pfx.refl _ | (apply Pfx.snoc; repeat (first | exact Pfx.refl _ | assumption | apply Pfx.snoc)) | with_unfolding_all exact of_eq_true (eq_true rfl) | (simp only [List.length_append, List.length_cons, List.length_nil]; omega)) only [↓wpre0, ↓wpre1, ↓reduceIte, Int.reduceToNat, Nat.reduceAdd, Nat.reduceMul, Nat.reduceEqDiff, wpost0, wpost1, wpost2, wpost3, wpost4, ite_self, ite_true, ite_false, if_true, if_false, xlen97, xiad97, xld2, fr55, wrap_int, wrap_u8, iteP_yes, iteP_no, ef, IS.iad hI1 Try.underlying97 tsz2, IS.ld1 hI1 tsz2 tag2, Int.toNat_natCast, Nat.mul_one] | refine iteP_two (fun hc hd => ?_) (fun hc hd => ?_) | refine iteP_intro (fun hc => ?_) (fun hc => ?_))
  exact ⟨v, hvn, rfl, S1, o1⟩
theorem lit10_l : lay (fun i => some (i * 1, 1)) (List.replicate 10 (cellsOf (.int .i64 0))).flatten [(0, .int .i64 0), (1, .int .i64 2147483648), (2, .int .i64 2139095040), (3, .int .i64 4286578688), (4, .int .i64 2143289344), (5, .int .i64 1), (6, .int .i64 2139095039), (7, .int .i64 8388608), (8, .int .i64 8388607), (9, .int .i64 2147483649)] = some (vints [0, 2147483648, 2139095040, 4286578688, 2143289344, 1, 2139095039, 8388608, 8388607, 2147483649]) := by kernel_rfl
theorem lit10 (h : Heap) : bldS Try.prog h 97 10 [(0, .int .i64 0), (1, .int .i64 2147483648), (2, .int .i64 2139095040), (3, .int .i64 4286578688), (4, .int .i64 2143289344), (5, .int .i64 1), (6, .int .i64 2139095039), (7, .int .i64 8388608), (8, .int .i64 8388607), (9, .int .i64 2147483649)] = some (.slice (some ⟨h.length, 0, none⟩) 10 10, h ++ [⟨2, vints [0, 2147483648, 2139095040, 4286578688, 2143289344, 1, 2139095039, 8388608, 8388607, 2147483649]⟩]) := by
  simp only [bldS, tel97, tsz2, tze2, Option.bind_some]
  rw [if_pos ⟨by decide, by kernel_rfl⟩, lit10_l]
  rfl
theorem lit4_l : lay (fun i => some (i * 1, 1)) (List.replicate 4 (cellsOf (.int .i64 0))).flatten [(0, .int .i64 8388608), (1, .int .i64 2130706432), (2, .int .i64 1610612736), (3, .int .i64 536870912)] = some (vints [8388608, 2130706432, 1610612736, 536870912]) := by kernel_rfl
theorem lit4 (h : Heap) : bldS Try.prog h 97 4 [(0, .int .i64 8388608), (1, .int .i64 2130706432), (2, .int .i64 1610612736), (3, .int .i64 536870912)] = some (.slice (some ⟨h.length, 0, none⟩) 4 4, h ++ [⟨2, vints [8388608, 2130706432, 1610612736, 536870912]⟩]) := by
  simp only [bldS, tel97, tsz2, tze2, Option.bind_some]
  rw [if_pos ⟨by decide, by kernel_rfl⟩, lit4_l]
  rfl
theorem is_lit {t : TypeId} (h : Heap) (L : List Int) : IS h.length (h.length + 1) 1 (h ++ [⟨t, vints L⟩]) (.slice (some ⟨h.length, 0, none⟩) L.length L.length) L.length L := VS.is (vg_lit (k := 1) (n := L.length) h (Nat.le_refl _) (by rw [vints_len, Nat.mul_one])).vs
theorem endH_src {A' : Nat} {v : Value} {h' : Heap} (hS : SRC lo hi b A x cd h) (hS' : SRC lo hi b A' x cd h') (hA : A ≤ A') (d : Dst b h h') : SRC lo hi b A' x cd (endH v h h') ∧ Dst b h (endH v h h') := by
  unfold endH
  split
  · exact ⟨hS.more hA, .refl _ _⟩
  · exact ⟨hS', d⟩
set_option maxHeartbeats 2000000 in
theorem DrawFloat_c (hX : XDW X) (hS : SRC lo hi b A x cd h) (hro : ro ≤ b) (hq : hi ≤ b) (hA : A ≤ 1152921504606846800) (hl : cd.length ≤ 1099511627776) :
    CallR Try.prog ro X 52 [.pointer (some ⟨b, 0, none⟩)] h (fun r h' => ∃ f, r = .float .f32 f ∧ okS f ∧ SRC lo hi b (A + 10) x cd h' ∧ Dst b h h') := by
  refine callR_of hX.flt Try.func52 rfl (by kernel_rfl) (Nat.le_of_ble_eq_true rfl) ?_
  have hbl := hS.lt
  (repeat' first | simp -dsimp (disch := first | omega | assumption | (refine OkS.sto ?_ (by omega); first | assumption | (refine OkS.sto ?_ (by omega); first | assumption | (refine OkS.sto ?_ (by omega); first | assumption | (refine OkS.sto ?_ (by omega); first | assumption | (refine OkS.sto ?_ (by omega); first | assumption | (refine OkS.sto ?_ (by omega); first | assumption)))))) | exact Pfx.refl _ | (apply Pfx.snoc; repeat (first | exact Pfx.refl _ | assumption | apply Pfx.snoc)) | with_unfolding_all exact of_eq_true (eq_true rfl) | (simp only [List.length_append, List.length_cons, List.length_nil]; omega)) only [↓wpre0, ↓wpre1, ↓reduceIte, Int.reduceToNat, Nat.reduceAdd, Nat.reduceMul, Nat.reduceEqDiff, wpost0, wpost1, wpost2, wpost3, wpost4, ite_self, ite_true, ite_false, if_true, if_false, un_not, bin_eql, xbls97_0, xbls97_1, bin_mul, bin_add, bin_fmul, fr52, wrap_int, wrap_u8, iteP_yes, iteP_no] | refine iteP_two (fun hc hd => ?_) (fun hc hd => ?_) | refine iteP_intro (fun hc => ?_) (fun hc => ?_))
  refine cf_rel (one_c hX.next hX.pick hX.one (n := 12) hS hro hq (by omega) hl (by omega)) (fun q => by cases q) ?_
  rintro r H1 ⟨q, rfl, S1, o1⟩
  cases q with
  | false =>
    (repeat' first | simp -dsimp (disch := first | omega | assumption | (refine OkS.sto ?_ (by omega); first | assumption | (refine OkS.sto ?_ (by omega); first | assumption | (refine OkS.sto ?_ (by omega); first | assumption | (refine OkS.sto ?_ (by omega); first | assumption | (refine OkS.sto ?_ (by omega); first | assumption | (refine OkS.sto ?_ (by omega); first | assumption)))))) | exact Pfx.refl _ | (apply Pfx.snoc; repeat (first | exact Pfx.refl _ | assumption | apply Pfx.snoc)) | with_unfolding_all exact of_eq_true (eq_true rfl) | (simp only [List.length_append, List.length_cons, List.length_nil]; omega)) only [↓wpre0, ↓wpre1, ↓reduceIte, Int.reduceToNat, Nat.reduceAdd, Nat.reduceMul, Nat.reduceEqDiff, wpost0, wpost1, wpost2, wpost3, wpost4, ite_self, ite_true, ite_false, if_true, if_false, un_not, bin_eql, xbls97_0, xbls97_1, bin_mul, bin_add, bin_fmul, fr52, wrap_int, wrap_u8, iteP_yes, iteP_no, Bool.not_false] | refine iteP_two (fun hc hd => ?_) (fun hc hd => ?_) | refine iteP_intro (fun hc => ?_) (fun hc => ?_))
    refine cf_rel (DrawPlain_c hX S1 hro hq (by omega) hl) (fun q => by cases q) ?_
    rintro r H2 ⟨f, rfl, hf, S2, o2⟩
    have o3 := Only.trans' o1 o2
    have ef : ∀ u, endH (.float .f32 u) h H2 = H2 := fun u => endH_len o3.1
    (repeat' first | simp -dsimp (disch := first | omega | assumption | (refine OkS.sto ?_ (by omega); first | assumption | (refine OkS.sto ?_ (by omega); first | assumption | (refine OkS.sto ?_ (by omega); first | assumption | (refine OkS.sto ?_ (by omega); first | assumption | (refine OkS.sto ?_ (by omega); first | assumption | (refine OkS.sto ?_ (by omega); first | assumption)))))) | exact Pfx.refl _ | (apply Pfx.snoc; repeat (first | exact Pfx.refl _ | assumption | apply Pfx.snoc)) | with_unfolding_all exact of_eq_true (eq_true rfl) | (simp only [List.length_append, List.length_cons, List.length_nil]; omega)) only [↓wpre0, ↓wpre1, ↓reduceIte, Int.reduceToNat, Nat.reduceAdd, Nat.reduceMul, Nat.reduceEqDiff, wpost0, wpost1, wpost2, wpost3, wpost4, ite_self, ite_true, ite_false, if_true, if_false, un_not, bin_eql, xbls97_0, xbls97_1, bin_mul, bin_add, bin_fmul, fr52, wrap_int, wrap_u8, iteP_yes, iteP_no, ef] | refine iteP_two (fun hc hd => ?_) (fun hc hd => ?_) | refine iteP_intro (fun hc => ?_) (fun hc => ?_))
    exact ⟨_, rfl, hf, S2.more (by omega), o3.dst⟩
  | true =>
    (repeat' first | simp -dsimp (disch := first | omega | assumption | (refine OkS.sto ?_ (by omega); first | assumption | (refine OkS.sto ?_ (by omega); first | assumption | (refine OkS.sto ?_ (by omega); first | assumption | (refine OkS.sto ?_ (by omega); first | assumption | (refine OkS.sto ?_ (by omega); first | assumption | (refine OkS.sto ?_ (by omega); first | assumption)))))) | exact Pfx.refl _ | (apply Pfx.snoc; repeat (first | exact Pfx.refl _ | assumption | apply Pfx.snoc)) | with_unfolding_all exact of_eq_true (eq_true rfl) | (simp only [List.length_append, List.length_cons, List.length_nil]; omega)) only [↓wpre0, ↓wpre1, ↓reduceIte, Int.reduceToNat, Nat.reduceAdd, Nat.reduceMul, Nat.reduceEqDiff, wpost0, wpost1, wpost2, wpost3, wpost4, ite_self, ite_true, ite_false, if_true, if_false, un_not, bin_eql, xbls97_0, xbls97_1, bin_mul, bin_add, bin_fmul, fr52, wrap_int, wrap_u8, iteP_yes, iteP_no, Bool.not_true] | refine iteP_two (fun hc hd => ?_) (fun hc hd => ?_) | refine iteP_intro (fun hc => ?_) (fun hc => ?_))
    refine cf_rel (pick_c hX.next hX.pick (n := 4) S1 hro hq (by omega) hl (by omega)) (fun q => by cases q) ?_
    rintro r H2 ⟨v, rfl, _, hv, S2, o2⟩
    have o3 := Only.trans' o1 o2
    have l3 := o3.1
    (repeat' first | simp -dsimp (disch := first | omega | assumption | (refine OkS.sto ?_ (by omega); first | assumption | (refine OkS.sto ?_ (by omega); first | assumption | (refine OkS.sto ?_ (by omega); first | assumption | (refine OkS.sto ?_ (by omega); first | assumption | (refine OkS.sto ?_ (by omega); first | assumption | (refine OkS.sto ?_ (by omega); first | assumption)))))) | exact Pfx.refl _ | (apply Pfx.snoc; repeat (first | exact Pfx.refl _ | assumption | apply Pfx.snoc)) | with_unfolding_all exact of_eq_true (eq_true rfl) | (simp only [List.length_append, List.length_cons, List.length_nil]; omega)) only [↓wpre0, ↓wpre1, ↓reduceIte, Int.reduceToNat, Nat.reduceAdd, Nat.reduceMul, Nat.reduceEqDiff, wpost0, wpost1, wpost2, wpost3, wpost4, ite_self, ite_true, ite_false, if_true, if_false, un_not, bin_eql, xbls97_0, xbls97_1, bin_mul, bin_add, bin_fmul, fr52, wrap_int, wrap_u8, iteP_yes, iteP_no, lit10, lit4] | refine iteP_two (fun hc hd => ?_) (fun hc hd => ?_) | refine iteP_intro (fun hc => ?_) (fun hc => ?_))
    · have I0 : IS H2.length (H2.length + 1) 1 (H2 ++ [⟨2, vints [0, 2147483648, 2139095040, 4286578688, 2143289344, 1, 2139095039, 8388608, 8388607, 2147483649]⟩]) (.slice (some ⟨H2.length, 0, none⟩) 10 10) 10 [0, 2147483648, 2139095040, 4286578688, 2143289344, 1, 2139095039, 8388608, 8388607, 2147483649] := is_lit H2 _
      have px : Pfx H2 (H2 ++ [(⟨2, vints [0, 2147483648, 2139095040, 4286578688, 2143289344, 1, 2139095039, 8388608, 8388607, 2147483649]⟩ : Blk)]) := (Pfx.refl H2).snoc
      refine cf_rel (among_c hX I0 (by omega) (by omega) (by omega) (S2.pre px) hro hq (by omega) hl) (fun q => by cases q) ?_
      rintro r H3 ⟨i, hi2, rfl, S3, o4⟩
      have hall : ∀ i, i < 10 → 0 ≤ nth [0, 2147483648, 2139095040, 4286578688, 2143289344, 1, 2139095039, 8388608, 8388607, 2147483649] i ∧ nth [0, 2147483648, 2139095040, 4286578688, 2143289344, 1, 2139095039, 8388608, 8388607, 2147483649] i ≤ 4294967295 := by decide
      obtain ⟨z0, z1⟩ := hall i hi2
      have d4 : Dst b h H3 := o3.dst.trans (px.dst.trans o4.dst)
      have fr := From1_r (ro := ro) hX z0 z1
      generalize nth [0, 2147483648, 2139095040, 4286578688, 2143289344, 1, 2139095039, 8388608, 8388607, 2147483649] i = z at *
      (repeat' first | simp -dsimp (disch := first | omega | assumption | (refine OkS.sto ?_ (by omega); first | assumption | (refine OkS.sto ?_ (by omega); first | assumption | (refine OkS.sto ?_ (by omega); first | assumption | (refine OkS.sto ?_ (by omega); first | assumption | (refine OkS.sto ?_ (by omega); first | assumption | (refine OkS.sto ?_ (by omega); first | assumption)))))) | exact Pfx.refl _ | (apply Pfx.snoc; repeat (first | exact Pfx.refl _ | assumption | apply Pfx.snoc)) | with_unfolding_all exact of_eq_true (eq_true rfl) | (simp only [List.length_append, List.length_cons, List.length_nil]; omega)) only [↓wpre0, ↓wpre1, ↓reduceIte, Int.reduceToNat, Nat.reduceAdd, Nat.reduceMul, Nat.reduceEqDiff, wpost0, wpost1, wpost2, wpost3, wpost4, ite_self, ite_true, ite_false, if_true, if_false, un_not, bin_eql, xbls97_0, xbls97_1, bin_mul, bin_add, bin_fmul, fr52, wrap_int, wrap_u8, iteP_yes, iteP_no, fr] | refine iteP_two (fun hc hd => ?_) (fun hc hd => ?_) | refine iteP_intro (fun hc => ?_) (fun hc => ?_))
      have es := endH_src (v := .float .f32 (cf .f32 z.toNat)) (A' := A + 10) hS (S3.more (by omega)) (by omega) d4
      exact ⟨_, rfl, okS_cf (by omega), es.1, es.2⟩
    · refine cf_rel (pick_c hX.next hX.pick (n := 65536) S2 hro hq (by omega) hl (by omega)) (fun q => by cases q) ?_
      rintro r H3 ⟨v3, rfl, _, hv3, S3, o4⟩
      have o5 := Only.trans' o3 o4
      (repeat' first | simp -dsimp (disch := first | omega | assumption | (refine OkS.sto ?_ (by omega); first | assumption | (refine OkS.sto ?_ (by omega); first | assumption | (refine OkS.sto ?_ (by omega); first | assumption | (refine OkS.sto ?_ (by omega); first | assumption | (refine OkS.sto ?_ (by omega); first | assumption | (refine OkS.sto ?_ (by omega); first | assumption)))))) | exact Pfx.refl _ | (apply Pfx.snoc; repeat (first | exact Pfx.refl _ | assumption | apply Pfx.snoc)) | with_unfolding_all exact of_eq_true (eq_true rfl) | (simp only [List.length_append, List.length_cons, List.length_nil]; omega)) only [↓wpre0, ↓wpre1, ↓reduceIte, Int.reduceToNat, Nat.reduceAdd, Nat.reduceMul, Nat.reduceEqDiff, wpost0, wpost1, wpost2, wpost3, wpost4, ite_self, ite_true, ite_false, if_true, if_false, un_not, bin_eql, xbls97_0, xbls97_1, bin_mul, bin_add, bin_fmul, fr52, wrap_int, wrap_u8, iteP_yes, iteP_no] | refine iteP_two (fun hc hd => ?_) (fun hc hd => ?_) | refine iteP_intro (fun hc => ?_) (fun hc => ?_))
      refine cf_rel (pick_c hX.next hX.pick (n := 65536) S3 hro hq (by omega) hl (by omega)) (fun q => by cases q) ?_
      rintro r H4 ⟨v4, rfl, _, hv4, S4, o6⟩
      have o7 := Only.trans' o5 o6
      have ef : ∀ u, endH (.float .f32 u) h H4 = H4 := fun u => endH_len o7.1
      have fr := From1_r (ro := ro) hX (n := (v3 : Int) * 65536 + v4) (by omega) (by omega)
      (repeat' first | simp -dsimp (disch := first | omega | assumption | (refine OkS.sto ?_ (by omega); first | assumption | (refine OkS.sto ?_ (by omega); first | assumption | (refine OkS.sto ?_ (by omega); first | assumption | (refine OkS.sto ?_ (by omega); first | assumption | (refine OkS.sto ?_ (by omega); first | assumption | (refine OkS.sto ?_ (by omega); first | assumption)))))) | exact Pfx.refl _ | (apply Pfx.snoc; repeat (first | exact Pfx.refl _ | assumption | apply Pfx.snoc)) | with_unfolding_all exact of_eq_true (eq_true rfl) | (simp only [List.length_append, List.length_cons, List.length_nil]; omega)) only [↓wpre0, ↓wpre1, ↓reduceIte, Int.reduceToNat, Nat.reduceAdd, Nat.reduceMul, Nat.reduceEqDiff, wpost0, wpost1, wpost2, wpost3, wpost4, ite_self, ite_true, ite_false, if_true, if_false, un_not, bin_eql, xbls97_0, xbls97_1, bin_mul, bin_add, bin_fmul, fr52, wrap_int, wrap_u8, iteP_yes, iteP_no, fr, ef] | refine iteP_two (fun hc hd => ?_) (fun hc hd => ?_) | refine iteP_intro (fun hc => ?_) (fun hc => ?_))
      exact ⟨_, rfl, okS_cf (by omega), S4.more (by omega), o7.dst⟩
    · refine cf_rel (pick_c hX.next hX.pick (n := 65536) S2 hro hq (by omega) hl (by omega)) (fun q => by cases q) ?_
      rintro r H3 ⟨v3, rfl, _, hv3, S3, o4⟩
      have o5 := Only.trans' o3 o4
      have ef : ∀ u, endH (.float .f32 u) h H3 = H3 := fun u => endH_len o5.1
      have fr := From1_r (ro := ro) hX (n := (v3 : Int) * 65536) (by omega) (by omega)
      (repeat' first | simp -dsimp (disch := first | omega | assumption | (refine OkS.sto ?_ (by omega); first | assumption | (refine OkS.sto ?_ (by omega); first | assumption | (refine OkS.sto ?_ (by omega); first | assumption | (refine OkS.sto ?_ (by omega); first | assumption | (refine OkS.sto ?_ (by omega); first | assumption | (refine OkS.sto ?_ (by omega); first | assumption)))))) | exact Pfx.refl _ | (apply Pfx.snoc; repeat (first | exact Pfx.refl _ | assumption | apply Pfx.snoc)) | with_unfolding_all exact of_eq_true (eq_true rfl) | (simp only [List.length_append, List.length_cons, List.length_nil]; omega)) only [↓wpre0, ↓wpre1, ↓reduceIte, Int.reduceToNat, Nat.reduceAdd, Nat.reduceMul, Nat.reduceEqDiff, wpost0, wpost1, wpost2, wpost3, wpost4, ite_self, ite_true, ite_false, if_true, if_false, un_not, bin_eql, xbls97_0, xbls97_1, bin_mul, bin_add, bin_fmul, fr52, wrap_int, wrap_u8, iteP_yes, iteP_no, fr, ef] | refine iteP_two (fun hc hd => ?_) (fun hc hd => ?_) | refine iteP_intro (fun hc => ?_) (fun hc => ?_))
      exact ⟨_, rfl, okS_cf (by omega), S3.more (by omega), o5.dst⟩
    · refine cf_rel (DrawPlain_c hX S2 hro hq (by omega) hl) (fun q => by cases q) ?_
      rintro r H3 ⟨f, rfl, hf, S3, o4⟩
      have o5 := Only.trans' o3 o4
      have l5 := o5.1
      (repeat' first | simp -dsimp (disch := first | omega | assumption | (refine OkS.sto ?_ (by omega); first | assumption | (refine OkS.sto ?_ (by omega); first | assumption | (refine OkS.sto ?_ (by omega); first | assumption | (refine OkS.sto ?_ (by omega); first | assumption | (refine OkS.sto ?_ (by omega); first | assumption | (refine OkS.sto ?_ (by omega); first | assumption)))))) | exact Pfx.refl _ | (apply Pfx.snoc; repeat (first | exact Pfx.refl _ | assumption | apply Pfx.snoc)) | with_unfolding_all exact of_eq_true (eq_true rfl) | (simp only [List.length_append, List.length_cons, List.length_nil]; omega)) only [↓wpre0, ↓wpre1, ↓reduceIte, Int.reduceToNat, Nat.reduceAdd, Nat.reduceMul, Nat.reduceEqDiff, wpost0, wpost1, wpost2, wpost3, wpost4, ite_self, ite_true, ite_false, if_true, if_false, un_not, bin_eql, xbls97_0, xbls97_1, bin_mul, bin_add, bin_fmul, fr52, wrap_int, wrap_u8, iteP_yes, iteP_no, lit4] | refine iteP_two (fun hc hd => ?_) (fun hc hd => ?_) | refine iteP_intro (fun hc => ?_) (fun hc => ?_))
      have I0 : IS H3.length (H3.length + 1) 1 (H3 ++ [⟨2, vints [8388608, 2130706432, 1610612736, 536870912]⟩]) (.slice (some ⟨H3.length, 0, none⟩) 4 4) 4 [8388608, 2130706432, 1610612736, 536870912] := is_lit H3 _
      have px : Pfx H3 (H3 ++ [(⟨2, vints [8388608, 2130706432, 1610612736, 536870912]⟩ : Blk)]) := (Pfx.refl H3).snoc
      refine cf_rel (among_c hX I0 (by omega) (by omega) (by omega) (S3.pre px) hro hq (by omega) hl) (fun q => by cases q) ?_
      rintro r H4 ⟨i, hi2, rfl, S4, o6⟩
      have hall : ∀ i, i < 4 → 0 ≤ nth [8388608, 2130706432, 1610612736, 536870912] i ∧ nth [8388608, 2130706432, 1610612736, 536870912] i ≤ 4294967295 := by decide
      obtain ⟨z0, z1⟩ := hall i hi2
      have d4 : Dst b h H4 := o5.dst.trans (px.dst.trans o6.dst)
      have fr := From1_r (ro := ro) hX z0 z1
      generalize nth [8388608, 2130706432, 1610612736, 536870912] i = z at *
      (repeat' first | simp -dsimp (disch := first | omega | assumption | (refine OkS.sto ?_ (by omega); first | assumption | (refine OkS.sto ?_ (by omega); first | assumption | (refine OkS.sto ?_ (by omega); first | assumption | (refine OkS.sto ?_ (by omega); first | assumption | (refine OkS.sto ?_ (by omega); first | assumption | (refine OkS.sto ?_ (by omega); first | assumption)))))) | exact Pfx.refl _ | (apply Pfx.snoc; repeat (first | exact Pfx.refl _ | assumption | apply Pfx.snoc)) | with_unfolding_all exact of_eq_true (eq_true rfl) | (simp only [List.length_append, List.length_cons, List.length_nil]; omega)) only [↓wpre0, ↓wpre1, ↓reduceIte, Int.reduceToNat, Nat.reduceAdd, Nat.reduceMul, Nat.reduceEqDiff, wpost0, wpost1, wpost2, wpost3, wpost4, ite_self, ite_true, ite_false, if_true, if_false, un_not, bin_eql, xbls97_0, xbls97_1, bin_mul, bin_add, bin_fmul, fr52, wrap_int, wrap_u8, iteP_yes, iteP_no, fr] | refine iteP_two (fun hc hd => ?_) (fun hc hd => ?_) | refine iteP_intro (fun hc => ?_) (fun hc => ?_))
      have es := fun v => endH_src (v := v) (A' := A + 10) hS (S4.more (by omega)) (by omega) d4
      exact ⟨_, rfl, okS_arith _ _ _, (es _).1, (es _).2⟩
theorem SRC.dst {A' : Nat} {h' : Heap} (s : SRC lo hi b A x cd h') (hA : A ≤ A') : SRC lo hi b A' x cd h' := s.more hA
theorem DrawComplex_c (hX : XDW X) (hS : SRC lo hi b A x cd h) (hro : ro ≤ b) (hq : hi ≤ b) (hA : A ≤ 1152921504606846700) (hl : cd.length ≤ 1099511627776) :
    CallR Try.prog ro X 49 [.pointer (some ⟨b, 0, none⟩)] h (fun r h' => ∃ f g, r = .complex .f32 f g ∧ okS f ∧ okS g ∧ SRC lo hi b (A + 20) x cd h' ∧ Dst b h h') := by
  refine callR_of hX.cpl Try.func49 rfl (by kernel_rfl) (Nat.le_of_ble_eq_true rfl) ?_
  (repeat' first | simp -dsimp (disch := first | omega | assumption | (refine OkS.sto ?_ (by omega); first | assumption | (refine OkS.sto ?_ (by omega); first | assumption | (refine OkS.sto ?_ (by omega); first | assumption | (refine OkS.sto ?_ (by omega); first | assumption | (refine OkS.sto ?_ (by omega); first | assumption | (refine OkS.sto ?_ (by omega); first | assumption)))))) | exact Pfx.refl _ | (apply Pfx.snoc; repeat (first | exact Pfx.refl _ | assumption | apply Pfx.snoc)) | with_unfolding_all exact of_eq_true (eq_true rfl) | (simp only [List.length_append, List.length_cons, List.length_nil]; omega)) only [↓wpre0, ↓wpre1, ↓reduceIte, Int.reduceToNat, Nat.reduceAdd, Nat.reduceMul, Nat.reduceEqDiff, wpost0, wpost1, wpost2, wpost3, wpost4, ite_self, ite_true, ite_false, if_true, if_false, blt_cpx, fr49, wrap_int, wrap_u8, iteP_yes, iteP_no] | refine iteP_two (fun hc hd => ?_) (fun hc hd => ?_) | refine iteP_intro (fun hc => ?_) (fun hc => ?_))
  refine cf_rel (DrawFloat_c hX hS hro hq (by omega) hl) (fun q => by cases q) ?_
  rintro r H1 ⟨f, rfl, hf, S1, o1⟩
  (repeat' first | simp -dsimp (disch := first | omega | assumption | (refine OkS.sto ?_ (by omega); first | assumption | (refine OkS.sto ?_ (by omega); first | assumption | (refine OkS.sto ?_ (by omega); first | assumption | (refine OkS.sto ?_ (by omega); first | assumption | (refine OkS.sto ?_ (by omega); first | assumption | (refine OkS.sto ?_ (by omega); first | assumption)))))) | exact Pfx.refl _ | (apply Pfx.snoc; repeat (first | exact Pfx.refl _ | assumption | apply Pfx.snoc)) | with_unfolding_all exact of_eq_true (eq_true rfl) | (simp only [List.length_append, List.length_cons, List.length_nil]; omega)) only [↓wpre0, ↓wpre1, ↓reduceIte, Int.reduceToNat, Nat.reduceAdd, Nat.reduceMul, Nat.reduceEqDiff, wpost0, wpost1, wpost2, wpost3, wpost4, ite_self, ite_true, ite_false, if_true, if_false, blt_cpx, fr49, wrap_int, wrap_u8, iteP_yes, iteP_no] | refine iteP_two (fun hc hd => ?_) (fun hc hd => ?_) | refine iteP_intro (fun hc => ?_) (fun hc => ?_))
  refine cf_rel (DrawFloat_c hX S1 hro hq (by omega) hl) (fun q => by cases q) ?_
  rintro r H2 ⟨g, rfl, hg, S2, o2⟩
  (repeat' first | simp -dsimp (disch := first | omega | assumption | (refine OkS.sto ?_ (by omega); first | assumption | (refine OkS.sto ?_ (by omega); first | assumption | (refine OkS.sto ?_ (by omega); first | assumption | (refine OkS.sto ?_ (by omega); first | assumption | (refine OkS.sto ?_ (by omega); first | assumption | (refine OkS.sto ?_ (by omega); first | assumption)))))) | exact Pfx.refl _ | (apply Pfx.snoc; repeat (first | exact Pfx.refl _ | assumption | apply Pfx.snoc)) | with_unfolding_all exact of_eq_true (eq_true rfl) | (simp only [List.length_append, List.length_cons, List.length_nil]; omega)) only [↓wpre0, ↓wpre1, ↓reduceIte, Int.reduceToNat, Nat.reduceAdd, Nat.reduceMul, Nat.reduceEqDiff, wpost0, wpost1, wpost2, wpost3, wpost4, ite_self, ite_true, ite_false, if_true, if_false, blt_cpx, fr49, wrap_int, wrap_u8, iteP_yes, iteP_no] | refine iteP_two (fun hc hd => ?_) (fun hc hd => ?_) | refine iteP_intro (fun hc => ?_) (fun hc => ?_))
  have es := fun v => endH_src (v := v) (A' := A + 20) hS (S2.more (by omega)) (by omega) (o1.trans o2)
  exact ⟨_, _, rfl, hf, hg, (es _).1, (es _).2⟩
/-- A complex number as a cell. -/
def cpz (z : Nat × Nat) : Value := .complex .f32 z.1 z.2
theorem VN.dst {lo t n : Nat} {h h' : Heap} {y : Value} {L : List Value} (g : VG lo t 1 h y n L) (d : Dst b h h') (hb : b < lo) : VG lo t 1 h' y n L := g.frame (d.2 _ g.bof.2 (by have := g.bof.1; omega))
theorem DrawComplexes_c (hX : XDW X) {n : Nat} (hn : n ≤ 4096) (hS : SRC lo hi b A x cd h) (hro : ro ≤ b) (hq : hi ≤ b) (hA : A ≤ 1152921504606000000) (hl : cd.length ≤ 1099511627776) :
    CallR Try.prog ro X 41 [.pointer (some ⟨b, 0, none⟩), .int .i64 n] h (fun r h' => ∃ zs : List (Nat × Nat), zs.length = n ∧ (∀ z ∈ zs, okS z.1 ∧ okS z.2) ∧ VG h.length 65 1 h' r n (zs.map cpz) ∧ SRC lo hi b (A + 2 + n * 20) x cd h' ∧ Dst b h h') := by
  refine callR_of hX.cpls Try.func41 rfl (by kernel_rfl) (Nat.le_of_ble_eq_true rfl) ?_
  have hbl := hS.lt
  (repeat' first | simp -dsimp (disch := first | omega | assumption | (refine OkS.sto ?_ (by omega); first | assumption | (refine OkS.sto ?_ (by omega); first | assumption | (refine OkS.sto ?_ (by omega); first | assumption | (refine OkS.sto ?_ (by omega); first | assumption | (refine OkS.sto ?_ (by omega); first | assumption | (refine OkS.sto ?_ (by omega); first | assumption)))))) | exact Pfx.refl _ | (apply Pfx.snoc; repeat (first | exact Pfx.refl _ | assumption | apply Pfx.snoc)) | with_unfolding_all exact of_eq_true (eq_true rfl) | (simp only [List.length_append, List.length_cons, List.length_nil]; omega)) only [↓wpre0, ↓wpre1, ↓reduceIte, Int.reduceToNat, Nat.reduceAdd, Nat.reduceMul, Nat.reduceEqDiff, wpost0, wpost1, wpost2, wpost3, wpost4, ite_self, ite_true, ite_false, if_true, if_false, xbls39_0, xbls39_1, bin_gtr, bin_sub, fr41, wrap_int, wrap_u8, iteP_yes, iteP_no] | refine iteP_two (fun hc hd => ?_) (fun hc hd => ?_) | refine iteP_intro (fun hc => ?_) (fun hc => ?_))
  have p0 : Pfx h (h ++ [(⟨65, []⟩ : Blk)]) := (Pfx.refl h).snoc
  refine cf_rel (one_c hX.next hX.pick hX.one (n := 5) (hS.pre p0) hro hq (by omega) hl (by omega)) (fun q => by cases q) ?_
  rintro r H1 ⟨q, rfl, S1, o1⟩
  have d1 : Dst b h H1 := p0.dst.trans o1.dst
  have V1 : VG h.length 65 1 H1 (.slice (some ⟨h.length, 0, none⟩) 0 0) 0 [] := VN.dst (vg_new h (Nat.le_refl _)) o1.dst hbl
  (repeat' first | simp -dsimp (disch := first | omega | assumption | (refine OkS.sto ?_ (by omega); first | assumption | (refine OkS.sto ?_ (by omega); first | assumption | (refine OkS.sto ?_ (by omega); first | assumption | (refine OkS.sto ?_ (by omega); first | assumption | (refine OkS.sto ?_ (by omega); first | assumption | (refine OkS.sto ?_ (by omega); first | assumption)))))) | exact Pfx.refl _ | (apply Pfx.snoc; repeat (first | exact Pfx.refl _ | assumption | apply Pfx.snoc)) | with_unfolding_all exact of_eq_true (eq_true rfl) | (simp only [List.length_append, List.length_cons, List.length_nil]; omega)) only [↓wpre0, ↓wpre1, ↓reduceIte, Int.reduceToNat, Nat.reduceAdd, Nat.reduceMul, Nat.reduceEqDiff, wpost0, wpost1, wpost2, wpost3, wpost4, ite_self, ite_true, ite_false, if_true, if_false, xbls39_0, xbls39_1, bin_gtr, bin_sub, fr41, wrap_int, wrap_u8, iteP_yes, iteP_no] | refine iteP_two (fun hc hd => ?_) (fun hc hd => ?_) | refine iteP_intro (fun hc => ?_) (fun hc => ?_))
  refine loop_rounds (fun m e h' => ∃ (i : Nat) (y : Value) (zs : List (Nat × Nat)), m = n - i ∧ i ≤ n ∧ zs.length = i ∧ (∀ z ∈ zs, okS z.1 ∧ okS z.2) ∧ e 0 = .pointer (some ⟨b, 0, none⟩) ∧ e 1 = .int .i64 ((n - i : Nat) : Int) ∧ e 5 = y ∧ e 6 = .bool q ∧ VG h.length 65 1 h' y i (zs.map cpz) ∧ SRC lo hi b (A + 2 + i * 20) x cd h' ∧ Dst b h h') _ ⟨0, .slice (some ⟨h.length, 0, none⟩) 0 0, [], rfl, ?_⟩ ?_
  · simp only [updO_at, updO_not, entry_at, List.getD_cons_zero, List.getD_cons_succ, ↓reduceIte, Nat.reduceEqDiff, true_and, and_true]
    exact ⟨by omega, rfl, (fun z hz => by cases hz), rfl, V1, by rw [Nat.zero_mul, Nat.add_zero]; exact S1, d1⟩
  · rintro m e h' ⟨i, y, zs, hm, hle, hz, hok, g0, g1, g5, g6, hV, hSi, hd⟩
    have hl2 := hd.1
    by_cases hin : i < n
    · have acc : ∀ (H2 : Heap) (f g : Nat), okS f → okS g → VG h.length 65 1 H2 y i (zs.map cpz) → SRC lo hi b (A + 2 + i * 20 + 20) x cd H2 → Dst b h H2 → ∃ H, ablt Try.prog ro .append [39, 39] [y, .slice (some ⟨H2.length, 0, none⟩) 1 1] (H2 ++ [⟨65, [.complex .f32 f g]⟩]) = some (.slice (some ⟨H2.length + 1, 0, none⟩) (i + 1) (i + 1 + 1), H) ∧ VG h.length 65 1 H (.slice (some ⟨H2.length + 1, 0, none⟩) (i + 1) (i + 1 + 1)) (i + 1) ((zs ++ [(f, g)]).map cpz) ∧ SRC lo hi b (A + 2 + (i + 1) * 20) x cd H ∧ Dst b h H := by
        intro H2 f g hf hg hV2 hS2 hd2
        obtain ⟨H, ap, vg, old, hlen⟩ := acc1 (P := Try.prog) (ro := ro) (T := 39) (h := H2) (v := .complex .f32 f g) tel39 tsz65 tby65 tze65 (.inl hV2) (by omega) hd2.1 rfl (by omega) (by omega)
        have hb2 := hV2.bof
        have hd2l := hd2.1
        refine ⟨H, ap, by rw [List.map_append]; exact vg, ?_, ?_⟩
        · refine (hS2.frame (old.2.1 b (by omega) (.inr (by omega))) fun j h1 h2 => old.2.1 j (by omega) (.inr (by omega))).more (by omega)
        · exact ⟨by omega, fun j hj hjb => by rw [old.2.1 j (by omega) (.inr (by omega))]; exact hd2.2 j hj hjb⟩
      cases q with
      | true =>
        (repeat' first | simp -dsimp (disch := first | omega | assumption | (refine OkS.sto ?_ (by omega); first | assumption | (refine OkS.sto ?_ (by omega); first | assumption | (refine OkS.sto ?_ (by omega); first | assumption | (refine OkS.sto ?_ (by omega); first | assumption | (refine OkS.sto ?_ (by omega); first | assumption | (refine OkS.sto ?_ (by omega); first | assumption)))))) | exact Pfx.refl _ | (apply Pfx.snoc; repeat (first | exact Pfx.refl _ | assumption | apply Pfx.snoc)) | with_unfolding_all exact of_eq_true (eq_true rfl) | (simp only [List.length_append, List.length_cons, List.length_nil]; omega)) only [↓wpre0, ↓wpre1, ↓reduceIte, Int.reduceToNat, Nat.reduceAdd, Nat.reduceMul, Nat.reduceEqDiff, wpost0, wpost1, wpost2, wpost3, wpost4, ite_self, ite_true, ite_false, if_true, if_false, xbls39_0, xbls39_1, bin_gtr, bin_sub, fr41, wrap_int, wrap_u8, iteP_yes, iteP_no, g0, g1, g5, g6] | refine iteP_two (fun hc hd => ?_) (fun hc hd => ?_) | refine iteP_intro (fun hc => ?_) (fun hc => ?_))
        refine cf_rel (DrawComplex_c hX hSi hro hq (by omega) hl) (fun q => by cases q) ?_
        rintro r H2 ⟨f, g, rfl, hf, hg, S2, o2⟩
        obtain ⟨H, ap, vg, sv, dv⟩ := acc H2 f g hf hg (VN.dst hV o2 hbl) S2 (hd.trans o2)
        have hl3 := o2.1
        (repeat' first | simp -dsimp (disch := first | omega | assumption | (refine OkS.sto ?_ (by omega); first | assumption | (refine OkS.sto ?_ (by omega); first | assumption | (refine OkS.sto ?_ (by omega); first | assumption | (refine OkS.sto ?_ (by omega); first | assumption | (refine OkS.sto ?_ (by omega); first | assumption | (refine OkS.sto ?_ (by omega); first | assumption)))))) | exact Pfx.refl _ | (apply Pfx.snoc; repeat (first | exact Pfx.refl _ | assumption | apply Pfx.snoc)) | with_unfolding_all exact of_eq_true (eq_true rfl) | (simp only [List.length_append, List.length_cons, List.length_nil]; omega)) only [↓wpre0, ↓wpre1, ↓reduceIte, Int.reduceToNat, Nat.reduceAdd, Nat.reduceMul, Nat.reduceEqDiff, wpost0, wpost1, wpost2, wpost3, wpost4, ite_self, ite_true, ite_false, if_true, if_false, xbls39_0, xbls39_1, bin_gtr, bin_sub, fr41, wrap_int, wrap_u8, iteP_yes, iteP_no, g0, g1, g5, g6, ap] | refine iteP_two (fun hc hd => ?_) (fun hc hd => ?_) | refine iteP_intro (fun hc => ?_) (fun hc => ?_))
        refine ⟨_, by omega, i + 1, _, zs ++ [(f, g)], rfl, by omega, by simp [hz], fun z hzz => ?_, by rw [show ((n - i : Nat) : Int) - 1 = ((n - (i + 1) : Nat) : Int) by omega], rfl, vg, sv, dv⟩
        rcases List.mem_append.1 hzz with q | q
        · exact hok z q
        · rw [List.mem_singleton] at q
          subst q
          exact ⟨hf, hg⟩
      | false =>
        (repeat' first | simp -dsimp (disch := first | omega | assumption | (refine OkS.sto ?_ (by omega); first | assumption | (refine OkS.sto ?_ (by omega); first | assumption | (refine OkS.sto ?_ (by omega); first | assumption | (refine OkS.sto ?_ (by omega); first | assumption | (refine OkS.sto ?_ (by omega); first | assumption | (refine OkS.sto ?_ (by omega); first | assumption)))))) | exact Pfx.refl _ | (apply Pfx.snoc; repeat (first | exact Pfx.refl _ | assumption | apply Pfx.snoc)) | with_unfolding_all exact of_eq_true (eq_true rfl) | (simp only [List.length_append, List.length_cons, List.length_nil]; omega)) only [↓wpre0, ↓wpre1, ↓reduceIte, Int.reduceToNat, Nat.reduceAdd, Nat.reduceMul, Nat.reduceEqDiff, wpost0, wpost1, wpost2, wpost3, wpost4, ite_self, ite_true, ite_false, if_true, if_false, xbls39_0, xbls39_1, bin_gtr, bin_sub, fr41, wrap_int, wrap_u8, iteP_yes, iteP_no, g0, g1, g5, g6] | refine iteP_two (fun hc hd => ?_) (fun hc hd => ?_) | refine iteP_intro (fun hc => ?_) (fun hc => ?_))
        refine cf_rel (DrawFine_c hX hSi hro hq (by omega) hl) (fun q => by cases q) ?_
        rintro r H2 ⟨f, g, rfl, hf, hg, S2, o2⟩
        obtain ⟨H, ap, vg, sv, dv⟩ := acc H2 f g hf hg (VN.dst hV o2.dst hbl) (S2.more (by omega)) (hd.trans o2.dst)
        have hl3 := o2.1
        (repeat' first | simp -dsimp (disch := first | omega | assumption | (refine OkS.sto ?_ (by omega); first | assumption | (refine OkS.sto ?_ (by omega); first | assumption | (refine OkS.sto ?_ (by omega); first | assumption | (refine OkS.sto ?_ (by omega); first | assumption | (refine OkS.sto ?_ (by omega); first | assumption | (refine OkS.sto ?_ (by omega); first | assumption)))))) | exact Pfx.refl _ | (apply Pfx.snoc; repeat (first | exact Pfx.refl _ | assumption | apply Pfx.snoc)) | with_unfolding_all exact of_eq_true (eq_true rfl) | (simp only [List.length_append, List.length_cons, List.length_nil]; omega)) only [↓wpre0, ↓wpre1, ↓reduceIte, Int.reduceToNat, Nat.reduceAdd, Nat.reduceMul, Nat.reduceEqDiff, wpost0, wpost1, wpost2, wpost3, wpost4, ite_self, ite_true, ite_false, if_true, if_false, xbls39_0, xbls39_1, bin_gtr, bin_sub, fr41, wrap_int, wrap_u8, iteP_yes, iteP_no, g0, g1, g5, g6, ap] | refine iteP_two (fun hc hd => ?_) (fun hc hd => ?_) | refine iteP_intro (fun hc => ?_) (fun hc => ?_))
        refine ⟨_, by omega, i + 1, _, zs ++ [(f, g)], rfl, by omega, by simp [hz], fun z hzz => ?_, by rw [show ((n - i : Nat) : Int) - 1 = ((n - (i + 1) : Nat) : Int) by omega], rfl, vg, sv, dv⟩
        rcases List.mem_append.1 hzz with q | q
        · exact hok z q
        · rw [List.mem_singleton] at q
          subst q
          exact ⟨hf, hg⟩
    · have ei : i = n := by omega
      subst ei
      have hnf : Sim.flat y = false := by obtain ⟨_, b, cap, rfl, _⟩ := hV; rfl
      (repeat' first | simp -dsimp (disch := first | omega | assumption | (refine OkS.sto ?_ (by omega); first | assumption | (refine OkS.sto ?_ (by omega); first | assumption | (refine OkS.sto ?_ (by omega); first | assumption | (refine OkS.sto ?_ (by omega); first | assumption | (refine OkS.sto ?_ (by omega); first | assumption | (refine OkS.sto ?_ (by omega); first | assumption)))))) | exact Pfx.refl _ | (apply Pfx.snoc; repeat (first | exact Pfx.refl _ | assumption | apply Pfx.snoc)) | with_unfolding_all exact of_eq_true (eq_true rfl) | (simp only [List.length_append, List.length_cons, List.length_nil]; omega)) only [↓wpre0, ↓wpre1, ↓reduceIte, Int.reduceToNat, Nat.reduceAdd, Nat.reduceMul, Nat.reduceEqDiff, wpost0, wpost1, wpost2, wpost3, wpost4, ite_self, ite_true, ite_false, if_true, if_false, xbls39_0, xbls39_1, bin_gtr, bin_sub, fr41, wrap_int, wrap_u8, iteP_yes, iteP_no, g0, g1, g5, g6, endH_not hnf] | refine iteP_two (fun hc hd => ?_) (fun hc hd => ?_) | refine iteP_intro (fun hc => ?_) (fun hc => ?_))
      exact ⟨zs, hz, hok, hV, hSi, hd⟩
end Go.Proofs.Yteignhphimfmkaa.Sim
