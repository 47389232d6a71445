/- Texts of numbers, as the draws of lines make them. Lemmas only; no condition. -/
import Derived.Test.YtikanmboimjhgaaDoorJpl
import Derived.Test.YtikanmboimjhgaaDoorDrn
import Derived.Test.YtikanmboimjhgaaDoorDrx
set_option linter.unusedSimpArgs false
set_option linter.unusedVariables false
set_option maxRecDepth 8000
namespace Go.Proofs.YtikanmboimjhgaaDoor.Sim
open Go Go.RowKit
variable {ro : Nat} {X : Ext}
theorem nob_cons {c a : UInt8} {l : List UInt8} : nob c (a :: l) ↔ a ≠ c ∧ nob c l := by simp [nob]
theorem nob_append {c : UInt8} {a l : List UInt8} : nob c (a ++ l) ↔ nob c a ∧ nob c l := by
  simp only [nob, List.mem_append]
  exact ⟨fun h => ⟨fun b hb => h b (.inl hb), fun b hb => h b (.inr hb)⟩, fun h b hb => hb.elim (h.1 b) (h.2 b)⟩
theorem nob_nil {c : UInt8} : nob c [] := fun b hb => by cases hb
/-- A short text in one line. -/
def tx (k : Nat) (s : List UInt8) : Prop := nob 10 s ∧ s.length ≤ k
/-- The numeral of a small number. -/
def decS (n : Int) : List UInt8 := if 0 ≤ n then dec n else 45 :: Lib.decDigits n.natAbs
theorem decS_tx {n : Int} (h0 : -1000 ≤ n) (h1 : n ≤ 1000) : tx 6 (decS n) := by
  unfold decS
  split
  · exact ⟨dec_nob (by decide) n, Nat.le_trans (dec_le (by omega)) (by decide)⟩
  · have e : (Lib.decDigits n.natAbs) = dec (n.natAbs : Int) := by simp [dec]
    rw [e]
    refine ⟨nob_cons.2 ⟨by decide, dec_nob (by decide) _⟩, ?_⟩
    have := dec_le (n := (n.natAbs : Int)) (by omega)
    rw [List.length_cons]
    omega
theorem DecA_r (hx : XD X) {n : Int} {h : Heap} (h0 : -1000 ≤ n) (h1 : n ≤ 1000) (hro : ro ≤ h.length) : Ret Tryd.prog ro X 24 [.int .i64 n] h (.string ⟨⟨decS n⟩⟩) := by
  unfold decS
  split
  · exact l01Dec_r hx (by omega) (by omega) hro
  · have := l01DecN_r (ro := ro) hx (k := n.natAbs) (h := h) (by omega) (by omega) hro
    rw [show (-(n.natAbs : Int)) = n by omega] at this
    exact this
/-- What is asked of what lies outside: floats, too. -/
structure XF (ro : Nat) (X : Ext) : Prop where
  e : XE ro X
  bits : X 62 = some (ext1 fBits)
  frm : X 63 = some (ext1 fFrom)
theorem XF.w (h : XF ro X) : XDW X := ⟨h.e.d.n _ rfl, h.e.d.n _ rfl, h.e.d.n _ rfl, h.e.d.n _ rfl, h.e.d.n _ rfl, h.e.d.n _ rfl, h.e.d.n _ rfl, h.e.d.n _ rfl, h.e.d.n _ rfl, h.e.d.n _ rfl, h.frm⟩
noncomputable def extF (ro : Nat) : Ext := fun f => if f = 62 then some (ext1 fBits) else if f = 63 then some (ext1 fFrom) else extE ro f
theorem extF_ok {ro : Nat} {B : Base} (ht : TabB B) : XOk Tryd.prog ro B (extF ro) := by
  intro f F hF args h r h' hr ρ w args' hs hB hargs
  unfold extF at hF
  split at hF
  · rename_i e; subst e; exact extB_ok 62 F (show extB 62 = some F from hF) args h r h' hr ρ w args' hs hB hargs
  · split at hF
    · rename_i e; subst e; exact extB_ok 63 F (show extB 63 = some F from hF) args h r h' hr ρ w args' hs hB hargs
    · exact extE_ok ht f F hF args h r h' hr ρ w args' hs hB hargs
theorem xf_extF (ro : Nat) : XF ro (extF ro) := by
  refine ⟨⟨⟨fun f hf => ?_, rfl, rfl, rfl⟩, rfl, rfl⟩, rfl, rfl⟩
  unfold extF
  split
  · rename_i e; subst e; exact absurd hf (by decide)
  · split
    · rename_i e; subst e; exact absurd hf (by decide)
    · exact (xe_extE ro).d.n f hf
theorem bitsS_r (hX : XF ro X) {b : Nat} (hn : (FloatKind.f32.decode b).isNaN = false) (h : Heap) : Ret Tryd.prog ro X 62 [.float .f32 b] h (.int .u32 b) := fun _ _ => cf_eq (call_ext hX.bits (by simp only [ext1, fBits, hn, Bool.false_eq_true, if_false, Option.map_some]))
theorem Bits_r (hF : XF ro X) {b : Nat} (hb : okS b) (h : Heap) : Ret Tryd.prog ro X 52 [.float .f32 b] h (.int .i64 b) := by
  have hb2 := hb.2
  have hX := hF.e.d.n
  cases hn : (FloatKind.f32.decode b).isNaN with
  | true =>
    have e : (b : Int) = 2143289344 := by
      have := hb.1
      unfold cf at this
      rw [if_pos hn] at this
      rw [← this]; rfl
    refine ret_of (callR_of (hX _ rfl) Tryd.func52 rfl (by kernel_rfl) (Nat.le_of_ble_eq_true rfl) ?_)
    (repeat' first | simp -dsimp (disch := first | omega | assumption | (refine OkS.sto ?_ (by omega); first | assumption | (refine OkS.sto ?_ (by omega); first | assumption | (refine OkS.sto ?_ (by omega); first | assumption | (refine OkS.sto ?_ (by omega); first | assumption | (refine OkS.sto ?_ (by omega); first | assumption | (refine OkS.sto ?_ (by omega); first | assumption)))))) | exact Pfx.refl _ | (apply Pfx.snoc; repeat (first | exact Pfx.refl _ | assumption | apply Pfx.snoc)) | with_unfolding_all exact of_eq_true (eq_true rfl) | (simp only [List.length_append, List.length_cons, List.length_nil]; omega)) only [↓wpre0, ↓wpre1, ↓reduceIte, Int.reduceToNat, Nat.reduceAdd, Nat.reduceMul, Nat.reduceEqDiff, wpost0, wpost1, wpost2, wpost3, wpost4, ite_self, ite_true, ite_false, if_true, if_false, bin_fneq, xcv96_2, fr52, wrap_int, wrap_u8, iteP_yes, iteP_no, order_self, hn, e] | refine iteP_two (fun hc hd => ?_) (fun hc hd => ?_) | refine iteP_intro (fun hc => ?_) (fun hc => ?_))
  | false =>
    refine ret_of (callR_of (hX _ rfl) Tryd.func52 rfl (by kernel_rfl) (Nat.le_of_ble_eq_true rfl) ?_)
    (repeat' first | simp -dsimp (disch := first | omega | assumption | (refine OkS.sto ?_ (by omega); first | assumption | (refine OkS.sto ?_ (by omega); first | assumption | (refine OkS.sto ?_ (by omega); first | assumption | (refine OkS.sto ?_ (by omega); first | assumption | (refine OkS.sto ?_ (by omega); first | assumption | (refine OkS.sto ?_ (by omega); first | assumption)))))) | exact Pfx.refl _ | (apply Pfx.snoc; repeat (first | exact Pfx.refl _ | assumption | apply Pfx.snoc)) | with_unfolding_all exact of_eq_true (eq_true rfl) | (simp only [List.length_append, List.length_cons, List.length_nil]; omega)) only [↓wpre0, ↓wpre1, ↓reduceIte, Int.reduceToNat, Nat.reduceAdd, Nat.reduceMul, Nat.reduceEqDiff, wpost0, wpost1, wpost2, wpost3, wpost4, ite_self, ite_true, ite_false, if_true, if_false, bin_fneq, xcv96_2, fr52, wrap_int, wrap_u8, iteP_yes, iteP_no, order_self, hn, bitsS_r hF hn] | refine iteP_two (fun hc hd => ?_) (fun hc hd => ?_) | refine iteP_intro (fun hc => ?_) (fun hc => ?_))
theorem shrI {t : TypeId} {a b : Int} (h : 0 ≤ b) : abin Tryd.prog .shr t (.int .i64 a) (.int .u64 b) = some (.int .i64 (a.fdiv (2 ^ (min b.toNat 64)))) := by
  rw [bin_shr t .i64 a b .u64 (by omega)]
  rfl
theorem andI {t : TypeId} {a : Int} (h0 : 0 ≤ a) (h1 : a ≤ 4294967295) : abin Tryd.prog .and t (.int .i64 a) (.int .i64 15) = some (.int .i64 (a % 16)) := by
  rw [bin_and]
  obtain ⟨m, rfl⟩ : ∃ m : Nat, a = m := ⟨a.toNat, by omega⟩
  have e : (BitVec.ofInt IntKind.i64.bits (m : Int) &&& BitVec.ofInt IntKind.i64.bits (15 : Int)).toNat = m % 16 := by
    show (BitVec.ofInt 64 (m : Int) &&& BitVec.ofInt 64 ((15 : Nat) : Int)).toNat = m % 16
    rw [BitVec.toNat_and, bv_nat _ (by omega), bv_nat _ (by omega)]
    exact Nat.and_two_pow_sub_one_eq_mod m 4
  rw [e, wrap_int (by omega) (by omega)]
  congr 2
def hexL : List UInt8 := [48, 49, 50, 51, 52, 53, 54, 55, 56, 57, 97, 98, 99, 100, 101, 102]
theorem hex_nob : ∀ i, i < 16 → bth hexL i ≠ 10 ∧ 0 ≤ bth hexL i ∧ bth hexL i ≤ 255 := by decide
theorem Hex_c (hF : XF ro X) {b : Nat} (hb : okS b) {h : Heap} (hro : ro ≤ h.length) : CallR Tryd.prog ro X 42 [.float .f32 b] h (fun r h' => ∃ s, r = .string ⟨⟨s⟩⟩ ∧ tx 8 s ∧ h' = h) := by
  have hX := hF.e.d.n
  have hb2 := hb.2
  refine callR_of (hX _ rfl) Tryd.func42 rfl (by kernel_rfl) (Nat.le_of_ble_eq_true rfl) ?_
  (repeat' first | simp -dsimp (disch := first | omega | assumption | (refine OkS.sto ?_ (by omega); first | assumption | (refine OkS.sto ?_ (by omega); first | assumption | (refine OkS.sto ?_ (by omega); first | assumption | (refine OkS.sto ?_ (by omega); first | assumption | (refine OkS.sto ?_ (by omega); first | assumption | (refine OkS.sto ?_ (by omega); first | assumption)))))) | exact Pfx.refl _ | (apply Pfx.snoc; repeat (first | exact Pfx.refl _ | assumption | apply Pfx.snoc)) | with_unfolding_all exact of_eq_true (eq_true rfl) | (simp only [List.length_append, List.length_cons, List.length_nil]; omega)) only [↓wpre0, ↓wpre1, ↓reduceIte, Int.reduceToNat, Nat.reduceAdd, Nat.reduceMul, Nat.reduceEqDiff, wpost0, wpost1, wpost2, wpost3, wpost4, ite_self, ite_true, ite_false, if_true, if_false, xbls22_0, xbls22_1, bin_geq, xcv3_77, xidx9, bin_sub, fr42, wrap_int, wrap_u8, iteP_yes, iteP_no, Bits_r hF hb] | refine iteP_two (fun hc hd => ?_) (fun hc hd => ?_) | refine iteP_intro (fun hc => ?_) (fun hc => ?_))
  refine loop_rounds (fun m e h' => ∃ (j : Nat) (L : List UInt8) (y : Value), m = 8 - j ∧ j ≤ 8 ∧ L.length = j ∧ nob 10 L ∧ Pfx h h' ∧ e 3 = .int .i64 b ∧ e 4 = y ∧ e 5 = .int .i64 (28 - 4 * (j : Int)) ∧ VG h.length 5 1 h' y j (L.map u8v)) _ ⟨0, [], .slice (some ⟨h.length, 0, none⟩) 0 0, rfl, ?_⟩ ?_
  · simp only [updO_at, updO_not, entry_at, List.getD_cons_zero, List.getD_cons_succ, ↓reduceIte, Nat.reduceEqDiff, true_and, and_true]
    exact ⟨by omega, rfl, nob_nil, (Pfx.refl h).snoc, rfl, vg_new h (Nat.le_refl _)⟩
  · rintro m e h' ⟨j, L, y, hm, hj, hL, hn, hp, g3, g4, g5, hY⟩
    have hl := hp.len
    by_cases hin : j < 8
    · have hw : IntKind.u64.wrap (28 - 4 * (j : Int)) = 28 - 4 * (j : Int) := wrap_u64 (by omega) (by omega)
      obtain ⟨q, hq, q0, q1⟩ : ∃ q : Int, (∀ t, abin Tryd.prog .shr t (.int .i64 b) (.int .u64 (28 - 4 * (j : Int))) = some (.int .i64 q)) ∧ 0 ≤ q ∧ q ≤ 4294967295 := by
        refine ⟨_, fun t => shrI (by omega), ?_, ?_⟩
        · rw [Int.fdiv_eq_ediv_of_nonneg _ (by exact Int.pow_nonneg (by decide))]
          exact Int.ediv_nonneg (by omega) (Int.pow_nonneg (by decide))
        · rw [Int.fdiv_eq_ediv_of_nonneg _ (by exact Int.pow_nonneg (by decide))]
          exact Int.le_trans (Int.ediv_le_self _ (by omega)) (by omega)
      have hd := fun t => andI (t := t) q0 q1
      obtain ⟨i, hi⟩ : ∃ i : Nat, q % 16 = i := ⟨_, (Int.toNat_of_nonneg (by omega)).symm⟩
      have hi16 : i < 16 := by omega
      obtain ⟨x0, x1, x2⟩ := hex_nob i hi16
      have hidx : idx Tryd.prog 9 (.string ⟨⟨hexL⟩⟩) (.int .i64 (q % 16)) = some (.int .u8 (bth hexL i)) := by
        rw [idx_bl Tryd.underlying9 (by omega) (show q % 16 < (16 : Nat) by omega), hi, Int.toNat_natCast]
      simp only [hexL] at hidx
      obtain ⟨H, ap, vg, old, _⟩ := acc1 (P := Tryd.prog) (ro := ro) (T := 22) (h := h') (v := u8v (hexL.getD i 0)) tel22 tsz5 tby5 tze5 (.inl hY) hro hl rfl (by omega) (by omega)
      have vg' : VG h.length 5 1 H (.slice (some ⟨h'.length + 1, 0, none⟩) (j + 1) (j + 1 + 1)) (j + 1) ((L ++ [hexL.getD i 0]).map u8v) := by rw [List.map_append]; exact vg
      have hu : u8v (hexL.getD i 0) = .int .u8 (bth hexL i) := rfl
      rw [hu] at ap
      simp only [hexL] at ap
      have pfH := old.1 h hp (Nat.le_refl _)
      have hnn : nob 10 (L ++ [hexL.getD i 0]) := nob_append.2 ⟨hn, nob_cons.2 ⟨fun q => x0 (by unfold bth; rw [q]; rfl), nob_nil⟩⟩
      (repeat' first | simp -dsimp (disch := first | omega | assumption | (refine OkS.sto ?_ (by omega); first | assumption | (refine OkS.sto ?_ (by omega); first | assumption | (refine OkS.sto ?_ (by omega); first | assumption | (refine OkS.sto ?_ (by omega); first | assumption | (refine OkS.sto ?_ (by omega); first | assumption | (refine OkS.sto ?_ (by omega); first | assumption)))))) | exact Pfx.refl _ | (apply Pfx.snoc; repeat (first | exact Pfx.refl _ | assumption | apply Pfx.snoc)) | with_unfolding_all exact of_eq_true (eq_true rfl) | (simp only [List.length_append, List.length_cons, List.length_nil]; omega)) only [↓wpre0, ↓wpre1, ↓reduceIte, Int.reduceToNat, Nat.reduceAdd, Nat.reduceMul, Nat.reduceEqDiff, wpost0, wpost1, wpost2, wpost3, wpost4, ite_self, ite_true, ite_false, if_true, if_false, xbls22_0, xbls22_1, bin_geq, xcv3_77, xidx9, bin_sub, fr42, wrap_int, wrap_u8, iteP_yes, iteP_no, g3, g4, g5, hw, hq, hd, hidx, ap] | refine iteP_two (fun hc hd => ?_) (fun hc hd => ?_) | refine iteP_intro (fun hc => ?_) (fun hc => ?_))
      exact ⟨_, by omega, j + 1, _, _, rfl, by omega, by simp [hL], hnn, pfH, rfl, by rw [show 28 - 4 * (j : Int) - 4 = 28 - 4 * ((j + 1 : Nat) : Int) by omega], vg'⟩
    · have ej : j = 8 := by omega
      subst ej
      have ef : ∀ s, endH (.string s) h h' = h := fun s => endH_flat rfl hp
      (repeat' first | simp -dsimp (disch := first | omega | assumption | (refine OkS.sto ?_ (by omega); first | assumption | (refine OkS.sto ?_ (by omega); first | assumption | (refine OkS.sto ?_ (by omega); first | assumption | (refine OkS.sto ?_ (by omega); first | assumption | (refine OkS.sto ?_ (by omega); first | assumption | (refine OkS.sto ?_ (by omega); first | assumption)))))) | exact Pfx.refl _ | (apply Pfx.snoc; repeat (first | exact Pfx.refl _ | assumption | apply Pfx.snoc)) | with_unfolding_all exact of_eq_true (eq_true rfl) | (simp only [List.length_append, List.length_cons, List.length_nil]; omega)) only [↓wpre0, ↓wpre1, ↓reduceIte, Int.reduceToNat, Nat.reduceAdd, Nat.reduceMul, Nat.reduceEqDiff, wpost0, wpost1, wpost2, wpost3, wpost4, ite_self, ite_true, ite_false, if_true, if_false, xbls22_0, xbls22_1, bin_geq, xcv3_77, xidx9, bin_sub, fr42, wrap_int, wrap_u8, iteP_yes, iteP_no, g3, g4, g5, conv_bytes Tryd.underlying22 Tryd.underlying9 tbt5 hY.vs, ef] | refine iteP_two (fun hc hd => ?_) (fun hc hd => ?_) | refine iteP_intro (fun hc => ?_) (fun hc => ?_))
      exact ⟨L, rfl, ⟨hn, by omega⟩⟩
theorem CHex_c (hF : XF ro X) {a b : Nat} (ha : okS a) (hb : okS b) {h : Heap} (hro : ro ≤ h.length) : CallR Tryd.prog ro X 34 [.complex .f32 a b] h (fun r h' => ∃ s, r = .string ⟨⟨s⟩⟩ ∧ tx 16 s ∧ h' = h) := by
  have hX := hF.e.d.n
  refine callR_of (hX _ rfl) Tryd.func34 rfl (by kernel_rfl) (Nat.le_of_ble_eq_true rfl) ?_
  (repeat' first | simp -dsimp (disch := first | omega | assumption | (refine OkS.sto ?_ (by omega); first | assumption | (refine OkS.sto ?_ (by omega); first | assumption | (refine OkS.sto ?_ (by omega); first | assumption | (refine OkS.sto ?_ (by omega); first | assumption | (refine OkS.sto ?_ (by omega); first | assumption | (refine OkS.sto ?_ (by omega); first | assumption)))))) | exact Pfx.refl _ | (apply Pfx.snoc; repeat (first | exact Pfx.refl _ | assumption | apply Pfx.snoc)) | with_unfolding_all exact of_eq_true (eq_true rfl) | (simp only [List.length_append, List.length_cons, List.length_nil]; omega)) only [↓wpre0, ↓wpre1, ↓reduceIte, Int.reduceToNat, Nat.reduceAdd, Nat.reduceMul, Nat.reduceEqDiff, wpost0, wpost1, wpost2, wpost3, wpost4, ite_self, ite_true, ite_false, if_true, if_false, blt_real, blt_imag, sadd_bl, fr34, wrap_int, wrap_u8, iteP_yes, iteP_no] | refine iteP_two (fun hc hd => ?_) (fun hc hd => ?_) | refine iteP_intro (fun hc => ?_) (fun hc => ?_))
  refine cf_rel (Hex_c hF ha hro) (fun q => by cases q) ?_
  rintro r h1 ⟨s1, rfl, t1, rfl⟩
  (repeat' first | simp -dsimp (disch := first | omega | assumption | (refine OkS.sto ?_ (by omega); first | assumption | (refine OkS.sto ?_ (by omega); first | assumption | (refine OkS.sto ?_ (by omega); first | assumption | (refine OkS.sto ?_ (by omega); first | assumption | (refine OkS.sto ?_ (by omega); first | assumption | (refine OkS.sto ?_ (by omega); first | assumption)))))) | exact Pfx.refl _ | (apply Pfx.snoc; repeat (first | exact Pfx.refl _ | assumption | apply Pfx.snoc)) | with_unfolding_all exact of_eq_true (eq_true rfl) | (simp only [List.length_append, List.length_cons, List.length_nil]; omega)) only [↓wpre0, ↓wpre1, ↓reduceIte, Int.reduceToNat, Nat.reduceAdd, Nat.reduceMul, Nat.reduceEqDiff, wpost0, wpost1, wpost2, wpost3, wpost4, ite_self, ite_true, ite_false, if_true, if_false, blt_real, blt_imag, sadd_bl, fr34, wrap_int, wrap_u8, iteP_yes, iteP_no] | refine iteP_two (fun hc hd => ?_) (fun hc hd => ?_) | refine iteP_intro (fun hc => ?_) (fun hc => ?_))
  refine cf_rel (Hex_c hF hb hro) (fun q => by cases q) ?_
  rintro r h2 ⟨s2, rfl, t2, rfl⟩
  have q1 := t1.2
  have q2 := t2.2
  have ef : ∀ s, endH (.string s) h2 h2 = h2 := fun s => endH_same
  (repeat' first | simp -dsimp (disch := first | omega | assumption | (refine OkS.sto ?_ (by omega); first | assumption | (refine OkS.sto ?_ (by omega); first | assumption | (refine OkS.sto ?_ (by omega); first | assumption | (refine OkS.sto ?_ (by omega); first | assumption | (refine OkS.sto ?_ (by omega); first | assumption | (refine OkS.sto ?_ (by omega); first | assumption)))))) | exact Pfx.refl _ | (apply Pfx.snoc; repeat (first | exact Pfx.refl _ | assumption | apply Pfx.snoc)) | with_unfolding_all exact of_eq_true (eq_true rfl) | (simp only [List.length_append, List.length_cons, List.length_nil]; omega)) only [↓wpre0, ↓wpre1, ↓reduceIte, Int.reduceToNat, Nat.reduceAdd, Nat.reduceMul, Nat.reduceEqDiff, wpost0, wpost1, wpost2, wpost3, wpost4, ite_self, ite_true, ite_false, if_true, if_false, blt_real, blt_imag, sadd_bl, fr34, wrap_int, wrap_u8, iteP_yes, iteP_no, ef] | refine iteP_two (fun hc hd => ?_) (fun hc hd => ?_) | refine iteP_intro (fun hc => ?_) (fun hc => ?_))
  exact ⟨_, rfl, ⟨nob_append.2 ⟨t1.1, t2.1⟩, by rw [List.length_append]; omega⟩⟩
theorem CText_c (hF : XF ro X) {lo hi n : Nat} {zs : List (Nat × Nat)} {x : Value} {h : Heap} (hV : VS lo hi 1 h x n (zs.map cpz)) (hz : ∀ z ∈ zs, okS z.1 ∧ okS z.2) (hn : n ≤ 8) (hro : ro ≤ h.length) : CallR Tryd.prog ro X 26 [x] h (fun r h' => ∃ s, r = .string ⟨⟨s⟩⟩ ∧ tx 200 s ∧ h' = h) := by
  have hX := hF.e.d.n
  have i1 := hV.1
  rw [List.length_map] at i1
  have hld : ∀ c, c < n → ∃ f g, okS f ∧ okS g ∧ ld Tryd.prog h 79 (ea x (c * 1)) = some (.complex .f32 f g) := by
    intro c hc
    have hcz : c < zs.length := by omega
    refine ⟨zs[c].1, zs[c].2, (hz _ (List.getElem_mem hcz)).1, (hz _ (List.getElem_mem hcz)).2, ?_⟩
    rw [hV.ld1 tsz79 tag79 (by omega)]
    simp [vth, List.getD_eq_getElem?_getD, List.getElem?_map, hcz, cpz]
  refine callR_of (hX _ rfl) Tryd.func26 rfl (by kernel_rfl) (Nat.le_of_ble_eq_true rfl) ?_
  by_cases h0 : n = 0
  · have ef : ∀ s, endH (.string s) h h = h := fun s => endH_same
    subst h0
    (repeat' first | simp -dsimp (disch := first | omega | assumption | (refine OkS.sto ?_ (by omega); first | assumption | (refine OkS.sto ?_ (by omega); first | assumption | (refine OkS.sto ?_ (by omega); first | assumption | (refine OkS.sto ?_ (by omega); first | assumption | (refine OkS.sto ?_ (by omega); first | assumption | (refine OkS.sto ?_ (by omega); first | assumption)))))) | exact Pfx.refl _ | (apply Pfx.snoc; repeat (first | exact Pfx.refl _ | assumption | apply Pfx.snoc)) | with_unfolding_all exact of_eq_true (eq_true rfl) | (simp only [List.length_append, List.length_cons, List.length_nil]; omega)) only [↓wpre0, ↓wpre1, ↓reduceIte, Int.reduceToNat, Nat.reduceAdd, Nat.reduceMul, Nat.reduceEqDiff, wpost0, wpost1, wpost2, wpost3, wpost4, ite_self, ite_true, ite_false, if_true, if_false, xlen27, bin_eql, xiad27, xld79, bin_lss, sadd_bl, bin_add, fr26, wrap_int, wrap_u8, iteP_yes, iteP_no, hV.len Tryd.underlying27, ef] | refine iteP_two (fun hc hd => ?_) (fun hc hd => ?_) | refine iteP_intro (fun hc => ?_) (fun hc => ?_))
    exact ⟨[110, 111, 110, 101], rfl, ⟨by unfold nob; decide, by decide⟩⟩
  · obtain ⟨f, g, kf, kg, hl0⟩ := hld 0 (by omega)
    simp only [Nat.zero_mul] at hl0
    (repeat' first | simp -dsimp (disch := first | omega | assumption | (refine OkS.sto ?_ (by omega); first | assumption | (refine OkS.sto ?_ (by omega); first | assumption | (refine OkS.sto ?_ (by omega); first | assumption | (refine OkS.sto ?_ (by omega); first | assumption | (refine OkS.sto ?_ (by omega); first | assumption | (refine OkS.sto ?_ (by omega); first | assumption)))))) | exact Pfx.refl _ | (apply Pfx.snoc; repeat (first | exact Pfx.refl _ | assumption | apply Pfx.snoc)) | with_unfolding_all exact of_eq_true (eq_true rfl) | (simp only [List.length_append, List.length_cons, List.length_nil]; omega)) only [↓wpre0, ↓wpre1, ↓reduceIte, Int.reduceToNat, Nat.reduceAdd, Nat.reduceMul, Nat.reduceEqDiff, wpost0, wpost1, wpost2, wpost3, wpost4, ite_self, ite_true, ite_false, if_true, if_false, xlen27, bin_eql, xiad27, xld79, bin_lss, sadd_bl, bin_add, fr26, wrap_int, wrap_u8, iteP_yes, iteP_no, hV.len Tryd.underlying27, hV.iad Tryd.underlying27 tsz79, hl0] | refine iteP_two (fun hc hd => ?_) (fun hc hd => ?_) | refine iteP_intro (fun hc => ?_) (fun hc => ?_))
    refine cf_rel (CHex_c hF kf kg hro) (fun q => by cases q) ?_
    rintro r h1 ⟨s1, rfl, t1, rfl⟩
    (repeat' first | simp -dsimp (disch := first | omega | assumption | (refine OkS.sto ?_ (by omega); first | assumption | (refine OkS.sto ?_ (by omega); first | assumption | (refine OkS.sto ?_ (by omega); first | assumption | (refine OkS.sto ?_ (by omega); first | assumption | (refine OkS.sto ?_ (by omega); first | assumption | (refine OkS.sto ?_ (by omega); first | assumption)))))) | exact Pfx.refl _ | (apply Pfx.snoc; repeat (first | exact Pfx.refl _ | assumption | apply Pfx.snoc)) | with_unfolding_all exact of_eq_true (eq_true rfl) | (simp only [List.length_append, List.length_cons, List.length_nil]; omega)) only [↓wpre0, ↓wpre1, ↓reduceIte, Int.reduceToNat, Nat.reduceAdd, Nat.reduceMul, Nat.reduceEqDiff, wpost0, wpost1, wpost2, wpost3, wpost4, ite_self, ite_true, ite_false, if_true, if_false, xlen27, bin_eql, xiad27, xld79, bin_lss, sadd_bl, bin_add, fr26, wrap_int, wrap_u8, iteP_yes, iteP_no, hV.len Tryd.underlying27] | refine iteP_two (fun hc hd => ?_) (fun hc hd => ?_) | refine iteP_intro (fun hc => ?_) (fun hc => ?_))
    refine loop_rounds (fun m e h' => ∃ (i : Nat) (s : List UInt8), m = n - i ∧ 1 ≤ i ∧ i ≤ n ∧ h' = h1 ∧ e 0 = x ∧ e 3 = .string ⟨⟨s⟩⟩ ∧ e 4 = .int .i64 i ∧ tx (17 * i) s) _ ⟨1, s1, rfl, ?_⟩ ?_
    · simp only [updO_at, updO_not, entry_at, List.getD_cons_zero, List.getD_cons_succ, ↓reduceIte, Nat.reduceEqDiff, true_and, and_true]
      exact ⟨by omega, by omega, rfl, ⟨t1.1, by have := t1.2; omega⟩⟩
    · rintro m e h' ⟨i, s, hm, hi1, hi, rfl, g0, g3, g4, ht⟩
      have ht2 := ht.2
      by_cases hin : i < n
      · obtain ⟨f, g, kf, kg, hl0⟩ := hld i hin
        (repeat' first | simp -dsimp (disch := first | omega | assumption | (refine OkS.sto ?_ (by omega); first | assumption | (refine OkS.sto ?_ (by omega); first | assumption | (refine OkS.sto ?_ (by omega); first | assumption | (refine OkS.sto ?_ (by omega); first | assumption | (refine OkS.sto ?_ (by omega); first | assumption | (refine OkS.sto ?_ (by omega); first | assumption)))))) | exact Pfx.refl _ | (apply Pfx.snoc; repeat (first | exact Pfx.refl _ | assumption | apply Pfx.snoc)) | with_unfolding_all exact of_eq_true (eq_true rfl) | (simp only [List.length_append, List.length_cons, List.length_nil]; omega)) only [↓wpre0, ↓wpre1, ↓reduceIte, Int.reduceToNat, Nat.reduceAdd, Nat.reduceMul, Nat.reduceEqDiff, wpost0, wpost1, wpost2, wpost3, wpost4, ite_self, ite_true, ite_false, if_true, if_false, xlen27, bin_eql, xiad27, xld79, bin_lss, sadd_bl, bin_add, fr26, wrap_int, wrap_u8, iteP_yes, iteP_no, g0, g3, g4, hV.len Tryd.underlying27, hV.iad Tryd.underlying27 tsz79, Int.toNat_natCast, hl0] | refine iteP_two (fun hc hd => ?_) (fun hc hd => ?_) | refine iteP_intro (fun hc => ?_) (fun hc => ?_))
        refine cf_rel (CHex_c hF kf kg hro) (fun q => by cases q) ?_
        rintro r h2 ⟨s2, rfl, t2, rfl⟩
        have q2 := t2.2
        (repeat' first | simp -dsimp (disch := first | omega | assumption | (refine OkS.sto ?_ (by omega); first | assumption | (refine OkS.sto ?_ (by omega); first | assumption | (refine OkS.sto ?_ (by omega); first | assumption | (refine OkS.sto ?_ (by omega); first | assumption | (refine OkS.sto ?_ (by omega); first | assumption | (refine OkS.sto ?_ (by omega); first | assumption)))))) | exact Pfx.refl _ | (apply Pfx.snoc; repeat (first | exact Pfx.refl _ | assumption | apply Pfx.snoc)) | with_unfolding_all exact of_eq_true (eq_true rfl) | (simp only [List.length_append, List.length_cons, List.length_nil]; omega)) only [↓wpre0, ↓wpre1, ↓reduceIte, Int.reduceToNat, Nat.reduceAdd, Nat.reduceMul, Nat.reduceEqDiff, wpost0, wpost1, wpost2, wpost3, wpost4, ite_self, ite_true, ite_false, if_true, if_false, xlen27, bin_eql, xiad27, xld79, bin_lss, sadd_bl, bin_add, fr26, wrap_int, wrap_u8, iteP_yes, iteP_no, g0, g3, g4, hV.len Tryd.underlying27] | refine iteP_two (fun hc hd => ?_) (fun hc hd => ?_) | refine iteP_intro (fun hc => ?_) (fun hc => ?_))
        exact ⟨_, by omega, i + 1, _, rfl, by omega, by omega, rfl, rfl, ⟨nob_append.2 ⟨ht.1, nob_cons.2 ⟨by decide, t2.1⟩⟩, by rw [List.length_append, List.length_cons]; omega⟩⟩
      · have ef : ∀ s, endH (.string s) h' h' = h' := fun s => endH_same
        (repeat' first | simp -dsimp (disch := first | omega | assumption | (refine OkS.sto ?_ (by omega); first | assumption | (refine OkS.sto ?_ (by omega); first | assumption | (refine OkS.sto ?_ (by omega); first | assumption | (refine OkS.sto ?_ (by omega); first | assumption | (refine OkS.sto ?_ (by omega); first | assumption | (refine OkS.sto ?_ (by omega); first | assumption)))))) | exact Pfx.refl _ | (apply Pfx.snoc; repeat (first | exact Pfx.refl _ | assumption | apply Pfx.snoc)) | with_unfolding_all exact of_eq_true (eq_true rfl) | (simp only [List.length_append, List.length_cons, List.length_nil]; omega)) only [↓wpre0, ↓wpre1, ↓reduceIte, Int.reduceToNat, Nat.reduceAdd, Nat.reduceMul, Nat.reduceEqDiff, wpost0, wpost1, wpost2, wpost3, wpost4, ite_self, ite_true, ite_false, if_true, if_false, xlen27, bin_eql, xiad27, xld79, bin_lss, sadd_bl, bin_add, fr26, wrap_int, wrap_u8, iteP_yes, iteP_no, g0, g3, g4, hV.len Tryd.underlying27, ef] | refine iteP_two (fun hc hd => ?_) (fun hc hd => ?_) | refine iteP_intro (fun hc => ?_) (fun hc => ?_))
        exact ⟨s, rfl, ⟨ht.1, by omega⟩⟩
theorem At_r (hX : X 8 = none) {lo hi : Nat} {x : Value} {cd : List UInt8} {h : Heap} {i n : Int} (hV : VS lo hi 1 h x cd.length (cd.map u8v)) (h0 : 0 ≤ i) (h1 : i ≤ 100000) (hn : 2 ≤ n) (hn2 : n ≤ 100000) (hl : cd.length ≤ 1099511627776) : ∃ v : Nat, (v : Int) < n ∧ Ret Tryd.prog ro X 8 [x, .int .i64 i, .int .i64 n] h (.int .i64 v) := by
  by_cases hin : i < cd.length
  · obtain ⟨m, rfl⟩ : ∃ m : Nat, i = m := ⟨i.toNat, by omega⟩
    have hm : m < cd.length := by omega
    have hld : ld Tryd.prog h 5 (ea x (m * 1)) = some (.int .u8 ((cd[m]'hm).toNat : Int)) := by
      rw [hV.ld1 tsz5 tag5 (by omega), Nat.mul_one]
      simp [vth, u8v, List.getD_eq_getElem?_getD, hm]
    have hb := (cd[m]'hm).toNat_lt
    generalize (cd[m]'hm).toNat = w at *
    have hmod : ((w : Int).tmod n) = ((w % n.toNat : Nat) : Int) := by
      rw [Int.tmod_eq_emod_of_nonneg (by omega)]
      conv => lhs; rw [show n = (n.toNat : Int) by omega]
      rfl
    have hlt : w % n.toNat < n.toNat := Nat.mod_lt _ (by omega)
    refine ⟨w % n.toNat, by omega, ?_⟩
    refine ret_of (callR_of hX Tryd.func8 rfl (by kernel_rfl) (Nat.le_of_ble_eq_true rfl) ?_)
    (repeat' first | simp -dsimp (disch := first | omega | assumption | (refine OkS.sto ?_ (by omega); first | assumption | (refine OkS.sto ?_ (by omega); first | assumption | (refine OkS.sto ?_ (by omega); first | assumption | (refine OkS.sto ?_ (by omega); first | assumption | (refine OkS.sto ?_ (by omega); first | assumption | (refine OkS.sto ?_ (by omega); first | assumption)))))) | exact Pfx.refl _ | (apply Pfx.snoc; repeat (first | exact Pfx.refl _ | assumption | apply Pfx.snoc)) | with_unfolding_all exact of_eq_true (eq_true rfl) | (simp only [List.length_append, List.length_cons, List.length_nil]; omega)) only [↓wpre0, ↓wpre1, ↓reduceIte, Int.reduceToNat, Nat.reduceAdd, Nat.reduceMul, Nat.reduceEqDiff, wpost0, wpost1, wpost2, wpost3, wpost4, ite_self, ite_true, ite_false, if_true, if_false, bin_leq, xlen22, bin_lss, xiad22, xld5, xcv5_2, bin_rem, bin_mul, bin_add, fr8, wrap_int, wrap_u8, iteP_yes, iteP_no, hV.len Tryd.underlying22, hV.iad Tryd.underlying22 tsz5, Int.toNat_natCast, hld, bin_rem, hmod] | refine iteP_two (fun hc hd => ?_) (fun hc hd => ?_) | refine iteP_intro (fun hc => ?_) (fun hc => ?_))
  · have hmod : ((i * 37 + 11).tmod n) = (((i * 37 + 11).toNat % n.toNat : Nat) : Int) := by
      rw [Int.tmod_eq_emod_of_nonneg (by omega)]
      conv => lhs; rw [show n = (n.toNat : Int) by omega, show i * 37 + 11 = ((i * 37 + 11).toNat : Int) by omega]
      rfl
    have hlt : (i * 37 + 11).toNat % n.toNat < n.toNat := Nat.mod_lt _ (by omega)
    refine ⟨(i * 37 + 11).toNat % n.toNat, by omega, ?_⟩
    refine ret_of (callR_of hX Tryd.func8 rfl (by kernel_rfl) (Nat.le_of_ble_eq_true rfl) ?_)
    (repeat' first | simp -dsimp (disch := first | omega | assumption | (refine OkS.sto ?_ (by omega); first | assumption | (refine OkS.sto ?_ (by omega); first | assumption | (refine OkS.sto ?_ (by omega); first | assumption | (refine OkS.sto ?_ (by omega); first | assumption | (refine OkS.sto ?_ (by omega); first | assumption | (refine OkS.sto ?_ (by omega); first | assumption)))))) | exact Pfx.refl _ | (apply Pfx.snoc; repeat (first | exact Pfx.refl _ | assumption | apply Pfx.snoc)) | with_unfolding_all exact of_eq_true (eq_true rfl) | (simp only [List.length_append, List.length_cons, List.length_nil]; omega)) only [↓wpre0, ↓wpre1, ↓reduceIte, Int.reduceToNat, Nat.reduceAdd, Nat.reduceMul, Nat.reduceEqDiff, wpost0, wpost1, wpost2, wpost3, wpost4, ite_self, ite_true, ite_false, if_true, if_false, bin_leq, xlen22, bin_lss, xiad22, xld5, xcv5_2, bin_rem, bin_mul, bin_add, fr8, wrap_int, wrap_u8, iteP_yes, iteP_no, hV.len Tryd.underlying22, bin_rem, hmod] | refine iteP_two (fun hc hd => ?_) (fun hc hd => ?_) | refine iteP_intro (fun hc => ?_) (fun hc => ?_))
theorem text_c (hW : XDW X) (hX : X 22 = none) {lo hi b A lo' hi' n k : Nat} {x y : Value} {cd : List UInt8} {h : Heap} {L : List (List UInt8)} (hI : VS lo' hi' 1 h y n (L.map strv)) (hn0 : 1 ≤ n) (hn : n ≤ 1048576) (hL : ∀ s ∈ L, tx k s) (hb : b < lo' ∨ hi' ≤ b) (hS : SRC lo hi b A x cd h) (hro : ro ≤ b) (hd : hi ≤ b) (hA : A ≤ 1152921504606846900) (hl : cd.length ≤ 1099511627776) :
    CallR Tryd.prog ro X 22 [.pointer (some ⟨b, 0, none⟩), y] h (fun r h' => ∃ s, tx k s ∧ r = .string ⟨⟨s⟩⟩ ∧ SRC lo hi b (A + 2) x cd h' ∧ Only b h h') := by
  have i1 := hI.1
  rw [List.length_map] at i1
  refine callR_of hX Tryd.func22 rfl (by kernel_rfl) (Nat.le_of_ble_eq_true rfl) ?_
  (repeat' first | simp -dsimp (disch := first | omega | assumption | (refine OkS.sto ?_ (by omega); first | assumption | (refine OkS.sto ?_ (by omega); first | assumption | (refine OkS.sto ?_ (by omega); first | assumption | (refine OkS.sto ?_ (by omega); first | assumption | (refine OkS.sto ?_ (by omega); first | assumption | (refine OkS.sto ?_ (by omega); first | assumption)))))) | exact Pfx.refl _ | (apply Pfx.snoc; repeat (first | exact Pfx.refl _ | assumption | apply Pfx.snoc)) | with_unfolding_all exact of_eq_true (eq_true rfl) | (simp only [List.length_append, List.length_cons, List.length_nil]; omega)) only [↓wpre0, ↓wpre1, ↓reduceIte, Int.reduceToNat, Nat.reduceAdd, Nat.reduceMul, Nat.reduceEqDiff, wpost0, wpost1, wpost2, wpost3, wpost4, ite_self, ite_true, ite_false, if_true, if_false, xlen24, xiad24, xld9, fr22, wrap_int, wrap_u8, iteP_yes, iteP_no, hI.len Tryd.underlying24] | refine iteP_two (fun hc hd => ?_) (fun hc hd => ?_) | refine iteP_intro (fun hc => ?_) (fun hc => ?_))
  refine cf_rel (pick_c hW.next hW.pick (n := n) hS hro hd (by omega) hl (by omega)) (fun q => by cases q) ?_
  rintro r H1 ⟨v, rfl, _, hv, S1, o1⟩
  have hvn : v < n := by have := hv (by omega); omega
  have hI1 : VS lo' hi' 1 H1 y n (L.map strv) := hI.frame fun j h1 h2 => o1.2 j (by omega)
  have hld := ss_ld hI1 tsz9 tag9 hvn
  have ef : ∀ u, endH (.string u) h H1 = H1 := fun u => endH_len o1.1
  (repeat' first | simp -dsimp (disch := first | omega | assumption | (refine OkS.sto ?_ (by omega); first | assumption | (refine OkS.sto ?_ (by omega); first | assumption | (refine OkS.sto ?_ (by omega); first | assumption | (refine OkS.sto ?_ (by omega); first | assumption | (refine OkS.sto ?_ (by omega); first | assumption | (refine OkS.sto ?_ (by omega); first | assumption)))))) | exact Pfx.refl _ | (apply Pfx.snoc; repeat (first | exact Pfx.refl _ | assumption | apply Pfx.snoc)) | with_unfolding_all exact of_eq_true (eq_true rfl) | (simp only [List.length_append, List.length_cons, List.length_nil]; omega)) only [↓wpre0, ↓wpre1, ↓reduceIte, Int.reduceToNat, Nat.reduceAdd, Nat.reduceMul, Nat.reduceEqDiff, wpost0, wpost1, wpost2, wpost3, wpost4, ite_self, ite_true, ite_false, if_true, if_false, xlen24, xiad24, xld9, fr22, wrap_int, wrap_u8, iteP_yes, iteP_no, ef, hI1.iad Tryd.underlying24 tsz9, Int.toNat_natCast, Nat.mul_one, hld] | refine iteP_two (fun hc hd => ?_) (fun hc hd => ?_) | refine iteP_intro (fun hc => ?_) (fun hc => ?_))
  exact ⟨_, hL _ (sth_memD (by omega)), rfl, S1, o1⟩
theorem Text_c (hF : XF ro X) {a b : Int} {x : Value} {h : Heap} {lo hi : Nat} (hI : IS lo hi 1 h x 2 [a, b]) (ha : -1000 ≤ a ∧ a ≤ 1000) (hb : -1000 ≤ b ∧ b ≤ 1000) (hro : ro ≤ h.length) : ∃ s, tx 20 s ∧ Ret Tryd.prog ro X 25 [x] h (.string ⟨⟨s⟩⟩) := by
  have hx := hF.e.d
  have hX := hx.n
  have a0 := ha.1
  have a1 := ha.2
  have b0 := hb.1
  have b1 := hb.2
  have ta := decS_tx a0 a1
  have tb := decS_tx b0 b1
  have la := ta.2
  have lb := tb.2
  refine ⟨decS a ++ 44 :: decS b, ⟨nob_append.2 ⟨ta.1, nob_cons.2 ⟨by decide, tb.1⟩⟩, by rw [List.length_append, List.length_cons]; omega⟩, ?_⟩
  have d0 : ld Tryd.prog h 2 (ea x 0) = some (.int .i64 a) := by
    have := IS.ld1 hI tsz2 tag2 (c := 0) (by omega)
    exact this
  have d1 : ld Tryd.prog h 2 (ea x 1) = some (.int .i64 b) := by
    have := IS.ld1 hI tsz2 tag2 (c := 1) (by omega)
    exact this
  have e1 : (1 : Int).toNat * 1 = 1 := rfl
  refine ret_of (callR_of (hX _ rfl) Tryd.func25 rfl (by kernel_rfl) (Nat.le_of_ble_eq_true rfl) ?_)
  (repeat' first | simp -dsimp (disch := first | omega | assumption | (refine OkS.sto ?_ (by omega); first | assumption | (refine OkS.sto ?_ (by omega); first | assumption | (refine OkS.sto ?_ (by omega); first | assumption | (refine OkS.sto ?_ (by omega); first | assumption | (refine OkS.sto ?_ (by omega); first | assumption | (refine OkS.sto ?_ (by omega); first | assumption)))))) | exact Pfx.refl _ | (apply Pfx.snoc; repeat (first | exact Pfx.refl _ | assumption | apply Pfx.snoc)) | with_unfolding_all exact of_eq_true (eq_true rfl) | (simp only [List.length_append, List.length_cons, List.length_nil]; omega)) only [↓wpre0, ↓wpre1, ↓reduceIte, Int.reduceToNat, Nat.reduceAdd, Nat.reduceMul, Nat.reduceEqDiff, wpost0, wpost1, wpost2, wpost3, wpost4, ite_self, ite_true, ite_false, if_true, if_false, xlen65, bin_eql, xiad65, xld2, bin_lss, sadd_bl, bin_add, fr25, wrap_int, wrap_u8, iteP_yes, iteP_no, hI.len Tryd.underlying65, IS.iad hI Tryd.underlying65 tsz2, d0, DecA_r hx, Nat.zero_mul] | refine iteP_two (fun hc hd => ?_) (fun hc hd => ?_) | refine iteP_intro (fun hc => ?_) (fun hc => ?_))
  rw [loop_step]
  (repeat' first | simp -dsimp (disch := first | omega | assumption | (refine OkS.sto ?_ (by omega); first | assumption | (refine OkS.sto ?_ (by omega); first | assumption | (refine OkS.sto ?_ (by omega); first | assumption | (refine OkS.sto ?_ (by omega); first | assumption | (refine OkS.sto ?_ (by omega); first | assumption | (refine OkS.sto ?_ (by omega); first | assumption)))))) | exact Pfx.refl _ | (apply Pfx.snoc; repeat (first | exact Pfx.refl _ | assumption | apply Pfx.snoc)) | with_unfolding_all exact of_eq_true (eq_true rfl) | (simp only [List.length_append, List.length_cons, List.length_nil]; omega)) only [↓wpre0, ↓wpre1, ↓reduceIte, Int.reduceToNat, Nat.reduceAdd, Nat.reduceMul, Nat.reduceEqDiff, wpost0, wpost1, wpost2, wpost3, wpost4, ite_self, ite_true, ite_false, if_true, if_false, xlen65, bin_eql, xiad65, xld2, bin_lss, sadd_bl, bin_add, fr25, wrap_int, wrap_u8, iteP_yes, iteP_no, hI.len Tryd.underlying65, IS.iad hI Tryd.underlying65 tsz2, d1, DecA_r hx, Nat.one_mul, Nat.mul_one] | refine iteP_two (fun hc hd => ?_) (fun hc hd => ?_) | refine iteP_intro (fun hc => ?_) (fun hc => ?_))
  rw [loop_step]
  (repeat' first | simp -dsimp (disch := first | omega | assumption | (refine OkS.sto ?_ (by omega); first | assumption | (refine OkS.sto ?_ (by omega); first | assumption | (refine OkS.sto ?_ (by omega); first | assumption | (refine OkS.sto ?_ (by omega); first | assumption | (refine OkS.sto ?_ (by omega); first | assumption | (refine OkS.sto ?_ (by omega); first | assumption)))))) | exact Pfx.refl _ | (apply Pfx.snoc; repeat (first | exact Pfx.refl _ | assumption | apply Pfx.snoc)) | with_unfolding_all exact of_eq_true (eq_true rfl) | (simp only [List.length_append, List.length_cons, List.length_nil]; omega)) only [↓wpre0, ↓wpre1, ↓reduceIte, Int.reduceToNat, Nat.reduceAdd, Nat.reduceMul, Nat.reduceEqDiff, wpost0, wpost1, wpost2, wpost3, wpost4, ite_self, ite_true, ite_false, if_true, if_false, xlen65, bin_eql, xiad65, xld2, bin_lss, sadd_bl, bin_add, fr25, wrap_int, wrap_u8, iteP_yes, iteP_no, hI.len Tryd.underlying65, IS.iad hI Tryd.underlying65 tsz2, d1, DecA_r hx] | refine iteP_two (fun hc hd => ?_) (fun hc hd => ?_) | refine iteP_intro (fun hc => ?_) (fun hc => ?_))
end Go.Proofs.YtikanmboimjhgaaDoor.Sim

/- Desks and lines, as they are drawn. Lemmas only; no condition. -/
set_option linter.unusedSimpArgs false
set_option linter.unusedVariables false
set_option maxRecDepth 8000
namespace Go.Proofs.YtikanmboimjhgaaDoor.Sim
open Go Go.RowKit
variable {ro : Nat} {X : Ext}
theorem strlit2 (h : Heap) (a0 a1 : ByteArray) : bldS Tryd.prog h 24 2 [(0, .string a0), (1, .string a1)] = some (.slice (some ⟨h.length, 0, none⟩) 2 2, h ++ [⟨9, [.string a0, .string a1]⟩]) := by
  have e : lay (fun i => some (i * 1, 1)) (List.replicate 2 (cellsOf (.string ⟨#[]⟩))).flatten [(0, .string a0), (1, .string a1)] = some [.string a0, .string a1] := by kernel_rfl
  simp only [bldS, tel24, tsz9, tze9, Option.bind_some]
  rw [if_pos ⟨by decide, by kernel_rfl⟩, e]
  rfl
theorem strlit3 (h : Heap) (a0 a1 a2 : ByteArray) : bldS Tryd.prog h 24 3 [(0, .string a0), (1, .string a1), (2, .string a2)] = some (.slice (some ⟨h.length, 0, none⟩) 3 3, h ++ [⟨9, [.string a0, .string a1, .string a2]⟩]) := by
  have e : lay (fun i => some (i * 1, 1)) (List.replicate 3 (cellsOf (.string ⟨#[]⟩))).flatten [(0, .string a0), (1, .string a1), (2, .string a2)] = some [.string a0, .string a1, .string a2] := by kernel_rfl
  simp only [bldS, tel24, tsz9, tze9, Option.bind_some]
  rw [if_pos ⟨by decide, by kernel_rfl⟩, e]
  rfl
theorem strlit20 (h : Heap) (a0 a1 a2 a3 a4 a5 a6 a7 a8 a9 a10 a11 a12 a13 a14 a15 a16 a17 a18 a19 : ByteArray) : bldS Tryd.prog h 24 20 [(0, .string a0), (1, .string a1), (2, .string a2), (3, .string a3), (4, .string a4), (5, .string a5), (6, .string a6), (7, .string a7), (8, .string a8), (9, .string a9), (10, .string a10), (11, .string a11), (12, .string a12), (13, .string a13), (14, .string a14), (15, .string a15), (16, .string a16), (17, .string a17), (18, .string a18), (19, .string a19)] = some (.slice (some ⟨h.length, 0, none⟩) 20 20, h ++ [⟨9, [.string a0, .string a1, .string a2, .string a3, .string a4, .string a5, .string a6, .string a7, .string a8, .string a9, .string a10, .string a11, .string a12, .string a13, .string a14, .string a15, .string a16, .string a17, .string a18, .string a19]⟩]) := by
  have e : lay (fun i => some (i * 1, 1)) (List.replicate 20 (cellsOf (.string ⟨#[]⟩))).flatten [(0, .string a0), (1, .string a1), (2, .string a2), (3, .string a3), (4, .string a4), (5, .string a5), (6, .string a6), (7, .string a7), (8, .string a8), (9, .string a9), (10, .string a10), (11, .string a11), (12, .string a12), (13, .string a13), (14, .string a14), (15, .string a15), (16, .string a16), (17, .string a17), (18, .string a18), (19, .string a19)] = some [.string a0, .string a1, .string a2, .string a3, .string a4, .string a5, .string a6, .string a7, .string a8, .string a9, .string a10, .string a11, .string a12, .string a13, .string a14, .string a15, .string a16, .string a17, .string a18, .string a19] := by kernel_rfl
  simp only [bldS, tel24, tsz9, tze9, Option.bind_some]
  rw [if_pos ⟨by decide, by kernel_rfl⟩, e]
  rfl
theorem intlit2 (h : Heap) (a b : Int) : bldS Tryd.prog h 65 2 [(0, .int .i64 a), (1, .int .i64 b)] = some (.slice (some ⟨h.length, 0, none⟩) 2 2, h ++ [⟨2, vints [a, b]⟩]) := by
  have e : lay (fun i => some (i * 1, 1)) (List.replicate 2 (cellsOf (.int .i64 0))).flatten [(0, .int .i64 a), (1, .int .i64 b)] = some (vints [a, b]) := by kernel_rfl
  simp only [bldS, tel65, tsz2, tze2, Option.bind_some]
  rw [if_pos ⟨by decide, by kernel_rfl⟩, e]
  rfl
def words20 : List (List UInt8) := [[], [119, 104, 97, 116], [115, 104, 111, 119], [115, 105, 122, 101], [108, 105, 110, 101, 32, 48, 32, 51, 50], [108, 105, 110, 101, 32, 49, 55, 32, 51, 50], [103, 114, 105, 100, 32, 50, 32, 50, 32, 48, 32, 48], [110, 117, 108, 108, 32, 51, 50, 32, 54, 53], [119, 101, 105, 103, 104, 116, 115, 32, 110, 111, 110, 101], [119, 101, 105, 103, 104, 116, 115, 32, 120], [115, 116, 101, 101, 114, 32, 54, 52, 32, 54, 52], [116, 97, 112, 101, 114, 32, 52], [114, 111, 117, 110, 100, 32, 48], [102, 97, 105, 108, 32, 45, 49], [115, 104, 111, 116, 32, 110, 111, 110, 101], [112, 111, 119, 101, 114, 32, 54, 53, 32, 48], [108, 101, 118, 101, 108, 115, 32, 48, 32, 53, 32, 52], [108, 111, 98, 101, 115, 32, 48, 32, 45, 54, 52, 32, 54, 53], [115, 99, 97, 110, 32, 48, 32, 48, 32, 120], [108, 101, 97, 115, 116, 32, 32, 48, 32, 48]]
theorem words20_tx : ∀ s ∈ words20, tx 20 s := by unfold tx nob; decide
theorem accK {P : Program} {lo n k e T by_ : Nat} {h : Heap} {x z : Value} {L M : List Value} (he : elemT P T = some e) (hs : szT P e = some k) (hb : byT P e = some by_) (hz : zeroT P e = some z) (hk : 0 < k) (g : VN lo e k h x n L) (hro : ro ≤ lo) (hlo : lo ≤ h.length)
    (hM : M.length = k) (h1 : M.all one = true) (hn : (n + 1) * by_ ≤ 140737488355328) (hn' : n + 1 ≤ 4611686018427387904) :
    ∃ H, ablt P ro .append [T, T] [x, .slice (some ⟨h.length, 0, none⟩) 1 1] (h ++ [⟨e, M⟩]) = some (.slice (some ⟨h.length + 1, 0, none⟩) (n + 1) (n + 1 + 1), H) ∧ VG lo e k H (.slice (some ⟨h.length + 1, 0, none⟩) (n + 1) (n + 1 + 1)) (n + 1) (L ++ M) ∧ Old lo x h H ∧ H.length = h.length + 2 := by
  have p1 := (Pfx.refl h).snoc (C := ⟨e, M⟩)
  have q1 : (h ++ [(⟨e, M⟩ : Blk)]).length = h.length + 1 := by simp
  have g1 := g.pre p1
  have hll : L.length = n * k := by
    rcases g with g | ⟨rfl, rfl, _⟩
    · exact g.1
    · simp
  have ap := ablt_apv (ro := ro) he hs hb hz hk (.inl rfl) g1 hro (y := .slice (some ⟨h.length, 0, none⟩) 1 1) (M := M) (m := 1) (news_blk (j := 1) (get_last rfl) (by omega)) rfl (by omega) (by decide) h1 hn hn'
  rw [q1] at ap
  refine ⟨_, ap, ?_, ⟨fun h0 hp hl => Pfx.apv (hp.trans p1) g1 hl, fun b hb hne => ?_, ?_⟩, ?_⟩
  · have := vg_apv (lo := lo) (t := e) (k := k) (h := h ++ [(⟨e, M⟩ : Blk)]) (x := x) (n := n) (m := n + 1) (M := L ++ M) (by rw [List.length_append, hll, hM, Nat.add_mul, Nat.one_mul]) (by omega) (by omega)
    rw [q1] at this
    exact this
  · rw [apv_getN g1 (by omega) hne]; exact get_skip hb
  · rw [apv_len, q1]; omega
  · rw [apv_len, q1]
theorem put3 {h : Heap} {d i : Nat} {t : TypeId} {cs : List Value} {v : Value} (hb : h[d]? = some ⟨t, cs⟩) (hro : ro ≤ d) (hi : i + 1 ≤ cs.length) (hc : cellsOf v = [v]) (h1 : one v = true) : put ro h d i 1 v = some (h.set d ⟨t, splice cs i [v]⟩) := by
  have := putb (ro := ro) (n := 1) (o := i) (v := v) hb hro (by rw [hc]; rfl) hi (by rw [hc]; simp [h1])
  rw [hc] at this
  exact this
theorem Dst.set {b d : Nat} {h h' : Heap} {C : Blk} (g : Dst b h h') (hd : h.length ≤ d) : Dst b h (h'.set d C) := ⟨by rw [List.length_set]; exact g.1, fun j hj hb => by rw [List.getElem?_set_ne (by omega)]; exact g.2 j hj hb⟩
theorem SRC.set {lo hi b A d : Nat} {x : Value} {cd : List UInt8} {h : Heap} {C : Blk} (s : SRC lo hi b A x cd h) (hd : b < d) (hi2 : hi ≤ b) : SRC lo hi b A x cd (h.set d C) := s.frame (List.getElem?_set_ne (by omega)) fun j _ hj => List.getElem?_set_ne (by omega)
variable {lo hi b A : Nat} {x : Value} {cd : List UInt8} {h : Heap}
/-- What a line of a desk is. -/
def LnS (lo hi b A : Nat) (x : Value) (cd : List UInt8) (h h' : Heap) (r : Value) : Prop := ∃ s, r = .string ⟨⟨s⟩⟩ ∧ tx 250 s ∧ SRC lo hi b (A + 200) x cd h' ∧ Dst b h h'
theorem LnS.end {h' : Heap} {s : List UInt8} (hS : SRC lo hi b A x cd h) {A' : Nat} (hS' : SRC lo hi b A' x cd h') (hA' : A' ≤ A + 200) (d : Dst b h h') (ht : tx 250 s) : LnS lo hi b A x cd h (endH (.string ⟨⟨s⟩⟩) h h') (.string ⟨⟨s⟩⟩) := by
  have es := endH_src (v := .string ⟨⟨s⟩⟩) (A' := A + 200) hS (hS'.more hA') (by omega) d
  exact ⟨s, rfl, ht, es.1, es.2⟩
theorem vs_lit {t : TypeId} (h : Heap) (L : List (List UInt8)) : VS h.length (h.length + 1) 1 (h ++ [⟨t, L.map strv⟩]) (.slice (some ⟨h.length, 0, none⟩) L.length L.length) L.length (L.map strv) := (vg_lit (k := 1) (n := L.length) h (Nat.le_refl _) (by rw [List.length_map, Nat.mul_one])).vs
theorem at_h (hF : XF ro X) : X 22 = none := hF.e.d.n _ rfl
def wA : List (List UInt8) := [[119, 101, 105, 103, 104, 116, 115, 32], [115, 104, 111, 116, 32]]
theorem wA_tx : ∀ s ∈ wA, tx 20 s := by unfold tx nob; decide
def wB : List (List UInt8) := [[115, 116, 101, 101, 114, 32], [112, 111, 119, 101, 114, 32]]
theorem wB_tx : ∀ s ∈ wB, tx 20 s := by unfold tx nob; decide
def wC : List (List UInt8) := [[116, 97, 112, 101, 114, 32], [114, 111, 117, 110, 100, 32], [102, 97, 105, 108, 32]]
theorem wC_tx : ∀ s ∈ wC, tx 20 s := by unfold tx nob; decide
def wD : List (List UInt8) := [[108, 101, 118, 101, 108, 115, 32, 48, 32], [108, 111, 98, 101, 115, 32, 48, 32]]
theorem wD_tx : ∀ s ∈ wD, tx 20 s := by unfold tx nob; decide
def wE : List (List UInt8) := [[115, 99, 97, 110, 32, 48, 32], [108, 101, 97, 115, 116, 32, 48, 32]]
theorem wE_tx : ∀ s ∈ wE, tx 20 s := by unfold tx nob; decide
set_option maxHeartbeats 4000000 in
theorem Line_c (hF : XF ro X) {dk : Nat} {pa : Option Addr} {pn pc : Nat} {w s3 : Value} (hD : h[dk]? = some ⟨30, [.slice pa pn pc, w, s3]⟩) (hdk : dk ≠ b) (hpn : pn ≤ 4) (hS : SRC lo hi b A x cd h) (hro : ro ≤ b) (hq : hi ≤ b) (hA : A ≤ 1152921504600000000) (hl : cd.length ≤ 1099511627776) :
    CallR Tryd.prog ro X 12 [.pointer (some ⟨b, 0, none⟩), .pointer (some ⟨dk, 0, none⟩)] h (fun r h' => LnS lo hi b A x cd h h' r) := by
  have hW := hF.w
  have hx := hF.e.d
  have hX := hx.n
  have hbl := hS.lt
  refine callR_of (hX _ rfl) Tryd.func12 rfl (by kernel_rfl) (Nat.le_of_ble_eq_true rfl) ?_
  (repeat' first | simp -dsimp (disch := first | omega | assumption | (refine OkS.sto ?_ (by omega); first | assumption | (refine OkS.sto ?_ (by omega); first | assumption | (refine OkS.sto ?_ (by omega); first | assumption | (refine OkS.sto ?_ (by omega); first | assumption | (refine OkS.sto ?_ (by omega); first | assumption | (refine OkS.sto ?_ (by omega); first | assumption)))))) | exact Pfx.refl _ | (apply Pfx.snoc; repeat (first | exact Pfx.refl _ | assumption | apply Pfx.snoc)) | with_unfolding_all exact of_eq_true (eq_true rfl) | (simp only [List.length_append, List.length_cons, List.length_nil]; omega)) only [↓wpre0, ↓wpre1, ↓reduceIte, Int.reduceToNat, Nat.reduceAdd, Nat.reduceMul, Nat.reduceEqDiff, wpost0, wpost1, wpost2, wpost3, wpost4, ite_self, ite_true, ite_false, if_true, if_false, bin_eql, xbls24_0, xbls24_1, bin_add, sadd_bl, bin_sub, xbls65_0, xbls65_1, nilV_ptr, xfad30_0, xld26, xlen26, fr12, wrap_int, wrap_u8, iteP_yes, iteP_no] | refine iteP_two (fun hc hd => ?_) (fun hc hd => ?_) | refine iteP_intro (fun hc => ?_) (fun hc => ?_))
  refine cf_rel (pick_c hW.next hW.pick (n := 8) hS hro hq (by omega) hl (by omega)) (fun q => by cases q) ?_
  rintro r H1 ⟨v, rfl, _, hv, S1, o1⟩
  have l1 := o1.1
  have d1 : H1[dk]? = some ⟨30, [.slice pa pn pc, w, s3]⟩ := by rw [o1.2 dk hdk]; exact hD
  have c1 : cell H1 dk 0 = some (.slice pa pn pc) := cellb d1
  (repeat' first | simp -dsimp (disch := first | omega | assumption | (refine OkS.sto ?_ (by omega); first | assumption | (refine OkS.sto ?_ (by omega); first | assumption | (refine OkS.sto ?_ (by omega); first | assumption | (refine OkS.sto ?_ (by omega); first | assumption | (refine OkS.sto ?_ (by omega); first | assumption | (refine OkS.sto ?_ (by omega); first | assumption)))))) | exact Pfx.refl _ | (apply Pfx.snoc; repeat (first | exact Pfx.refl _ | assumption | apply Pfx.snoc)) | with_unfolding_all exact of_eq_true (eq_true rfl) | (simp only [List.length_append, List.length_cons, List.length_nil]; omega)) only [↓wpre0, ↓wpre1, ↓reduceIte, Int.reduceToNat, Nat.reduceAdd, Nat.reduceMul, Nat.reduceEqDiff, wpost0, wpost1, wpost2, wpost3, wpost4, ite_self, ite_true, ite_false, if_true, if_false, bin_eql, xbls24_0, xbls24_1, bin_add, sadd_bl, bin_sub, xbls65_0, xbls65_1, nilV_ptr, xfad30_0, xld26, xlen26, fr12, wrap_int, wrap_u8, iteP_yes, iteP_no, strlit2, strlit3, strlit20, c1] | refine iteP_two (fun hc hd => ?_) (fun hc hd => ?_) | refine iteP_intro (fun hc => ?_) (fun hc => ?_))
  · have pH2 : Pfx H1 (H1 ++ [(⟨9, words20.map strv⟩ : Blk)]) := (Pfx.refl H1).snoc
    refine cf_rel (text_c hW (at_h hF) (L := words20) (k := 20) (n := 20) (vs_lit H1 words20) (by decide) (by decide) words20_tx (by omega) (S1.pre pH2) hro hq (by omega) hl) (fun q => by cases q) ?_
    rintro r H2 ⟨s, ts, rfl, S2, o2⟩
    have lH2 := o2.1
    rw [List.length_append, List.length_singleton] at lH2
    have tsl := ts.2
    (repeat' first | simp -dsimp (disch := first | omega | assumption | (refine OkS.sto ?_ (by omega); first | assumption | (refine OkS.sto ?_ (by omega); first | assumption | (refine OkS.sto ?_ (by omega); first | assumption | (refine OkS.sto ?_ (by omega); first | assumption | (refine OkS.sto ?_ (by omega); first | assumption | (refine OkS.sto ?_ (by omega); first | assumption)))))) | exact Pfx.refl _ | (apply Pfx.snoc; repeat (first | exact Pfx.refl _ | assumption | apply Pfx.snoc)) | with_unfolding_all exact of_eq_true (eq_true rfl) | (simp only [List.length_append, List.length_cons, List.length_nil]; omega)) only [↓wpre0, ↓wpre1, ↓reduceIte, Int.reduceToNat, Nat.reduceAdd, Nat.reduceMul, Nat.reduceEqDiff, wpost0, wpost1, wpost2, wpost3, wpost4, ite_self, ite_true, ite_false, if_true, if_false, bin_eql, xbls24_0, xbls24_1, bin_add, sadd_bl, bin_sub, xbls65_0, xbls65_1, nilV_ptr, xfad30_0, xld26, xlen26, fr12, wrap_int, wrap_u8, iteP_yes, iteP_no] | refine iteP_two (fun hc hd => ?_) (fun hc hd => ?_) | refine iteP_intro (fun hc => ?_) (fun hc => ?_))
    exact LnS.end hS S2 (by omega) (o1.dst.trans (pH2.dst.trans o2.dst)) ⟨ts.1, by omega⟩
  · refine cf_rel (one_c hW.next hW.pick hW.one (n := 3) S1 hro hq (by omega) hl (by omega)) (fun q => by cases q) ?_
    rintro r H2 ⟨q, rfl, S2, o2⟩
    have lH2 := o2.1
    cases q with
    | true =>
      (repeat' first | simp -dsimp (disch := first | omega | assumption | (refine OkS.sto ?_ (by omega); first | assumption | (refine OkS.sto ?_ (by omega); first | assumption | (refine OkS.sto ?_ (by omega); first | assumption | (refine OkS.sto ?_ (by omega); first | assumption | (refine OkS.sto ?_ (by omega); first | assumption | (refine OkS.sto ?_ (by omega); first | assumption)))))) | exact Pfx.refl _ | (apply Pfx.snoc; repeat (first | exact Pfx.refl _ | assumption | apply Pfx.snoc)) | with_unfolding_all exact of_eq_true (eq_true rfl) | (simp only [List.length_append, List.length_cons, List.length_nil]; omega)) only [↓wpre0, ↓wpre1, ↓reduceIte, Int.reduceToNat, Nat.reduceAdd, Nat.reduceMul, Nat.reduceEqDiff, wpost0, wpost1, wpost2, wpost3, wpost4, ite_self, ite_true, ite_false, if_true, if_false, bin_eql, xbls24_0, xbls24_1, bin_add, sadd_bl, bin_sub, xbls65_0, xbls65_1, nilV_ptr, xfad30_0, xld26, xlen26, fr12, wrap_int, wrap_u8, iteP_yes, iteP_no] | refine iteP_two (fun hc hd => ?_) (fun hc hd => ?_) | refine iteP_intro (fun hc => ?_) (fun hc => ?_))
      refine cf_rel (pick_c hW.next hW.pick (n := 3) S2 hro hq (by omega) hl (by omega)) (fun q => by cases q) ?_
      rintro r H3 ⟨v2, rfl, _, v2h, S3, o3⟩
      have v2q := v2h (by omega)
      have lH3 := o3.1
      have tA := decS_tx (n := 1 + (v2 : Int)) (by omega) (by omega)
      have tAl := tA.2
      (repeat' first | simp -dsimp (disch := first | omega | assumption | (refine OkS.sto ?_ (by omega); first | assumption | (refine OkS.sto ?_ (by omega); first | assumption | (refine OkS.sto ?_ (by omega); first | assumption | (refine OkS.sto ?_ (by omega); first | assumption | (refine OkS.sto ?_ (by omega); first | assumption | (refine OkS.sto ?_ (by omega); first | assumption)))))) | exact Pfx.refl _ | (apply Pfx.snoc; repeat (first | exact Pfx.refl _ | assumption | apply Pfx.snoc)) | with_unfolding_all exact of_eq_true (eq_true rfl) | (simp only [List.length_append, List.length_cons, List.length_nil]; omega)) only [↓wpre0, ↓wpre1, ↓reduceIte, Int.reduceToNat, Nat.reduceAdd, Nat.reduceMul, Nat.reduceEqDiff, wpost0, wpost1, wpost2, wpost3, wpost4, ite_self, ite_true, ite_false, if_true, if_false, bin_eql, xbls24_0, xbls24_1, bin_add, sadd_bl, bin_sub, xbls65_0, xbls65_1, nilV_ptr, xfad30_0, xld26, xlen26, fr12, wrap_int, wrap_u8, iteP_yes, iteP_no, DecA_r hx] | refine iteP_two (fun hc hd => ?_) (fun hc hd => ?_) | refine iteP_intro (fun hc => ?_) (fun hc => ?_))
      refine cf_rel (pick_c hW.next hW.pick (n := 30) S3 hro hq (by omega) hl (by omega)) (fun q => by cases q) ?_
      rintro r H4 ⟨v3, rfl, _, v3h, S4, o4⟩
      have v3q := v3h (by omega)
      have lH4 := o4.1
      have tB := decS_tx (n := 20 + (v3 : Int)) (by omega) (by omega)
      have tBl := tB.2
      (repeat' first | simp -dsimp (disch := first | omega | assumption | (refine OkS.sto ?_ (by omega); first | assumption | (refine OkS.sto ?_ (by omega); first | assumption | (refine OkS.sto ?_ (by omega); first | assumption | (refine OkS.sto ?_ (by omega); first | assumption | (refine OkS.sto ?_ (by omega); first | assumption | (refine OkS.sto ?_ (by omega); first | assumption)))))) | exact Pfx.refl _ | (apply Pfx.snoc; repeat (first | exact Pfx.refl _ | assumption | apply Pfx.snoc)) | with_unfolding_all exact of_eq_true (eq_true rfl) | (simp only [List.length_append, List.length_cons, List.length_nil]; omega)) only [↓wpre0, ↓wpre1, ↓reduceIte, Int.reduceToNat, Nat.reduceAdd, Nat.reduceMul, Nat.reduceEqDiff, wpost0, wpost1, wpost2, wpost3, wpost4, ite_self, ite_true, ite_false, if_true, if_false, bin_eql, xbls24_0, xbls24_1, bin_add, sadd_bl, bin_sub, xbls65_0, xbls65_1, nilV_ptr, xfad30_0, xld26, xlen26, fr12, wrap_int, wrap_u8, iteP_yes, iteP_no, DecA_r hx] | refine iteP_two (fun hc hd => ?_) (fun hc hd => ?_) | refine iteP_intro (fun hc => ?_) (fun hc => ?_))
      exact LnS.end hS S4 (by omega) (o1.dst.trans (o2.dst.trans (o3.dst.trans o4.dst))) ⟨by simp [nob_append, nob_cons, nob_nil, tA.1, tB.1], by simp; omega⟩
    | false =>
      (repeat' first | simp -dsimp (disch := first | omega | assumption | (refine OkS.sto ?_ (by omega); first | assumption | (refine OkS.sto ?_ (by omega); first | assumption | (refine OkS.sto ?_ (by omega); first | assumption | (refine OkS.sto ?_ (by omega); first | assumption | (refine OkS.sto ?_ (by omega); first | assumption | (refine OkS.sto ?_ (by omega); first | assumption)))))) | exact Pfx.refl _ | (apply Pfx.snoc; repeat (first | exact Pfx.refl _ | assumption | apply Pfx.snoc)) | with_unfolding_all exact of_eq_true (eq_true rfl) | (simp only [List.length_append, List.length_cons, List.length_nil]; omega)) only [↓wpre0, ↓wpre1, ↓reduceIte, Int.reduceToNat, Nat.reduceAdd, Nat.reduceMul, Nat.reduceEqDiff, wpost0, wpost1, wpost2, wpost3, wpost4, ite_self, ite_true, ite_false, if_true, if_false, bin_eql, xbls24_0, xbls24_1, bin_add, sadd_bl, bin_sub, xbls65_0, xbls65_1, nilV_ptr, xfad30_0, xld26, xlen26, fr12, wrap_int, wrap_u8, iteP_yes, iteP_no] | refine iteP_two (fun hc hd => ?_) (fun hc hd => ?_) | refine iteP_intro (fun hc => ?_) (fun hc => ?_))
      refine cf_rel (pick_c hW.next hW.pick (n := 5) S2 hro hq (by omega) hl (by omega)) (fun q => by cases q) ?_
      rintro r H3 ⟨v2, rfl, _, v2h, S3, o3⟩
      have v2q := v2h (by omega)
      have lH3 := o3.1
      have tA := decS_tx (n := 1 + (v2 : Int)) (by omega) (by omega)
      have tAl := tA.2
      (repeat' first | simp -dsimp (disch := first | omega | assumption | (refine OkS.sto ?_ (by omega); first | assumption | (refine OkS.sto ?_ (by omega); first | assumption | (refine OkS.sto ?_ (by omega); first | assumption | (refine OkS.sto ?_ (by omega); first | assumption | (refine OkS.sto ?_ (by omega); first | assumption | (refine OkS.sto ?_ (by omega); first | assumption)))))) | exact Pfx.refl _ | (apply Pfx.snoc; repeat (first | exact Pfx.refl _ | assumption | apply Pfx.snoc)) | with_unfolding_all exact of_eq_true (eq_true rfl) | (simp only [List.length_append, List.length_cons, List.length_nil]; omega)) only [↓wpre0, ↓wpre1, ↓reduceIte, Int.reduceToNat, Nat.reduceAdd, Nat.reduceMul, Nat.reduceEqDiff, wpost0, wpost1, wpost2, wpost3, wpost4, ite_self, ite_true, ite_false, if_true, if_false, bin_eql, xbls24_0, xbls24_1, bin_add, sadd_bl, bin_sub, xbls65_0, xbls65_1, nilV_ptr, xfad30_0, xld26, xlen26, fr12, wrap_int, wrap_u8, iteP_yes, iteP_no, DecA_r hx] | refine iteP_two (fun hc hd => ?_) (fun hc hd => ?_) | refine iteP_intro (fun hc => ?_) (fun hc => ?_))
      refine cf_rel (pick_c hW.next hW.pick (n := 50) S3 hro hq (by omega) hl (by omega)) (fun q => by cases q) ?_
      rintro r H4 ⟨v3, rfl, _, v3h, S4, o4⟩
      have v3q := v3h (by omega)
      have lH4 := o4.1
      have tB := decS_tx (n := 10 + (v3 : Int)) (by omega) (by omega)
      have tBl := tB.2
      (repeat' first | simp -dsimp (disch := first | omega | assumption | (refine OkS.sto ?_ (by omega); first | assumption | (refine OkS.sto ?_ (by omega); first | assumption | (refine OkS.sto ?_ (by omega); first | assumption | (refine OkS.sto ?_ (by omega); first | assumption | (refine OkS.sto ?_ (by omega); first | assumption | (refine OkS.sto ?_ (by omega); first | assumption)))))) | exact Pfx.refl _ | (apply Pfx.snoc; repeat (first | exact Pfx.refl _ | assumption | apply Pfx.snoc)) | with_unfolding_all exact of_eq_true (eq_true rfl) | (simp only [List.length_append, List.length_cons, List.length_nil]; omega)) only [↓wpre0, ↓wpre1, ↓reduceIte, Int.reduceToNat, Nat.reduceAdd, Nat.reduceMul, Nat.reduceEqDiff, wpost0, wpost1, wpost2, wpost3, wpost4, ite_self, ite_true, ite_false, if_true, if_false, bin_eql, xbls24_0, xbls24_1, bin_add, sadd_bl, bin_sub, xbls65_0, xbls65_1, nilV_ptr, xfad30_0, xld26, xlen26, fr12, wrap_int, wrap_u8, iteP_yes, iteP_no, DecA_r hx] | refine iteP_two (fun hc hd => ?_) (fun hc hd => ?_) | refine iteP_intro (fun hc => ?_) (fun hc => ?_))
      exact LnS.end hS S4 (by omega) (o1.dst.trans (o2.dst.trans (o3.dst.trans o4.dst))) ⟨by simp [nob_append, nob_cons, nob_nil, tA.1, tB.1], by simp; omega⟩
  · refine cf_rel (pick_c hW.next hW.pick (n := 100) S1 hro hq (by omega) hl (by omega)) (fun q => by cases q) ?_
    rintro r H2 ⟨v2, rfl, _, v2h, S2, o2⟩
    have v2q := v2h (by omega)
    have lH2 := o2.1
    (repeat' first | simp -dsimp (disch := first | omega | assumption | (refine OkS.sto ?_ (by omega); first | assumption | (refine OkS.sto ?_ (by omega); first | assumption | (refine OkS.sto ?_ (by omega); first | assumption | (refine OkS.sto ?_ (by omega); first | assumption | (refine OkS.sto ?_ (by omega); first | assumption | (refine OkS.sto ?_ (by omega); first | assumption)))))) | exact Pfx.refl _ | (apply Pfx.snoc; repeat (first | exact Pfx.refl _ | assumption | apply Pfx.snoc)) | with_unfolding_all exact of_eq_true (eq_true rfl) | (simp only [List.length_append, List.length_cons, List.length_nil]; omega)) only [↓wpre0, ↓wpre1, ↓reduceIte, Int.reduceToNat, Nat.reduceAdd, Nat.reduceMul, Nat.reduceEqDiff, wpost0, wpost1, wpost2, wpost3, wpost4, ite_self, ite_true, ite_false, if_true, if_false, bin_eql, xbls24_0, xbls24_1, bin_add, sadd_bl, bin_sub, xbls65_0, xbls65_1, nilV_ptr, xfad30_0, xld26, xlen26, fr12, wrap_int, wrap_u8, iteP_yes, iteP_no] | refine iteP_two (fun hc hd => ?_) (fun hc hd => ?_) | refine iteP_intro (fun hc => ?_) (fun hc => ?_))
    refine cf_rel (pick_c hW.next hW.pick (n := 60) S2 hro hq (by omega) hl (by omega)) (fun q => by cases q) ?_
    rintro r H3 ⟨v3, rfl, _, v3h, S3, o3⟩
    have v3q := v3h (by omega)
    have lH3 := o3.1
    obtain ⟨s, ts, rt⟩ := Text_c (ro := ro) hF (a := (v2 : Int) - 50) (b := v3) (x := .slice (some ⟨H3.length, 0, none⟩) 2 2) (h := H3 ++ [⟨2, vints [(v2 : Int) - 50, v3]⟩]) (is_lit H3 [(v2 : Int) - 50, v3]) ⟨by omega, by omega⟩ ⟨by omega, by omega⟩ (by simp; omega)
    have tsl := ts.2
    have pH4 : Pfx H3 (H3 ++ [(⟨2, vints [(v2 : Int) - 50, v3]⟩ : Blk)]) := (Pfx.refl H3).snoc
    (repeat' first | simp -dsimp (disch := first | omega | assumption | (refine OkS.sto ?_ (by omega); first | assumption | (refine OkS.sto ?_ (by omega); first | assumption | (refine OkS.sto ?_ (by omega); first | assumption | (refine OkS.sto ?_ (by omega); first | assumption | (refine OkS.sto ?_ (by omega); first | assumption | (refine OkS.sto ?_ (by omega); first | assumption)))))) | exact Pfx.refl _ | (apply Pfx.snoc; repeat (first | exact Pfx.refl _ | assumption | apply Pfx.snoc)) | with_unfolding_all exact of_eq_true (eq_true rfl) | (simp only [List.length_append, List.length_cons, List.length_nil]; omega)) only [↓wpre0, ↓wpre1, ↓reduceIte, Int.reduceToNat, Nat.reduceAdd, Nat.reduceMul, Nat.reduceEqDiff, wpost0, wpost1, wpost2, wpost3, wpost4, ite_self, ite_true, ite_false, if_true, if_false, bin_eql, xbls24_0, xbls24_1, bin_add, sadd_bl, bin_sub, xbls65_0, xbls65_1, nilV_ptr, xfad30_0, xld26, xlen26, fr12, wrap_int, wrap_u8, iteP_yes, iteP_no, intlit2, rt] | refine iteP_two (fun hc hd => ?_) (fun hc hd => ?_) | refine iteP_intro (fun hc => ?_) (fun hc => ?_))
    exact LnS.end hS (S3.pre pH4) (by omega) (o1.dst.trans (o2.dst.trans (o3.dst.trans pH4.dst))) ⟨by simp [nob_cons, ts.1], by simp; omega⟩
  · have pH2 : Pfx H1 (H1 ++ [(⟨9, wA.map strv⟩ : Blk)]) := (Pfx.refl H1).snoc
    refine cf_rel (text_c hW (at_h hF) (L := wA) (k := 20) (n := 2) (vs_lit H1 wA) (by decide) (by decide) wA_tx (by omega) (S1.pre pH2) hro hq (by omega) hl) (fun q => by cases q) ?_
    rintro r H2 ⟨s, ts, rfl, S2, o2⟩
    have lH2 := o2.1
    rw [List.length_append, List.length_singleton] at lH2
    have tsl := ts.2
    (repeat' first | simp -dsimp (disch := first | omega | assumption | (refine OkS.sto ?_ (by omega); first | assumption | (refine OkS.sto ?_ (by omega); first | assumption | (refine OkS.sto ?_ (by omega); first | assumption | (refine OkS.sto ?_ (by omega); first | assumption | (refine OkS.sto ?_ (by omega); first | assumption | (refine OkS.sto ?_ (by omega); first | assumption)))))) | exact Pfx.refl _ | (apply Pfx.snoc; repeat (first | exact Pfx.refl _ | assumption | apply Pfx.snoc)) | with_unfolding_all exact of_eq_true (eq_true rfl) | (simp only [List.length_append, List.length_cons, List.length_nil]; omega)) only [↓wpre0, ↓wpre1, ↓reduceIte, Int.reduceToNat, Nat.reduceAdd, Nat.reduceMul, Nat.reduceEqDiff, wpost0, wpost1, wpost2, wpost3, wpost4, ite_self, ite_true, ite_false, if_true, if_false, bin_eql, xbls24_0, xbls24_1, bin_add, sadd_bl, bin_sub, xbls65_0, xbls65_1, nilV_ptr, xfad30_0, xld26, xlen26, fr12, wrap_int, wrap_u8, iteP_yes, iteP_no] | refine iteP_two (fun hc hd => ?_) (fun hc hd => ?_) | refine iteP_intro (fun hc => ?_) (fun hc => ?_))
    refine cf_rel (DrawComplexes_c hW (n := pn) (by omega) S2 hro hq (by omega) hl) (fun q => by cases q) ?_
    rintro r H3 ⟨zs, hz, hzs, hV, S3, o3⟩
    have lH3 := o3.1
    (repeat' first | simp -dsimp (disch := first | omega | assumption | (refine OkS.sto ?_ (by omega); first | assumption | (refine OkS.sto ?_ (by omega); first | assumption | (refine OkS.sto ?_ (by omega); first | assumption | (refine OkS.sto ?_ (by omega); first | assumption | (refine OkS.sto ?_ (by omega); first | assumption | (refine OkS.sto ?_ (by omega); first | assumption)))))) | exact Pfx.refl _ | (apply Pfx.snoc; repeat (first | exact Pfx.refl _ | assumption | apply Pfx.snoc)) | with_unfolding_all exact of_eq_true (eq_true rfl) | (simp only [List.length_append, List.length_cons, List.length_nil]; omega)) only [↓wpre0, ↓wpre1, ↓reduceIte, Int.reduceToNat, Nat.reduceAdd, Nat.reduceMul, Nat.reduceEqDiff, wpost0, wpost1, wpost2, wpost3, wpost4, ite_self, ite_true, ite_false, if_true, if_false, bin_eql, xbls24_0, xbls24_1, bin_add, sadd_bl, bin_sub, xbls65_0, xbls65_1, nilV_ptr, xfad30_0, xld26, xlen26, fr12, wrap_int, wrap_u8, iteP_yes, iteP_no] | refine iteP_two (fun hc hd => ?_) (fun hc hd => ?_) | refine iteP_intro (fun hc => ?_) (fun hc => ?_))
    refine cf_rel (CText_c hF hV.vsl hzs (by omega) (by omega)) (fun q => by cases q) ?_
    rintro r H4 ⟨s2, rfl, ts2, rfl⟩
    have ts2l := ts2.2
    (repeat' first | simp -dsimp (disch := first | omega | assumption | (refine OkS.sto ?_ (by omega); first | assumption | (refine OkS.sto ?_ (by omega); first | assumption | (refine OkS.sto ?_ (by omega); first | assumption | (refine OkS.sto ?_ (by omega); first | assumption | (refine OkS.sto ?_ (by omega); first | assumption | (refine OkS.sto ?_ (by omega); first | assumption)))))) | exact Pfx.refl _ | (apply Pfx.snoc; repeat (first | exact Pfx.refl _ | assumption | apply Pfx.snoc)) | with_unfolding_all exact of_eq_true (eq_true rfl) | (simp only [List.length_append, List.length_cons, List.length_nil]; omega)) only [↓wpre0, ↓wpre1, ↓reduceIte, Int.reduceToNat, Nat.reduceAdd, Nat.reduceMul, Nat.reduceEqDiff, wpost0, wpost1, wpost2, wpost3, wpost4, ite_self, ite_true, ite_false, if_true, if_false, bin_eql, xbls24_0, xbls24_1, bin_add, sadd_bl, bin_sub, xbls65_0, xbls65_1, nilV_ptr, xfad30_0, xld26, xlen26, fr12, wrap_int, wrap_u8, iteP_yes, iteP_no] | refine iteP_two (fun hc hd => ?_) (fun hc hd => ?_) | refine iteP_intro (fun hc => ?_) (fun hc => ?_))
    exact LnS.end hS S3 (by omega) (o1.dst.trans (pH2.dst.trans (o2.dst.trans o3))) ⟨nob_append.2 ⟨ts.1, ts2.1⟩, by simp; omega⟩
  · refine cf_rel (pick_c hW.next hW.pick (n := 80) S1 hro hq (by omega) hl (by omega)) (fun q => by cases q) ?_
    rintro r H2 ⟨v2, rfl, _, v2h, S2, o2⟩
    have v2q := v2h (by omega)
    have lH2 := o2.1
    (repeat' first | simp -dsimp (disch := first | omega | assumption | (refine OkS.sto ?_ (by omega); first | assumption | (refine OkS.sto ?_ (by omega); first | assumption | (refine OkS.sto ?_ (by omega); first | assumption | (refine OkS.sto ?_ (by omega); first | assumption | (refine OkS.sto ?_ (by omega); first | assumption | (refine OkS.sto ?_ (by omega); first | assumption)))))) | exact Pfx.refl _ | (apply Pfx.snoc; repeat (first | exact Pfx.refl _ | assumption | apply Pfx.snoc)) | with_unfolding_all exact of_eq_true (eq_true rfl) | (simp only [List.length_append, List.length_cons, List.length_nil]; omega)) only [↓wpre0, ↓wpre1, ↓reduceIte, Int.reduceToNat, Nat.reduceAdd, Nat.reduceMul, Nat.reduceEqDiff, wpost0, wpost1, wpost2, wpost3, wpost4, ite_self, ite_true, ite_false, if_true, if_false, bin_eql, xbls24_0, xbls24_1, bin_add, sadd_bl, bin_sub, xbls65_0, xbls65_1, nilV_ptr, xfad30_0, xld26, xlen26, fr12, wrap_int, wrap_u8, iteP_yes, iteP_no, strlit2] | refine iteP_two (fun hc hd => ?_) (fun hc hd => ?_) | refine iteP_intro (fun hc => ?_) (fun hc => ?_))
    have pH3 : Pfx H2 (H2 ++ [(⟨9, wB.map strv⟩ : Blk)]) := (Pfx.refl H2).snoc
    refine cf_rel (text_c hW (at_h hF) (L := wB) (k := 20) (n := 2) (vs_lit H2 wB) (by decide) (by decide) wB_tx (by omega) (S2.pre pH3) hro hq (by omega) hl) (fun q => by cases q) ?_
    rintro r H3 ⟨s, ts, rfl, S3, o3⟩
    have lH3 := o3.1
    rw [List.length_append, List.length_singleton] at lH3
    have tsl := ts.2
    have tA := decS_tx (n := (v2 : Int) - 40) (by omega) (by omega)
    have tAl := tA.2
    (repeat' first | simp -dsimp (disch := first | omega | assumption | (refine OkS.sto ?_ (by omega); first | assumption | (refine OkS.sto ?_ (by omega); first | assumption | (refine OkS.sto ?_ (by omega); first | assumption | (refine OkS.sto ?_ (by omega); first | assumption | (refine OkS.sto ?_ (by omega); first | assumption | (refine OkS.sto ?_ (by omega); first | assumption)))))) | exact Pfx.refl _ | (apply Pfx.snoc; repeat (first | exact Pfx.refl _ | assumption | apply Pfx.snoc)) | with_unfolding_all exact of_eq_true (eq_true rfl) | (simp only [List.length_append, List.length_cons, List.length_nil]; omega)) only [↓wpre0, ↓wpre1, ↓reduceIte, Int.reduceToNat, Nat.reduceAdd, Nat.reduceMul, Nat.reduceEqDiff, wpost0, wpost1, wpost2, wpost3, wpost4, ite_self, ite_true, ite_false, if_true, if_false, bin_eql, xbls24_0, xbls24_1, bin_add, sadd_bl, bin_sub, xbls65_0, xbls65_1, nilV_ptr, xfad30_0, xld26, xlen26, fr12, wrap_int, wrap_u8, iteP_yes, iteP_no, DecA_r hx] | refine iteP_two (fun hc hd => ?_) (fun hc hd => ?_) | refine iteP_intro (fun hc => ?_) (fun hc => ?_))
    refine cf_rel (pick_c hW.next hW.pick (n := 40) S3 hro hq (by omega) hl (by omega)) (fun q => by cases q) ?_
    rintro r H4 ⟨v3, rfl, _, v3h, S4, o4⟩
    have v3q := v3h (by omega)
    have lH4 := o4.1
    have tB := decS_tx (n := (v3 : Int) - 20) (by omega) (by omega)
    have tBl := tB.2
    (repeat' first | simp -dsimp (disch := first | omega | assumption | (refine OkS.sto ?_ (by omega); first | assumption | (refine OkS.sto ?_ (by omega); first | assumption | (refine OkS.sto ?_ (by omega); first | assumption | (refine OkS.sto ?_ (by omega); first | assumption | (refine OkS.sto ?_ (by omega); first | assumption | (refine OkS.sto ?_ (by omega); first | assumption)))))) | exact Pfx.refl _ | (apply Pfx.snoc; repeat (first | exact Pfx.refl _ | assumption | apply Pfx.snoc)) | with_unfolding_all exact of_eq_true (eq_true rfl) | (simp only [List.length_append, List.length_cons, List.length_nil]; omega)) only [↓wpre0, ↓wpre1, ↓reduceIte, Int.reduceToNat, Nat.reduceAdd, Nat.reduceMul, Nat.reduceEqDiff, wpost0, wpost1, wpost2, wpost3, wpost4, ite_self, ite_true, ite_false, if_true, if_false, bin_eql, xbls24_0, xbls24_1, bin_add, sadd_bl, bin_sub, xbls65_0, xbls65_1, nilV_ptr, xfad30_0, xld26, xlen26, fr12, wrap_int, wrap_u8, iteP_yes, iteP_no, DecA_r hx] | refine iteP_two (fun hc hd => ?_) (fun hc hd => ?_) | refine iteP_intro (fun hc => ?_) (fun hc => ?_))
    exact LnS.end hS S4 (by omega) (o1.dst.trans (o2.dst.trans (pH3.dst.trans (o3.dst.trans o4.dst)))) ⟨by simp [nob_append, nob_cons, nob_nil, ts.1, tA.1, tB.1], by simp; omega⟩
  · have pH2 : Pfx H1 (H1 ++ [(⟨9, wC.map strv⟩ : Blk)]) := (Pfx.refl H1).snoc
    refine cf_rel (text_c hW (at_h hF) (L := wC) (k := 20) (n := 3) (vs_lit H1 wC) (by decide) (by decide) wC_tx (by omega) (S1.pre pH2) hro hq (by omega) hl) (fun q => by cases q) ?_
    rintro r H2 ⟨s, ts, rfl, S2, o2⟩
    have lH2 := o2.1
    rw [List.length_append, List.length_singleton] at lH2
    have tsl := ts.2
    (repeat' first | simp -dsimp (disch := first | omega | assumption | (refine OkS.sto ?_ (by omega); first | assumption | (refine OkS.sto ?_ (by omega); first | assumption | (refine OkS.sto ?_ (by omega); first | assumption | (refine OkS.sto ?_ (by omega); first | assumption | (refine OkS.sto ?_ (by omega); first | assumption | (refine OkS.sto ?_ (by omega); first | assumption)))))) | exact Pfx.refl _ | (apply Pfx.snoc; repeat (first | exact Pfx.refl _ | assumption | apply Pfx.snoc)) | with_unfolding_all exact of_eq_true (eq_true rfl) | (simp only [List.length_append, List.length_cons, List.length_nil]; omega)) only [↓wpre0, ↓wpre1, ↓reduceIte, Int.reduceToNat, Nat.reduceAdd, Nat.reduceMul, Nat.reduceEqDiff, wpost0, wpost1, wpost2, wpost3, wpost4, ite_self, ite_true, ite_false, if_true, if_false, bin_eql, xbls24_0, xbls24_1, bin_add, sadd_bl, bin_sub, xbls65_0, xbls65_1, nilV_ptr, xfad30_0, xld26, xlen26, fr12, wrap_int, wrap_u8, iteP_yes, iteP_no] | refine iteP_two (fun hc hd => ?_) (fun hc hd => ?_) | refine iteP_intro (fun hc => ?_) (fun hc => ?_))
    refine cf_rel (pick_c hW.next hW.pick (n := 4) S2 hro hq (by omega) hl (by omega)) (fun q => by cases q) ?_
    rintro r H3 ⟨v3, rfl, _, v3h, S3, o3⟩
    have v3q := v3h (by omega)
    have lH3 := o3.1
    have tA := decS_tx (n := (v3 : Int)) (by omega) (by omega)
    have tAl := tA.2
    (repeat' first | simp -dsimp (disch := first | omega | assumption | (refine OkS.sto ?_ (by omega); first | assumption | (refine OkS.sto ?_ (by omega); first | assumption | (refine OkS.sto ?_ (by omega); first | assumption | (refine OkS.sto ?_ (by omega); first | assumption | (refine OkS.sto ?_ (by omega); first | assumption | (refine OkS.sto ?_ (by omega); first | assumption)))))) | exact Pfx.refl _ | (apply Pfx.snoc; repeat (first | exact Pfx.refl _ | assumption | apply Pfx.snoc)) | with_unfolding_all exact of_eq_true (eq_true rfl) | (simp only [List.length_append, List.length_cons, List.length_nil]; omega)) only [↓wpre0, ↓wpre1, ↓reduceIte, Int.reduceToNat, Nat.reduceAdd, Nat.reduceMul, Nat.reduceEqDiff, wpost0, wpost1, wpost2, wpost3, wpost4, ite_self, ite_true, ite_false, if_true, if_false, bin_eql, xbls24_0, xbls24_1, bin_add, sadd_bl, bin_sub, xbls65_0, xbls65_1, nilV_ptr, xfad30_0, xld26, xlen26, fr12, wrap_int, wrap_u8, iteP_yes, iteP_no, DecA_r hx] | refine iteP_two (fun hc hd => ?_) (fun hc hd => ?_) | refine iteP_intro (fun hc => ?_) (fun hc => ?_))
    exact LnS.end hS S3 (by omega) (o1.dst.trans (pH2.dst.trans (o2.dst.trans o3.dst))) ⟨by simp [nob_append, nob_cons, nob_nil, ts.1, tA.1], by simp; omega⟩
  · refine cf_rel (pick_c hW.next hW.pick (n := 60) S1 hro hq (by omega) hl (by omega)) (fun q => by cases q) ?_
    rintro r H2 ⟨v2, rfl, _, v2h, S2, o2⟩
    have v2q := v2h (by omega)
    have lH2 := o2.1
    (repeat' first | simp -dsimp (disch := first | omega | assumption | (refine OkS.sto ?_ (by omega); first | assumption | (refine OkS.sto ?_ (by omega); first | assumption | (refine OkS.sto ?_ (by omega); first | assumption | (refine OkS.sto ?_ (by omega); first | assumption | (refine OkS.sto ?_ (by omega); first | assumption | (refine OkS.sto ?_ (by omega); first | assumption)))))) | exact Pfx.refl _ | (apply Pfx.snoc; repeat (first | exact Pfx.refl _ | assumption | apply Pfx.snoc)) | with_unfolding_all exact of_eq_true (eq_true rfl) | (simp only [List.length_append, List.length_cons, List.length_nil]; omega)) only [↓wpre0, ↓wpre1, ↓reduceIte, Int.reduceToNat, Nat.reduceAdd, Nat.reduceMul, Nat.reduceEqDiff, wpost0, wpost1, wpost2, wpost3, wpost4, ite_self, ite_true, ite_false, if_true, if_false, bin_eql, xbls24_0, xbls24_1, bin_add, sadd_bl, bin_sub, xbls65_0, xbls65_1, nilV_ptr, xfad30_0, xld26, xlen26, fr12, wrap_int, wrap_u8, iteP_yes, iteP_no, strlit2] | refine iteP_two (fun hc hd => ?_) (fun hc hd => ?_) | refine iteP_intro (fun hc => ?_) (fun hc => ?_))
    have pH3 : Pfx H2 (H2 ++ [(⟨9, wD.map strv⟩ : Blk)]) := (Pfx.refl H2).snoc
    refine cf_rel (text_c hW (at_h hF) (L := wD) (k := 20) (n := 2) (vs_lit H2 wD) (by decide) (by decide) wD_tx (by omega) (S2.pre pH3) hro hq (by omega) hl) (fun q => by cases q) ?_
    rintro r H3 ⟨s, ts, rfl, S3, o3⟩
    have lH3 := o3.1
    rw [List.length_append, List.length_singleton] at lH3
    have tsl := ts.2
    have tA := decS_tx (n := (v2 : Int) - 50) (by omega) (by omega)
    have tAl := tA.2
    (repeat' first | simp -dsimp (disch := first | omega | assumption | (refine OkS.sto ?_ (by omega); first | assumption | (refine OkS.sto ?_ (by omega); first | assumption | (refine OkS.sto ?_ (by omega); first | assumption | (refine OkS.sto ?_ (by omega); first | assumption | (refine OkS.sto ?_ (by omega); first | assumption | (refine OkS.sto ?_ (by omega); first | assumption)))))) | exact Pfx.refl _ | (apply Pfx.snoc; repeat (first | exact Pfx.refl _ | assumption | apply Pfx.snoc)) | with_unfolding_all exact of_eq_true (eq_true rfl) | (simp only [List.length_append, List.length_cons, List.length_nil]; omega)) only [↓wpre0, ↓wpre1, ↓reduceIte, Int.reduceToNat, Nat.reduceAdd, Nat.reduceMul, Nat.reduceEqDiff, wpost0, wpost1, wpost2, wpost3, wpost4, ite_self, ite_true, ite_false, if_true, if_false, bin_eql, xbls24_0, xbls24_1, bin_add, sadd_bl, bin_sub, xbls65_0, xbls65_1, nilV_ptr, xfad30_0, xld26, xlen26, fr12, wrap_int, wrap_u8, iteP_yes, iteP_no, DecA_r hx] | refine iteP_two (fun hc hd => ?_) (fun hc hd => ?_) | refine iteP_intro (fun hc => ?_) (fun hc => ?_))
    refine cf_rel (pick_c hW.next hW.pick (n := 12) S3 hro hq (by omega) hl (by omega)) (fun q => by cases q) ?_
    rintro r H4 ⟨v3, rfl, _, v3h, S4, o4⟩
    have v3q := v3h (by omega)
    have lH4 := o4.1
    have tB := decS_tx (n := (v2 : Int) - 50 + v3) (by omega) (by omega)
    have tBl := tB.2
    (repeat' first | simp -dsimp (disch := first | omega | assumption | (refine OkS.sto ?_ (by omega); first | assumption | (refine OkS.sto ?_ (by omega); first | assumption | (refine OkS.sto ?_ (by omega); first | assumption | (refine OkS.sto ?_ (by omega); first | assumption | (refine OkS.sto ?_ (by omega); first | assumption | (refine OkS.sto ?_ (by omega); first | assumption)))))) | exact Pfx.refl _ | (apply Pfx.snoc; repeat (first | exact Pfx.refl _ | assumption | apply Pfx.snoc)) | with_unfolding_all exact of_eq_true (eq_true rfl) | (simp only [List.length_append, List.length_cons, List.length_nil]; omega)) only [↓wpre0, ↓wpre1, ↓reduceIte, Int.reduceToNat, Nat.reduceAdd, Nat.reduceMul, Nat.reduceEqDiff, wpost0, wpost1, wpost2, wpost3, wpost4, ite_self, ite_true, ite_false, if_true, if_false, bin_eql, xbls24_0, xbls24_1, bin_add, sadd_bl, bin_sub, xbls65_0, xbls65_1, nilV_ptr, xfad30_0, xld26, xlen26, fr12, wrap_int, wrap_u8, iteP_yes, iteP_no, DecA_r hx] | refine iteP_two (fun hc hd => ?_) (fun hc hd => ?_) | refine iteP_intro (fun hc => ?_) (fun hc => ?_))
    exact LnS.end hS S4 (by omega) (o1.dst.trans (o2.dst.trans (pH3.dst.trans (o3.dst.trans o4.dst)))) ⟨by simp [nob_append, nob_cons, nob_nil, ts.1, tA.1, tB.1], by simp; omega⟩
  · refine cf_rel (pick_c hW.next hW.pick (n := 60) S1 hro hq (by omega) hl (by omega)) (fun q => by cases q) ?_
    rintro r H2 ⟨v2, rfl, _, v2h, S2, o2⟩
    have v2q := v2h (by omega)
    have lH2 := o2.1
    (repeat' first | simp -dsimp (disch := first | omega | assumption | (refine OkS.sto ?_ (by omega); first | assumption | (refine OkS.sto ?_ (by omega); first | assumption | (refine OkS.sto ?_ (by omega); first | assumption | (refine OkS.sto ?_ (by omega); first | assumption | (refine OkS.sto ?_ (by omega); first | assumption | (refine OkS.sto ?_ (by omega); first | assumption)))))) | exact Pfx.refl _ | (apply Pfx.snoc; repeat (first | exact Pfx.refl _ | assumption | apply Pfx.snoc)) | with_unfolding_all exact of_eq_true (eq_true rfl) | (simp only [List.length_append, List.length_cons, List.length_nil]; omega)) only [↓wpre0, ↓wpre1, ↓reduceIte, Int.reduceToNat, Nat.reduceAdd, Nat.reduceMul, Nat.reduceEqDiff, wpost0, wpost1, wpost2, wpost3, wpost4, ite_self, ite_true, ite_false, if_true, if_false, bin_eql, xbls24_0, xbls24_1, bin_add, sadd_bl, bin_sub, xbls65_0, xbls65_1, nilV_ptr, xfad30_0, xld26, xlen26, fr12, wrap_int, wrap_u8, iteP_yes, iteP_no, strlit2] | refine iteP_two (fun hc hd => ?_) (fun hc hd => ?_) | refine iteP_intro (fun hc => ?_) (fun hc => ?_))
    have pH3 : Pfx H2 (H2 ++ [(⟨9, wE.map strv⟩ : Blk)]) := (Pfx.refl H2).snoc
    refine cf_rel (text_c hW (at_h hF) (L := wE) (k := 20) (n := 2) (vs_lit H2 wE) (by decide) (by decide) wE_tx (by omega) (S2.pre pH3) hro hq (by omega) hl) (fun q => by cases q) ?_
    rintro r H3 ⟨s, ts, rfl, S3, o3⟩
    have lH3 := o3.1
    rw [List.length_append, List.length_singleton] at lH3
    have tsl := ts.2
    have tA := decS_tx (n := (v2 : Int) - 50) (by omega) (by omega)
    have tAl := tA.2
    (repeat' first | simp -dsimp (disch := first | omega | assumption | (refine OkS.sto ?_ (by omega); first | assumption | (refine OkS.sto ?_ (by omega); first | assumption | (refine OkS.sto ?_ (by omega); first | assumption | (refine OkS.sto ?_ (by omega); first | assumption | (refine OkS.sto ?_ (by omega); first | assumption | (refine OkS.sto ?_ (by omega); first | assumption)))))) | exact Pfx.refl _ | (apply Pfx.snoc; repeat (first | exact Pfx.refl _ | assumption | apply Pfx.snoc)) | with_unfolding_all exact of_eq_true (eq_true rfl) | (simp only [List.length_append, List.length_cons, List.length_nil]; omega)) only [↓wpre0, ↓wpre1, ↓reduceIte, Int.reduceToNat, Nat.reduceAdd, Nat.reduceMul, Nat.reduceEqDiff, wpost0, wpost1, wpost2, wpost3, wpost4, ite_self, ite_true, ite_false, if_true, if_false, bin_eql, xbls24_0, xbls24_1, bin_add, sadd_bl, bin_sub, xbls65_0, xbls65_1, nilV_ptr, xfad30_0, xld26, xlen26, fr12, wrap_int, wrap_u8, iteP_yes, iteP_no, DecA_r hx] | refine iteP_two (fun hc hd => ?_) (fun hc hd => ?_) | refine iteP_intro (fun hc => ?_) (fun hc => ?_))
    refine cf_rel (pick_c hW.next hW.pick (n := 12) S3 hro hq (by omega) hl (by omega)) (fun q => by cases q) ?_
    rintro r H4 ⟨v3, rfl, _, v3h, S4, o4⟩
    have v3q := v3h (by omega)
    have lH4 := o4.1
    have tB := decS_tx (n := (v2 : Int) - 50 + v3) (by omega) (by omega)
    have tBl := tB.2
    (repeat' first | simp -dsimp (disch := first | omega | assumption | (refine OkS.sto ?_ (by omega); first | assumption | (refine OkS.sto ?_ (by omega); first | assumption | (refine OkS.sto ?_ (by omega); first | assumption | (refine OkS.sto ?_ (by omega); first | assumption | (refine OkS.sto ?_ (by omega); first | assumption | (refine OkS.sto ?_ (by omega); first | assumption)))))) | exact Pfx.refl _ | (apply Pfx.snoc; repeat (first | exact Pfx.refl _ | assumption | apply Pfx.snoc)) | with_unfolding_all exact of_eq_true (eq_true rfl) | (simp only [List.length_append, List.length_cons, List.length_nil]; omega)) only [↓wpre0, ↓wpre1, ↓reduceIte, Int.reduceToNat, Nat.reduceAdd, Nat.reduceMul, Nat.reduceEqDiff, wpost0, wpost1, wpost2, wpost3, wpost4, ite_self, ite_true, ite_false, if_true, if_false, bin_eql, xbls24_0, xbls24_1, bin_add, sadd_bl, bin_sub, xbls65_0, xbls65_1, nilV_ptr, xfad30_0, xld26, xlen26, fr12, wrap_int, wrap_u8, iteP_yes, iteP_no, DecA_r hx] | refine iteP_two (fun hc hd => ?_) (fun hc hd => ?_) | refine iteP_intro (fun hc => ?_) (fun hc => ?_))
    exact LnS.end hS S4 (by omega) (o1.dst.trans (o2.dst.trans (pH3.dst.trans (o3.dst.trans o4.dst)))) ⟨by simp [nob_append, nob_cons, nob_nil, ts.1, tA.1, tB.1], by simp; omega⟩
end Go.Proofs.YtikanmboimjhgaaDoor.Sim
