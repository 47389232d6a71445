
/- Bytes of numbers, and numbers of bytes. Lemmas only; no condition. -/
import Derived.Test.YteignhphimfmkaaAcc
import Derived.Test.YteignhphimfmkaaSimU
import Derived.Test.YteignhphimfmkaaFba
import Derived.Test.YteignhphimfmkaaMath
set_option linter.unusedSimpArgs false
set_option linter.unusedVariables false
set_option maxRecDepth 8000
namespace Go.Proofs.Yteignhphimfmkaa.Sim
open Go Go.RowKit
variable {ro : Nat} {X : Ext}
/-- The byte of a number. -/
def byteAt (n : Int) (k : Nat) : UInt8 := UInt8.ofNat (n / 256 ^ k % 256).toNat
def lowB (n : Int) (c : Nat) : List UInt8 := (List.range c).map (byteAt n)
theorem lowB_len (n : Int) (c : Nat) : (lowB n c).length = c := by simp [lowB]
theorem lowB_succ (n : Int) (c : Nat) : lowB n (c + 1) = lowB n c ++ [byteAt n c] := by simp [lowB, List.range_succ]
theorem u8v_byteAt (n : Int) (k : Nat) : u8v (byteAt n k) = .int .u8 (n / 256 ^ k % 256) := by
  unfold u8v byteAt
  have h1 : 0 ≤ n / 256 ^ k % 256 := Int.emod_nonneg _ (by decide)
  have h2 : n / 256 ^ k % 256 < 256 := Int.emod_lt_of_pos _ (by decide)
  congr 1
  rw [UInt8.toNat_ofNat']
  omega
theorem wrap8 (n : Int) : IntKind.u8.wrap n = n % 256 := by
  simp only [IntKind.wrap, IntKind.bits, IntKind.signed, Bool.false_and, Bool.false_eq_true, if_false]
  omega
theorem pow_range {n : Int} (h0 : 0 ≤ n) (h1 : n ≤ 4294967295) (k : Nat) : 0 ≤ n / 256 ^ k ∧ n / 256 ^ k ≤ 4294967295 := by
  have hp : (0 : Int) < 256 ^ k := Int.pow_pos (by decide)
  exact ⟨Int.ediv_nonneg h0 (by omega), Int.le_trans (Int.ediv_le_self _ h0) h1⟩
theorem div_succ (n : Int) (k : Nat) : n / 256 ^ k / 256 = n / 256 ^ (k + 1) := by
  have h : (0 : Int) < 256 ^ k := Int.pow_pos (by decide)
  rw [Int.pow_succ, Int.ediv_ediv, if_neg (fun q => by omega), Int.sub_zero]
theorem lowBytes_c (hX : XN X) {n : Int} {c : Nat} {h : Heap} (h0 : 0 ≤ n) (h1 : n ≤ 4294967295) (hc : c ≤ 4) (hro : ro ≤ h.length) :
    CallR Try.prog ro X 32 [.int .i64 n, .int .i64 c] h (fun r h' => Pfx h h' ∧ VG h.length 5 1 h' r c ((lowB n c).map u8v)) := by
  refine callR_of (hX _ rfl) Try.func32 rfl (by kernel_rfl) (Nat.le_of_ble_eq_true rfl) ?_
  (repeat' first | simp -dsimp (disch := first | omega | assumption | (refine OkS.sto ?_ (by omega); first | assumption | (refine OkS.sto ?_ (by omega); first | assumption | (refine OkS.sto ?_ (by omega); first | assumption | (refine OkS.sto ?_ (by omega); first | assumption | (refine OkS.sto ?_ (by omega); first | assumption | (refine OkS.sto ?_ (by omega); first | assumption)))))) | exact Pfx.refl _ | (apply Pfx.snoc; repeat (first | exact Pfx.refl _ | assumption | apply Pfx.snoc)) | with_unfolding_all exact of_eq_true (eq_true rfl) | (simp only [List.length_append, List.length_cons, List.length_nil]; omega)) only [↓wpre0, ↓wpre1, ↓reduceIte, Int.reduceToNat, Nat.reduceAdd, Nat.reduceMul, Nat.reduceEqDiff, wpost0, wpost1, wpost2, wpost3, wpost4, ite_self, ite_true, ite_false, if_true, if_false, xbls22_0, xbls22_1, bin_lss, xcv2_5, bin_add, fr32, wrap_int, wrap_u8, iteP_yes, iteP_no] | refine iteP_two (fun hc hd => ?_) (fun hc hd => ?_) | refine iteP_intro (fun hc => ?_) (fun hc => ?_))
  refine loop_rounds (fun m e h' => ∃ (i : Nat) (y : Value), m = c - i ∧ i ≤ c ∧ Pfx h h' ∧ e 0 = .int .i64 (n / 256 ^ i) ∧ e 5 = y ∧ e 7 = .int .i64 c ∧ e 8 = .int .i64 i ∧ VG h.length 5 1 h' y i ((lowB n i).map u8v)) _ ⟨0, .slice (some ⟨h.length, 0, none⟩) 0 0, rfl, ?_⟩ ?_
  · simp only [updO_at, updO_not, entry_at, List.getD_cons_zero, List.getD_cons_succ, ↓reduceIte, Nat.reduceEqDiff, true_and, and_true]
    exact ⟨by omega, (Pfx.refl h).snoc, by simp, rfl, vg_new h (Nat.le_refl _)⟩
  · rintro m e h' ⟨i, y, hm, hle, hp, g0, g5, g7, g8, hY⟩
    have hl := hp.len
    by_cases hin : i < c
    · have hr := pow_range h0 h1 i
      have hds := div_succ n i
      obtain ⟨H, ap, vg, old, hlen⟩ := acc1 (P := Try.prog) (ro := ro) (T := 22) (v := .int .u8 (n / 256 ^ i % 256)) tel22 tsz5 tby5 tze5 (.inl hY) hro hl rfl (by omega) (by omega)
      (repeat' first | simp -dsimp (disch := first | omega | assumption | (refine OkS.sto ?_ (by omega); first | assumption | (refine OkS.sto ?_ (by omega); first | assumption | (refine OkS.sto ?_ (by omega); first | assumption | (refine OkS.sto ?_ (by omega); first | assumption | (refine OkS.sto ?_ (by omega); first | assumption | (refine OkS.sto ?_ (by omega); first | assumption)))))) | exact Pfx.refl _ | (apply Pfx.snoc; repeat (first | exact Pfx.refl _ | assumption | apply Pfx.snoc)) | with_unfolding_all exact of_eq_true (eq_true rfl) | (simp only [List.length_append, List.length_cons, List.length_nil]; omega)) only [↓wpre0, ↓wpre1, ↓reduceIte, Int.reduceToNat, Nat.reduceAdd, Nat.reduceMul, Nat.reduceEqDiff, wpost0, wpost1, wpost2, wpost3, wpost4, ite_self, ite_true, ite_false, if_true, if_false, xbls22_0, xbls22_1, bin_lss, xcv2_5, bin_add, fr32, wrap_int, wrap_u8, iteP_yes, iteP_no, g0, g5, g7, g8, wrap8, bin_shr8, ap] | refine iteP_two (fun hc hd => ?_) (fun hc hd => ?_) | refine iteP_intro (fun hc => ?_) (fun hc => ?_))
      refine ⟨_, by omega, i + 1, _, rfl, by omega, old.1 _ hp (Nat.le_refl _), by rw [hds], rfl, by simp, ?_⟩
      rw [lowB_succ, List.map_append, List.map_singleton, u8v_byteAt]
      exact vg
    · have : i = c := by omega
      subst this
      have hnf : flat y = false := by obtain ⟨_, b, cap, rfl, _⟩ := hY; rfl
      (repeat' first | simp -dsimp (disch := first | omega | assumption | (refine OkS.sto ?_ (by omega); first | assumption | (refine OkS.sto ?_ (by omega); first | assumption | (refine OkS.sto ?_ (by omega); first | assumption | (refine OkS.sto ?_ (by omega); first | assumption | (refine OkS.sto ?_ (by omega); first | assumption | (refine OkS.sto ?_ (by omega); first | assumption)))))) | exact Pfx.refl _ | (apply Pfx.snoc; repeat (first | exact Pfx.refl _ | assumption | apply Pfx.snoc)) | with_unfolding_all exact of_eq_true (eq_true rfl) | (simp only [List.length_append, List.length_cons, List.length_nil]; omega)) only [↓wpre0, ↓wpre1, ↓reduceIte, Int.reduceToNat, Nat.reduceAdd, Nat.reduceMul, Nat.reduceEqDiff, wpost0, wpost1, wpost2, wpost3, wpost4, ite_self, ite_true, ite_false, if_true, if_false, xbls22_0, xbls22_1, bin_lss, xcv2_5, bin_add, fr32, wrap_int, wrap_u8, iteP_yes, iteP_no, g0, g5, g7, g8, endH_not hnf] | refine iteP_two (fun hc hd => ?_) (fun hc hd => ?_) | refine iteP_intro (fun hc => ?_) (fun hc => ?_))
      exact ⟨hp, hY⟩
/-- The number of four bytes. -/
def wd (l : List UInt8) (a : Nat) : Int := ((bth l (a + 3) * 256 + bth l (a + 2)) * 256 + bth l (a + 1)) * 256 + bth l a
theorem wd_range (l : List UInt8) (a : Nat) : 0 ≤ wd l a ∧ wd l a ≤ 4294967295 := by
  have h0 := bth_range l a
  have h1 := bth_range l (a + 1)
  have h2 := bth_range l (a + 2)
  have h3 := bth_range l (a + 3)
  unfold wd
  omega
theorem or0 {l : List UInt8} {a : Nat} (t : TypeId) : abin Try.prog .or t (.int .i64 0) (.int .i64 (bth l a)) = some (.int .i64 (bth l a)) := by
  have h := bth_range l a
  have := bin_or8 (P := Try.prog) (t := t) (a := 0) (b := bth l a) (by omega) (by omega) (by omega) (by omega)
  simpa using this
theorem shl0 (t : TypeId) : abin Try.prog .shl t (.int .i64 0) (.int .u64 8) = some (.int .i64 0) := by
  have := bin_shl8 (P := Try.prog) (t := t) (a := 0) (by omega) (by omega)
  simpa using this
theorem word_r (hX : XN X) {l : List UInt8} {h : Heap} (hl : 4 ≤ l.length) : Ret Try.prog ro X 37 [.string ⟨⟨l⟩⟩] h (.int .i64 (wd l 0)) := by
  have h0 := bth_range l 0
  have h1 := bth_range l 1
  have h2 := bth_range l 2
  have h3 := bth_range l 3
  refine ret_of (callR_of (hX _ rfl) Try.func37 rfl (by kernel_rfl) (Nat.le_of_ble_eq_true rfl) ?_)
  (repeat' first | simp -dsimp (disch := first | omega | assumption | (refine OkS.sto ?_ (by omega); first | assumption | (refine OkS.sto ?_ (by omega); first | assumption | (refine OkS.sto ?_ (by omega); first | assumption | (refine OkS.sto ?_ (by omega); first | assumption | (refine OkS.sto ?_ (by omega); first | assumption | (refine OkS.sto ?_ (by omega); first | assumption)))))) | exact Pfx.refl _ | (apply Pfx.snoc; repeat (first | exact Pfx.refl _ | assumption | apply Pfx.snoc)) | with_unfolding_all exact of_eq_true (eq_true rfl) | (simp only [List.length_append, List.length_cons, List.length_nil]; omega)) only [↓wpre0, ↓wpre1, ↓reduceIte, Int.reduceToNat, Nat.reduceAdd, Nat.reduceMul, Nat.reduceEqDiff, wpost0, wpost1, wpost2, wpost3, wpost4, ite_self, ite_true, ite_false, if_true, if_false, bin_geq, idx_bl Try.underlying9, xcv5_2, bin_sub, fr37, wrap_int, wrap_u8, iteP_yes, iteP_no] | refine iteP_two (fun hc hd => ?_) (fun hc hd => ?_) | refine iteP_intro (fun hc => ?_) (fun hc => ?_))
  rw [loop_step]
  (repeat' first | simp -dsimp (disch := first | omega | assumption | (refine OkS.sto ?_ (by omega); first | assumption | (refine OkS.sto ?_ (by omega); first | assumption | (refine OkS.sto ?_ (by omega); first | assumption | (refine OkS.sto ?_ (by omega); first | assumption | (refine OkS.sto ?_ (by omega); first | assumption | (refine OkS.sto ?_ (by omega); first | assumption)))))) | exact Pfx.refl _ | (apply Pfx.snoc; repeat (first | exact Pfx.refl _ | assumption | apply Pfx.snoc)) | with_unfolding_all exact of_eq_true (eq_true rfl) | (simp only [List.length_append, List.length_cons, List.length_nil]; omega)) only [↓wpre0, ↓wpre1, ↓reduceIte, Int.reduceToNat, Nat.reduceAdd, Nat.reduceMul, Nat.reduceEqDiff, wpost0, wpost1, wpost2, wpost3, wpost4, ite_self, ite_true, ite_false, if_true, if_false, bin_geq, idx_bl Try.underlying9, xcv5_2, bin_sub, fr37, wrap_int, wrap_u8, iteP_yes, iteP_no, shl0, or0, Int.reduceSub] | refine iteP_two (fun hc hd => ?_) (fun hc hd => ?_) | refine iteP_intro (fun hc => ?_) (fun hc => ?_))
  rw [loop_step]
  (repeat' first | simp -dsimp (disch := first | omega | assumption | (refine OkS.sto ?_ (by omega); first | assumption | (refine OkS.sto ?_ (by omega); first | assumption | (refine OkS.sto ?_ (by omega); first | assumption | (refine OkS.sto ?_ (by omega); first | assumption | (refine OkS.sto ?_ (by omega); first | assumption | (refine OkS.sto ?_ (by omega); first | assumption)))))) | exact Pfx.refl _ | (apply Pfx.snoc; repeat (first | exact Pfx.refl _ | assumption | apply Pfx.snoc)) | with_unfolding_all exact of_eq_true (eq_true rfl) | (simp only [List.length_append, List.length_cons, List.length_nil]; omega)) only [↓wpre0, ↓wpre1, ↓reduceIte, Int.reduceToNat, Nat.reduceAdd, Nat.reduceMul, Nat.reduceEqDiff, wpost0, wpost1, wpost2, wpost3, wpost4, ite_self, ite_true, ite_false, if_true, if_false, bin_geq, idx_bl Try.underlying9, xcv5_2, bin_sub, fr37, wrap_int, wrap_u8, iteP_yes, iteP_no, bin_shl8, bin_or8, Int.reduceSub] | refine iteP_two (fun hc hd => ?_) (fun hc hd => ?_) | refine iteP_intro (fun hc => ?_) (fun hc => ?_))
  rw [loop_step]
  (repeat' first | simp -dsimp (disch := first | omega | assumption | (refine OkS.sto ?_ (by omega); first | assumption | (refine OkS.sto ?_ (by omega); first | assumption | (refine OkS.sto ?_ (by omega); first | assumption | (refine OkS.sto ?_ (by omega); first | assumption | (refine OkS.sto ?_ (by omega); first | assumption | (refine OkS.sto ?_ (by omega); first | assumption)))))) | exact Pfx.refl _ | (apply Pfx.snoc; repeat (first | exact Pfx.refl _ | assumption | apply Pfx.snoc)) | with_unfolding_all exact of_eq_true (eq_true rfl) | (simp only [List.length_append, List.length_cons, List.length_nil]; omega)) only [↓wpre0, ↓wpre1, ↓reduceIte, Int.reduceToNat, Nat.reduceAdd, Nat.reduceMul, Nat.reduceEqDiff, wpost0, wpost1, wpost2, wpost3, wpost4, ite_self, ite_true, ite_false, if_true, if_false, bin_geq, idx_bl Try.underlying9, xcv5_2, bin_sub, fr37, wrap_int, wrap_u8, iteP_yes, iteP_no, bin_shl8, bin_or8, Int.reduceSub] | refine iteP_two (fun hc hd => ?_) (fun hc hd => ?_) | refine iteP_intro (fun hc => ?_) (fun hc => ?_))
  rw [loop_step]
  (repeat' first | simp -dsimp (disch := first | omega | assumption | (refine OkS.sto ?_ (by omega); first | assumption | (refine OkS.sto ?_ (by omega); first | assumption | (refine OkS.sto ?_ (by omega); first | assumption | (refine OkS.sto ?_ (by omega); first | assumption | (refine OkS.sto ?_ (by omega); first | assumption | (refine OkS.sto ?_ (by omega); first | assumption)))))) | exact Pfx.refl _ | (apply Pfx.snoc; repeat (first | exact Pfx.refl _ | assumption | apply Pfx.snoc)) | with_unfolding_all exact of_eq_true (eq_true rfl) | (simp only [List.length_append, List.length_cons, List.length_nil]; omega)) only [↓wpre0, ↓wpre1, ↓reduceIte, Int.reduceToNat, Nat.reduceAdd, Nat.reduceMul, Nat.reduceEqDiff, wpost0, wpost1, wpost2, wpost3, wpost4, ite_self, ite_true, ite_false, if_true, if_false, bin_geq, idx_bl Try.underlying9, xcv5_2, bin_sub, fr37, wrap_int, wrap_u8, iteP_yes, iteP_no, bin_shl8, bin_or8, Int.reduceSub] | refine iteP_two (fun hc hd => ?_) (fun hc hd => ?_) | refine iteP_intro (fun hc => ?_) (fun hc => ?_))
  rw [loop_step]
  (repeat' first | simp -dsimp (disch := first | omega | assumption | (refine OkS.sto ?_ (by omega); first | assumption | (refine OkS.sto ?_ (by omega); first | assumption | (refine OkS.sto ?_ (by omega); first | assumption | (refine OkS.sto ?_ (by omega); first | assumption | (refine OkS.sto ?_ (by omega); first | assumption | (refine OkS.sto ?_ (by omega); first | assumption)))))) | exact Pfx.refl _ | (apply Pfx.snoc; repeat (first | exact Pfx.refl _ | assumption | apply Pfx.snoc)) | with_unfolding_all exact of_eq_true (eq_true rfl) | (simp only [List.length_append, List.length_cons, List.length_nil]; omega)) only [↓wpre0, ↓wpre1, ↓reduceIte, Int.reduceToNat, Nat.reduceAdd, Nat.reduceMul, Nat.reduceEqDiff, wpost0, wpost1, wpost2, wpost3, wpost4, ite_self, ite_true, ite_false, if_true, if_false, bin_geq, idx_bl Try.underlying9, xcv5_2, bin_sub, fr37, wrap_int, wrap_u8, iteP_yes, iteP_no, bin_shl8, bin_or8, Int.reduceSub] | refine iteP_two (fun hc hd => ?_) (fun hc hd => ?_) | refine iteP_intro (fun hc => ?_) (fun hc => ?_))
  rfl
/-- What is asked of what lies outside. -/
structure XB (X : Ext) : Prop where
  n : XN X
  bits : X 44 = some (ext1 fBits)
  frm : X 47 = some (ext1 fFrom)
theorem xb_extB : XB extB := ⟨extB_n, rfl, rfl⟩
theorem bits_r (hX : XB X) {b : Nat} (hn : (FloatKind.f32.decode b).isNaN = false) (h : Heap) : Ret Try.prog ro X 44 [.float .f32 b] h (.int .u32 b) := fun _ _ => cf_eq (call_ext hX.bits (by simp only [ext1, fBits, hn, Bool.false_eq_true, if_false, Option.map_some]))
theorem from_r (hX : XB X) (n : Int) (h : Heap) : Ret Try.prog ro X 47 [.int .u32 n] h (.float .f32 (cf .f32 n.toNat)) := fun _ _ => cf_eq (call_ext hX.frm rfl)
/-- The bits of a single float, as they are kept: those of a not-a-number are always the same. -/
def okF (b : Nat) : Prop := cf .f32 b = b ∧ b ≤ 4294967295
theorem BitsOf_r (hX : XB X) {b : Nat} (hb : okF b) (h : Heap) : Ret Try.prog ro X 33 [.float .f32 b] h (.int .i64 b) := by
  have hb2 := hb.2
  cases hn : (FloatKind.f32.decode b).isNaN with
  | true =>
    have e : (b : Int) = 2143289344 := by
      have := hb.1
      unfold cf at this
      rw [if_pos hn] at this
      rw [← this]; rfl
    refine ret_of (callR_of (hX.n _ rfl) Try.func33 rfl (by kernel_rfl) (Nat.le_of_ble_eq_true rfl) ?_)
    (repeat' first | simp -dsimp (disch := first | omega | assumption | (refine OkS.sto ?_ (by omega); first | assumption | (refine OkS.sto ?_ (by omega); first | assumption | (refine OkS.sto ?_ (by omega); first | assumption | (refine OkS.sto ?_ (by omega); first | assumption | (refine OkS.sto ?_ (by omega); first | assumption | (refine OkS.sto ?_ (by omega); first | assumption)))))) | exact Pfx.refl _ | (apply Pfx.snoc; repeat (first | exact Pfx.refl _ | assumption | apply Pfx.snoc)) | with_unfolding_all exact of_eq_true (eq_true rfl) | (simp only [List.length_append, List.length_cons, List.length_nil]; omega)) only [↓wpre0, ↓wpre1, ↓reduceIte, Int.reduceToNat, Nat.reduceAdd, Nat.reduceMul, Nat.reduceEqDiff, wpost0, wpost1, wpost2, wpost3, wpost4, ite_self, ite_true, ite_false, if_true, if_false, bin_fneq, xcv86_2, fr33, wrap_int, wrap_u8, iteP_yes, iteP_no, order_self, hn, e] | refine iteP_two (fun hc hd => ?_) (fun hc hd => ?_) | refine iteP_intro (fun hc => ?_) (fun hc => ?_))
  | false =>
    refine ret_of (callR_of (hX.n _ rfl) Try.func33 rfl (by kernel_rfl) (Nat.le_of_ble_eq_true rfl) ?_)
    (repeat' first | simp -dsimp (disch := first | omega | assumption | (refine OkS.sto ?_ (by omega); first | assumption | (refine OkS.sto ?_ (by omega); first | assumption | (refine OkS.sto ?_ (by omega); first | assumption | (refine OkS.sto ?_ (by omega); first | assumption | (refine OkS.sto ?_ (by omega); first | assumption | (refine OkS.sto ?_ (by omega); first | assumption)))))) | exact Pfx.refl _ | (apply Pfx.snoc; repeat (first | exact Pfx.refl _ | assumption | apply Pfx.snoc)) | with_unfolding_all exact of_eq_true (eq_true rfl) | (simp only [List.length_append, List.length_cons, List.length_nil]; omega)) only [↓wpre0, ↓wpre1, ↓reduceIte, Int.reduceToNat, Nat.reduceAdd, Nat.reduceMul, Nat.reduceEqDiff, wpost0, wpost1, wpost2, wpost3, wpost4, ite_self, ite_true, ite_false, if_true, if_false, bin_fneq, xcv86_2, fr33, wrap_int, wrap_u8, iteP_yes, iteP_no, order_self, hn, bits_r hX hn] | refine iteP_two (fun hc hd => ?_) (fun hc hd => ?_) | refine iteP_intro (fun hc => ?_) (fun hc => ?_))
theorem l01From_r (hX : XB X) {n : Int} (h0 : 0 ≤ n) (h1 : n ≤ 4294967295) (h : Heap) : Ret Try.prog ro X 54 [.int .i64 n] h (.float .f32 (cf .f32 n.toNat)) := by
  have hw : IntKind.u32.wrap n = n := wrap_u32 h0 h1
  refine ret_of (callR_of (hX.n _ rfl) Try.func54 rfl (by kernel_rfl) (Nat.le_of_ble_eq_true rfl) ?_)
  (repeat' first | simp -dsimp (disch := first | omega | assumption | (refine OkS.sto ?_ (by omega); first | assumption | (refine OkS.sto ?_ (by omega); first | assumption | (refine OkS.sto ?_ (by omega); first | assumption | (refine OkS.sto ?_ (by omega); first | assumption | (refine OkS.sto ?_ (by omega); first | assumption | (refine OkS.sto ?_ (by omega); first | assumption)))))) | exact Pfx.refl _ | (apply Pfx.snoc; repeat (first | exact Pfx.refl _ | assumption | apply Pfx.snoc)) | with_unfolding_all exact of_eq_true (eq_true rfl) | (simp only [List.length_append, List.length_cons, List.length_nil]; omega)) only [↓wpre0, ↓wpre1, ↓reduceIte, Int.reduceToNat, Nat.reduceAdd, Nat.reduceMul, Nat.reduceEqDiff, wpost0, wpost1, wpost2, wpost3, wpost4, ite_self, ite_true, ite_false, if_true, if_false, xcv2_86, fr54, wrap_int, wrap_u8, iteP_yes, iteP_no, hw, from_r hX] | refine iteP_two (fun hc hd => ?_) (fun hc hd => ?_) | refine iteP_intro (fun hc => ?_) (fun hc => ?_))
theorem FromBits_r (hX : XB X) {n : Int} (h0 : 0 ≤ n) (h1 : n ≤ 4294967295) (h : Heap) : Ret Try.prog ro X 38 [.int .i64 n] h (.tuple ⟨[.float .f32 (cf .f32 n.toNat), .bool true]⟩) := by
  have hw : IntKind.u32.wrap n = n := wrap_u32 h0 h1
  refine ret_of (callR_of (hX.n _ rfl) Try.func38 rfl (by kernel_rfl) (Nat.le_of_ble_eq_true rfl) ?_)
  (repeat' first | simp -dsimp (disch := first | omega | assumption | (refine OkS.sto ?_ (by omega); first | assumption | (refine OkS.sto ?_ (by omega); first | assumption | (refine OkS.sto ?_ (by omega); first | assumption | (refine OkS.sto ?_ (by omega); first | assumption | (refine OkS.sto ?_ (by omega); first | assumption | (refine OkS.sto ?_ (by omega); first | assumption)))))) | exact Pfx.refl _ | (apply Pfx.snoc; repeat (first | exact Pfx.refl _ | assumption | apply Pfx.snoc)) | with_unfolding_all exact of_eq_true (eq_true rfl) | (simp only [List.length_append, List.length_cons, List.length_nil]; omega)) only [↓wpre0, ↓wpre1, ↓reduceIte, Int.reduceToNat, Nat.reduceAdd, Nat.reduceMul, Nat.reduceEqDiff, wpost0, wpost1, wpost2, wpost3, wpost4, ite_self, ite_true, ite_false, if_true, if_false, un_not, xcv2_86, fr38, wrap_int, wrap_u8, iteP_yes, iteP_no, hw, from_r hX, within_r hX.n, decide_true, h0, h1] | refine iteP_two (fun hc hd => ?_) (fun hc hd => ?_) | refine iteP_intro (fun hc => ?_) (fun hc => ?_))
/-- The check number of bytes. -/
def chk (n : Int) (l : List UInt8) : Int := l.foldl (fun n b => (641 * n + (b.toNat : Int) + 27) % 65003) n
theorem chk_range {n : Int} (h : 0 ≤ n ∧ n ≤ 65002) (l : List UInt8) : 0 ≤ chk n l ∧ chk n l ≤ 65002 := by
  induction l generalizing n with
  | nil => exact h
  | cons b r ih =>
    have h2 : 0 ≤ (641 * n + (b.toNat : Int) + 27) % 65003 ∧ (641 * n + (b.toNat : Int) + 27) % 65003 ≤ 65002 := by omega
    exact ih h2
theorem chk_snoc (n : Int) (l : List UInt8) {i : Nat} (hi : i < l.length) : chk n (l.take (i + 1)) = (641 * chk n (l.take i) + bth l i + 27) % 65003 := by
  unfold chk
  rw [List.take_succ_eq_append_getElem hi, List.foldl_append]
  simp [bth, hi]
theorem tmod_pos {a b : Int} (h : 0 ≤ a) : a.tmod b = a % b := Int.tmod_eq_emod_of_nonneg h
theorem CheckOf_r (hX : XN X) {n : Int} {l : List UInt8} {h : Heap} (hn : 0 ≤ n ∧ n ≤ 65002) (hl : l.length ≤ 1099511627776) : Ret Try.prog ro X 34 [.int .i64 n, .string ⟨⟨l⟩⟩] h (.tuple ⟨[.int .i64 (chk n l), .bool true]⟩) := by
  have hn0 := hn.1
  have hn1 := hn.2
  refine ret_of (callR_of (hX _ rfl) Try.func34 rfl (by kernel_rfl) (Nat.le_of_ble_eq_true rfl) ?_)
  (repeat' first | simp -dsimp (disch := first | omega | assumption | (refine OkS.sto ?_ (by omega); first | assumption | (refine OkS.sto ?_ (by omega); first | assumption | (refine OkS.sto ?_ (by omega); first | assumption | (refine OkS.sto ?_ (by omega); first | assumption | (refine OkS.sto ?_ (by omega); first | assumption | (refine OkS.sto ?_ (by omega); first | assumption)))))) | exact Pfx.refl _ | (apply Pfx.snoc; repeat (first | exact Pfx.refl _ | assumption | apply Pfx.snoc)) | with_unfolding_all exact of_eq_true (eq_true rfl) | (simp only [List.length_append, List.length_cons, List.length_nil]; omega)) only [↓wpre0, ↓wpre1, ↓reduceIte, Int.reduceToNat, Nat.reduceAdd, Nat.reduceMul, Nat.reduceEqDiff, wpost0, wpost1, wpost2, wpost3, wpost4, ite_self, ite_true, ite_false, if_true, if_false, un_not, len_bl Try.underlying9, bin_lss, bin_mul, idx_bl Try.underlying9, xcv5_2, bin_add, bin_rem, fr34, wrap_int, wrap_u8, iteP_yes, iteP_no, within_r hX, hn0, hn1, decide_true] | refine iteP_two (fun hc hd => ?_) (fun hc hd => ?_) | refine iteP_intro (fun hc => ?_) (fun hc => ?_))
  refine loop_rounds (fun m e h' => ∃ i : Nat, m = l.length - i ∧ i ≤ l.length ∧ h' = h ∧ e 0 = .int .i64 (chk n (l.take i)) ∧ e 1 = .string ⟨⟨l⟩⟩ ∧ e 11 = .int .i64 l.length ∧ e 12 = .int .i64 i) _ ⟨0, rfl, ?_⟩ ?_
  · simp only [updO_at, updO_not, entry_at, List.getD_cons_zero, List.getD_cons_succ, ↓reduceIte, Nat.reduceEqDiff, true_and, and_true]
    exact ⟨by omega, rfl, rfl⟩
  · rintro m e h' ⟨i, hm, hle, rfl, g0, g1, g11, g12⟩
    have hc := chk_range hn (l.take i)
    have hb := bth_range l i
    by_cases hin : i < l.length
    · (repeat' first | simp -dsimp (disch := first | omega | assumption | (refine OkS.sto ?_ (by omega); first | assumption | (refine OkS.sto ?_ (by omega); first | assumption | (refine OkS.sto ?_ (by omega); first | assumption | (refine OkS.sto ?_ (by omega); first | assumption | (refine OkS.sto ?_ (by omega); first | assumption | (refine OkS.sto ?_ (by omega); first | assumption)))))) | exact Pfx.refl _ | (apply Pfx.snoc; repeat (first | exact Pfx.refl _ | assumption | apply Pfx.snoc)) | with_unfolding_all exact of_eq_true (eq_true rfl) | (simp only [List.length_append, List.length_cons, List.length_nil]; omega)) only [↓wpre0, ↓wpre1, ↓reduceIte, Int.reduceToNat, Nat.reduceAdd, Nat.reduceMul, Nat.reduceEqDiff, wpost0, wpost1, wpost2, wpost3, wpost4, ite_self, ite_true, ite_false, if_true, if_false, un_not, len_bl Try.underlying9, bin_lss, bin_mul, idx_bl Try.underlying9, xcv5_2, bin_add, bin_rem, fr34, wrap_int, wrap_u8, iteP_yes, iteP_no, g0, g1, g11, g12, tmod_pos, bin_rem] | refine iteP_two (fun hc hd => ?_) (fun hc hd => ?_) | refine iteP_intro (fun hc => ?_) (fun hc => ?_))
      refine ⟨_, by omega, i + 1, rfl, by omega, ?_, by simp⟩
      rw [chk_snoc n l hin]
    · have : i = l.length := by omega
      subst this
      rw [List.take_length] at g0
      (repeat' first | simp -dsimp (disch := first | omega | assumption | (refine OkS.sto ?_ (by omega); first | assumption | (refine OkS.sto ?_ (by omega); first | assumption | (refine OkS.sto ?_ (by omega); first | assumption | (refine OkS.sto ?_ (by omega); first | assumption | (refine OkS.sto ?_ (by omega); first | assumption | (refine OkS.sto ?_ (by omega); first | assumption)))))) | exact Pfx.refl _ | (apply Pfx.snoc; repeat (first | exact Pfx.refl _ | assumption | apply Pfx.snoc)) | with_unfolding_all exact of_eq_true (eq_true rfl) | (simp only [List.length_append, List.length_cons, List.length_nil]; omega)) only [↓wpre0, ↓wpre1, ↓reduceIte, Int.reduceToNat, Nat.reduceAdd, Nat.reduceMul, Nat.reduceEqDiff, wpost0, wpost1, wpost2, wpost3, wpost4, ite_self, ite_true, ite_false, if_true, if_false, un_not, len_bl Try.underlying9, bin_lss, bin_mul, idx_bl Try.underlying9, xcv5_2, bin_add, bin_rem, fr34, wrap_int, wrap_u8, iteP_yes, iteP_no, g0, g1, g11, g12] | refine iteP_two (fun hc hd => ?_) (fun hc hd => ?_) | refine iteP_intro (fun hc => ?_) (fun hc => ?_))
end Go.Proofs.Yteignhphimfmkaa.Sim
