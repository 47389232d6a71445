
/- Frames of bytes. Lemmas only; no condition. -/
import Derived.Test.YteignhphimfmkaaRcb
set_option linter.unusedSimpArgs false
set_option linter.unusedVariables false
set_option maxRecDepth 8000
namespace Go.Proofs.Yteignhphimfmkaa.Sim
open Go Go.RowKit
variable {ro : Nat} {X : Ext}
/-- The numbers at a place of bytes. -/
def atZ (l : List UInt8) (a n : Nat) : List (Nat × Nat) := (List.range n).map fun i => (cf .f32 (wd l (a + 4 + 8 * i)).toNat, cf .f32 (wd l (a + 8 + 8 * i)).toNat)
theorem atZ_len (l : List UInt8) (a n : Nat) : (atZ l a n).length = n := by simp [atZ]
theorem atZ_succ (l : List UInt8) (a n : Nat) : atZ l a (n + 1) = atZ l a n ++ [(cf .f32 (wd l (a + 4 + 8 * n)).toNat, cf .f32 (wd l (a + 8 + 8 * n)).toNat)] := by simp [atZ, List.range_succ]
theorem okF_cf {n : Nat} (h : n ≤ 4294967295) : okF (cf .f32 n) := by
  unfold okF cf
  split
  · exact ⟨by decide +kernel, by decide⟩
  · rename_i q
    exact ⟨rfl, h⟩
theorem atZ_ok (l : List UInt8) (a n : Nat) : ∀ z ∈ atZ l a n, okZ z := by
  intro z hz
  obtain ⟨i, _, rfl⟩ := List.mem_map.1 hz
  have h1 := wd_range l (a + 4 + 8 * i)
  have h2 := wd_range l (a + 8 + 8 * i)
  exact ⟨okF_cf (by omega), okF_cf (by omega)⟩
/-- That a frame lies at a place of bytes. -/
def atOk (l : List UInt8) (a n : Nat) : Bool := decide (a + (6 + 8 * n) ≤ l.length) && decide (wd l a ≤ 1000000) && (frB (wd l a) (atZ l a n) == (l.drop a).take (6 + 8 * n))
theorem bth_drop (l : List UInt8) (a i : Nat) : bth (l.drop a) i = bth l (a + i) := by
  simp only [bth, List.getD_eq_getElem?_getD, List.getElem?_drop]
theorem wd_drop (l : List UInt8) (a i : Nat) : wd (l.drop a) i = wd l (a + i) := by
  simp only [wd, bth_drop, Nat.add_assoc]
theorem atZ_drop (l : List UInt8) (a n : Nat) : atZ (l.drop a) 0 n = atZ l a n := by
  unfold atZ
  refine List.map_congr_left fun i _ => ?_
  simp only [wd_drop, Nat.zero_add, Nat.add_assoc]
theorem atOk_drop (l : List UInt8) (a n : Nat) (ha : a ≤ l.length) : atOk (l.drop a) 0 n = atOk l a n := by
  unfold atOk
  rw [atZ_drop, wd_drop, Nat.add_zero, List.drop_zero, List.length_drop]
  congr 2
  rw [Bool.eq_iff_iff]
  simp only [decide_eq_true_eq]
  omega
/-- What the program's frameAt returns. -/
def FaI (l : List UInt8) (n : Nat) (h h' : Heap) (r : Value) : Prop :=
  Pfx h h' ∧ ((atOk l 0 n = false ∧ r = .tuple ⟨[.agg ⟨[.int .i64 0, .slice none 0 0]⟩, .bool false]⟩) ∨ (atOk l 0 n = true ∧ ∃ y, r = .tuple ⟨[.agg ⟨[.int .i64 (wd l 0), y]⟩, .bool true]⟩ ∧ VG h.length 65 1 h' y n ((atZ l 0 n).map cpx)))
set_option maxHeartbeats 4000000 in
theorem frameAt_c (hX : XB X) {n : Nat} {l : List UInt8} {h : Heap} (hn0 : 1 ≤ n) (hn : n ≤ 16) (hl : l.length ≤ 1099511627776) (hro : ro ≤ h.length) :
    CallR Try.prog ro X 26 [.string ⟨⟨l⟩⟩, .int .i64 n] h (fun r h' => FaI l n h h' r) := by
  have hcn : count (n : Int) = true := by simp only [count, Bool.and_eq_true, decide_eq_true_eq]; omega
  refine callR_of (hX.n _ rfl) Try.func26 rfl (by kernel_rfl) (Nat.le_of_ble_eq_true rfl) ?_
  (repeat' first | simp -dsimp (disch := first | omega | assumption | (refine OkS.sto ?_ (by omega); first | assumption | (refine OkS.sto ?_ (by omega); first | assumption | (refine OkS.sto ?_ (by omega); first | assumption | (refine OkS.sto ?_ (by omega); first | assumption | (refine OkS.sto ?_ (by omega); first | assumption | (refine OkS.sto ?_ (by omega); first | assumption)))))) | exact Pfx.refl _ | (apply Pfx.snoc; repeat (first | exact Pfx.refl _ | assumption | apply Pfx.snoc)) | with_unfolding_all exact of_eq_true (eq_true rfl) | (simp only [List.length_append, List.length_cons, List.length_nil]; omega)) only [↓wpre0, ↓wpre1, ↓reduceIte, Int.reduceToNat, Nat.reduceAdd, Nat.reduceMul, Nat.reduceEqDiff, wpost0, wpost1, wpost2, wpost3, wpost4, ite_self, ite_true, ite_false, if_true, if_false, tze41, len_bl Try.underlying9, bin_lss, xbld41, xst41, xbld41_0, bin_mul, bin_add, sl_bl Try.underlying9, slo_bl Try.underlying9, shi_bl Try.underlying9, xfad41_1, xld39, blt_cpx, xbls39_0, xbls39_1, xst39, xfad41_0, xld2, un_not, xld41, sneq_bl, fr26, wrap_int, wrap_u8, iteP_yes, iteP_no, cf_eq (iFrameSize_c hX.n _ hcn _)] | refine iteP_two (fun hc hd => ?_) (fun hc hd => ?_) | refine iteP_intro (fun hc => ?_) (fun hc => ?_))
  · have hf : atOk l 0 n = false := by
      unfold atOk
      rw [decide_eq_false (by omega)]; rfl
    exact ⟨(Pfx.refl h).snoc, .inl ⟨hf, rfl⟩⟩
  have hla : 4 ≤ l.length := by omega
  have hwr := wd_range l 0
  (repeat' first | simp -dsimp (disch := first | omega | assumption | (refine OkS.sto ?_ (by omega); first | assumption | (refine OkS.sto ?_ (by omega); first | assumption | (refine OkS.sto ?_ (by omega); first | assumption | (refine OkS.sto ?_ (by omega); first | assumption | (refine OkS.sto ?_ (by omega); first | assumption | (refine OkS.sto ?_ (by omega); first | assumption)))))) | exact Pfx.refl _ | (apply Pfx.snoc; repeat (first | exact Pfx.refl _ | assumption | apply Pfx.snoc)) | with_unfolding_all exact of_eq_true (eq_true rfl) | (simp only [List.length_append, List.length_cons, List.length_nil]; omega)) only [↓wpre0, ↓wpre1, ↓reduceIte, Int.reduceToNat, Nat.reduceAdd, Nat.reduceMul, Nat.reduceEqDiff, wpost0, wpost1, wpost2, wpost3, wpost4, ite_self, ite_true, ite_false, if_true, if_false, tze41, len_bl Try.underlying9, bin_lss, xbld41, xst41, xbld41_0, bin_mul, bin_add, sl_bl Try.underlying9, slo_bl Try.underlying9, shi_bl Try.underlying9, xfad41_1, xld39, blt_cpx, xbls39_0, xbls39_1, xst39, xfad41_0, xld2, un_not, xld41, sneq_bl, fr26, wrap_int, wrap_u8, iteP_yes, iteP_no, word_r hX.n hla] | refine iteP_two (fun hc hd => ?_) (fun hc hd => ?_) | refine iteP_intro (fun hc => ?_) (fun hc => ?_))
  refine loop_rounds (fun m e h' => ∃ (i : Nat) (y : Value), m = n - i ∧ i ≤ n ∧ Pfx (h ++ [(⟨41, [.int .i64 0, .slice none 0 0]⟩ : Blk)]) h' ∧ h.length + 2 ≤ h'.length ∧ h'[h.length + 1]? = some ⟨41, [.int .i64 (wd l 0), y]⟩ ∧ e 0 = .string ⟨⟨l⟩⟩ ∧ e 4 = .pointer (some ⟨h.length, 0, none⟩) ∧ e 6 = .int .i64 (6 + 8 * (n : Int)) ∧ e 8 = .pointer (some ⟨h.length + 1, 0, none⟩) ∧ e 27 = .int .i64 n ∧ e 28 = .int .i64 i ∧ VN (h.length + 2) 65 1 h' y i ((atZ l 0 i).map cpx)) _ ⟨0, .slice none 0 0, rfl, ?_⟩ ?_
  · simp only [updO_at, updO_not, entry_at, List.getD_cons_zero, List.getD_cons_succ, ↓reduceIte, Nat.reduceEqDiff, true_and, and_true]
    refine ⟨by omega, (Pfx.refl _).snoc, by simp, ?_, by simp, rfl, vn_nil _⟩
    simp
  · rintro m e h' ⟨i, y, hm, hle, hp, hlen, hb8, g0, g4, g6, g8, g27, g28, hY⟩
    have hx := hY.vs.shape
    have c80 : cell h' (h.length + 1) 0 = some (.int .i64 (wd l 0)) := cellb hb8
    have c81 : cell h' (h.length + 1) 1 = some y := cellb hb8
    by_cases hin : i < n
    · have e1 : ((4 : Int) + 8 * (i : Int)).toNat = 4 + 8 * i := by omega
      have e2 : ((8 : Int) + 8 * (i : Int)).toNat = 8 + 8 * i := by omega
      have w1 : Ret Try.prog ro X 37 [.string ⟨⟨l.drop (4 + 8 * i)⟩⟩] h' (.int .i64 (wd l (0 + 4 + 8 * i))) := by
        rw [show 0 + 4 + 8 * i = 4 + 8 * i + 0 by omega, ← wd_drop]
        exact word_r hX.n (by rw [List.length_drop]; omega)
      have w2 : Ret Try.prog ro X 37 [.string ⟨⟨l.drop (8 + 8 * i)⟩⟩] h' (.int .i64 (wd l (0 + 8 + 8 * i))) := by
        rw [show 0 + 8 + 8 * i = 8 + 8 * i + 0 by omega, ← wd_drop]
        exact word_r hX.n (by rw [List.length_drop]; omega)
      have r1 := wd_range l (0 + 4 + 8 * i)
      have r2 := wd_range l (0 + 8 + 8 * i)
      obtain ⟨H, ap, vg, old, hH⟩ := acc1 (P := Try.prog) (ro := ro) (T := 39) (v := cpx (cf .f32 (wd l (0 + 4 + 8 * i)).toNat, cf .f32 (wd l (0 + 8 + 8 * i)).toNat)) tel39 tsz65 tby65 tze65 hY (by omega) hlen rfl (by omega) (by omega)
      have hb8H : H[h.length + 1]? = some ⟨41, [.int .i64 (wd l 0), y]⟩ := by
        rw [old.2.1 _ (by omega) ?_]
        · exact hb8
        · rcases hY with g | ⟨_, _, rfl⟩
          · exact .inr (by have := g.bof.1; omega)
          · exact .inl rfl
      simp only [cpx] at ap
      have hput : ∀ v : Value, cellsOf v = [v] → one v = true → put ro H (h.length + 1) 1 1 v = some (H.set (h.length + 1) ⟨41, [.int .i64 (wd l 0), v]⟩) := fun v a b => by
        rw [putb hb8H (by omega) (by rw [a]; rfl) (by simp) (by rw [a]; simp [b]), a]; rfl
      have hput1 := hput (.slice (some ⟨h'.length + 1, 0, none⟩) (i + 1) (i + 1 + 1)) rfl rfl
      have hcx : ∀ C, cell (h' ++ [C]) (h.length + 1) 1 = some y := fun C => (cell_skip (by omega)).trans c81
      (repeat' first | simp -dsimp (disch := first | omega | assumption | (refine OkS.sto ?_ (by omega); first | assumption | (refine OkS.sto ?_ (by omega); first | assumption | (refine OkS.sto ?_ (by omega); first | assumption | (refine OkS.sto ?_ (by omega); first | assumption | (refine OkS.sto ?_ (by omega); first | assumption | (refine OkS.sto ?_ (by omega); first | assumption)))))) | exact Pfx.refl _ | (apply Pfx.snoc; repeat (first | exact Pfx.refl _ | assumption | apply Pfx.snoc)) | with_unfolding_all exact of_eq_true (eq_true rfl) | (simp only [List.length_append, List.length_cons, List.length_nil]; omega)) only [↓wpre0, ↓wpre1, ↓reduceIte, Int.reduceToNat, Nat.reduceAdd, Nat.reduceMul, Nat.reduceEqDiff, wpost0, wpost1, wpost2, wpost3, wpost4, ite_self, ite_true, ite_false, if_true, if_false, tze41, len_bl Try.underlying9, bin_lss, xbld41, xst41, xbld41_0, bin_mul, bin_add, sl_bl Try.underlying9, slo_bl Try.underlying9, shi_bl Try.underlying9, xfad41_1, xld39, blt_cpx, xbls39_0, xbls39_1, xst39, xfad41_0, xld2, un_not, xld41, sneq_bl, fr26, wrap_int, wrap_u8, iteP_yes, iteP_no, g0, g4, g6, g8, g27, g28, e1, e2, w1, w2, FromBits_r hX r1.1 r1.2, FromBits_r hX r2.1 r2.2, c81, hcx, ap, hput1] | refine iteP_two (fun hc hd => ?_) (fun hc hd => ?_) | refine iteP_intro (fun hc => ?_) (fun hc => ?_))
      refine ⟨_, by omega, i + 1, _, rfl, by omega, (old.1 _ hp (by simp)).set (by simp), by simp; omega, set_at (by omega), by simp, ?_⟩
      rw [atZ_succ, List.map_append, List.map_singleton]
      refine .inl (vg.frame ?_)
      rw [set_get]
      show h'.length + 1 ≠ h.length + 1
      omega
    · have : i = n := by omega
      subst this
      have hx2 : (VS (h.length + 2) h'.length 1 h' y (atZ l 0 i).length ((atZ l 0 i).map cpx)) := by rw [atZ_len]; exact hY.vs
      have hfb := frameBytes_r (ro := ro) hX hx2 (atZ_ok l 0 i) hwr.1 hwr.2 (by rw [atZ_len]; omega) (by omega)
      have hb4 : h'[h.length]? = some ⟨41, [.int .i64 0, .slice none 0 0]⟩ := by rw [hp.get (by simp)]; exact get_last rfl
      have hpz := put2 (ro := ro) (a := .int .i64 0) (c := .slice none 0 0) hb4 hro rfl rfl
      have hpy := put2 (ro := ro) (a := .int .i64 (wd l 0)) (c := y) hb4 hro rfl hx.2.2
      have hcl : cells h' (h.length + 1) 0 2 = some (.agg ⟨[.int .i64 (wd l 0), y]⟩) := cellsb hb8 (by simp)
      have e1 : ((6 : Int) + 8 * (i : Int)).toNat = 6 + 8 * i := by omega
      (repeat' first | simp -dsimp (disch := first | omega | assumption | (refine OkS.sto ?_ (by omega); first | assumption | (refine OkS.sto ?_ (by omega); first | assumption | (refine OkS.sto ?_ (by omega); first | assumption | (refine OkS.sto ?_ (by omega); first | assumption | (refine OkS.sto ?_ (by omega); first | assumption | (refine OkS.sto ?_ (by omega); first | assumption)))))) | exact Pfx.refl _ | (apply Pfx.snoc; repeat (first | exact Pfx.refl _ | assumption | apply Pfx.snoc)) | with_unfolding_all exact of_eq_true (eq_true rfl) | (simp only [List.length_append, List.length_cons, List.length_nil]; omega)) only [↓wpre0, ↓wpre1, ↓reduceIte, Int.reduceToNat, Nat.reduceAdd, Nat.reduceMul, Nat.reduceEqDiff, wpost0, wpost1, wpost2, wpost3, wpost4, ite_self, ite_true, ite_false, if_true, if_false, tze41, len_bl Try.underlying9, bin_lss, xbld41, xst41, xbld41_0, bin_mul, bin_add, sl_bl Try.underlying9, slo_bl Try.underlying9, shi_bl Try.underlying9, xfad41_1, xld39, blt_cpx, xbls39_0, xbls39_1, xst39, xfad41_0, xld2, un_not, xld41, sneq_bl, fr26, wrap_int, wrap_u8, iteP_yes, iteP_no, g0, g4, g6, g8, g27, g28, c80, hcl, isIndex_r hX.n, hfb, e1, hpy, hpz, cells_set] | refine iteP_two (fun hc hd => ?_) (fun hc hd => ?_) | refine iteP_intro (fun hc => ?_) (fun hc => ?_))
      all_goals first
        | (refine ⟨((Pfx.refl h).snoc.trans hp).set (Nat.le_refl _), .inr ⟨?_, y, rfl, ?_⟩⟩
           · simp only [atOk, Bool.and_eq_true, decide_eq_true_eq, List.drop_zero]
             exact ⟨⟨by omega, by assumption⟩, by assumption⟩
           · rcases hY with g | ⟨q, _⟩
             · exact (g.frame (set_get (by have := g.bof.1; omega))).low (by omega)
             · omega)
        | (refine ⟨((Pfx.refl h).snoc.trans hp).set (Nat.le_refl _), .inl ⟨?_, rfl⟩⟩
           rw [Bool.eq_false_iff]
           intro q
           simp only [atOk, Bool.and_eq_true, decide_eq_true_eq, List.drop_zero] at q
           obtain ⟨⟨q1, q2⟩, q3⟩ := q
           first | omega | simp_all)
/-- What the reference's l10At returns. -/
def FaS (l : List UInt8) (a n : Nat) (h h' : Heap) (r : Value) : Prop :=
  Pfx h h' ∧ ∃ idx y, r = .tuple ⟨[.agg ⟨[.int .i64 idx, y]⟩, .bool (atOk l a n)]⟩ ∧ cellsOf y = [y] ∧ one y = true ∧ (atOk l a n = true → idx = wd l a ∧ VG h.length 65 1 h' y n ((atZ l a n).map cpx))
end Go.Proofs.Yteignhphimfmkaa.Sim
