/- Frames of bytes. Lemmas only; no condition. -/
import Derived.Test.YtbakaopgdcojfaaRcb
set_option linter.unusedSimpArgs false
set_option linter.unusedVariables false
set_option maxRecDepth 8000
namespace Go.Proofs.Ytbakaopgdcojfaa.Sim
open Go Go.RowKit
variable {ro : Nat} {X : Ext}
/-- The numbers at a place of bytes. -/
def atZ (l : List UInt8) (a n : Nat) : List (Nat × Nat) := (List.range n).map fun i => (cf .f32 (wd l (a + 4 + 8 * i)).toNat, cf .f32 (wd l (a + 8 + 8 * i)).toNat)
theorem atZ_len (l : List UInt8) (a n : Nat) : (atZ l a n).length = n := by simp [atZ]
theorem atZ_succ (l : List UInt8) (a n : Nat) : atZ l a (n + 1) = atZ l a n ++ [(cf .f32 (wd l (a + 4 + 8 * n)).toNat, cf .f32 (wd l (a + 8 + 8 * n)).toNat)] := by simp [atZ, List.range_succ]
theorem okF_cf {n : Nat} (h : n ≤ 4294967295) : okF (cf .f32 n) := by
  unfold okF cf
  split
  · exact ⟨by decide +kernel, by decide⟩
  · rename_i q
    exact ⟨rfl, h⟩
theorem atZ_ok (l : List UInt8) (a n : Nat) : ∀ z ∈ atZ l a n, okZ z := by
  intro z hz
  obtain ⟨i, _, rfl⟩ := List.mem_map.1 hz
  have h1 := wd_range l (a + 4 + 8 * i)
  have h2 := wd_range l (a + 8 + 8 * i)
  exact ⟨okF_cf (by omega), okF_cf (by omega)⟩
/-- That a frame lies at a place of bytes. -/
def atOk (l : List UInt8) (a n : Nat) : Bool := decide (a + (6 + 8 * n) ≤ l.length) && decide (wd l a ≤ 1000000) && (frB (wd l a) (atZ l a n) == (l.drop a).take (6 + 8 * n))
theorem bth_drop (l : List UInt8) (a i : Nat) : bth (l.drop a) i = bth l (a + i) := by
  simp only [bth, List.getD_eq_getElem?_getD, List.getElem?_drop]
theorem wd_drop (l : List UInt8) (a i : Nat) : wd (l.drop a) i = wd l (a + i) := by
  simp only [wd, bth_drop, Nat.add_assoc]
theorem atZ_drop (l : List UInt8) (a n : Nat) : atZ (l.drop a) 0 n = atZ l a n := by
  unfold atZ
  refine List.map_congr_left fun i _ => ?_
  simp only [wd_drop, Nat.zero_add, Nat.add_assoc]
theorem atOk_drop (l : List UInt8) (a n : Nat) (ha : a ≤ l.length) : atOk (l.drop a) 0 n = atOk l a n := by
  unfold atOk
  rw [atZ_drop, wd_drop, Nat.add_zero, List.drop_zero, List.length_drop]
  congr 2
  rw [Bool.eq_iff_iff]
  simp only [decide_eq_true_eq]
  omega
/-- What the program's frameAt returns. -/
def FaI (l : List UInt8) (n : Nat) (h h' : Heap) (r : Value) : Prop :=
  Pfx h h' ∧ ((atOk l 0 n = false ∧ r = .tuple ⟨[.agg ⟨[.int .i64 0, .slice none 0 0]⟩, .bool false]⟩) ∨ (atOk l 0 n = true ∧ ∃ y, r = .tuple ⟨[.agg ⟨[.int .i64 (wd l 0), y]⟩, .bool true]⟩ ∧ VG h.length 86 1 h' y n ((atZ l 0 n).map cpx)))
set_option maxHeartbeats 4000000 in
theorem frameAt_c (hX : XB X) {n : Nat} {l : List UInt8} {h : Heap} (hn0 : 1 ≤ n) (hn : n ≤ 16) (hl : l.length ≤ 1099511627776) (hro : ro ≤ h.length) :
    CallR Try.prog ro X 86 [.string ⟨⟨l⟩⟩, .int .i64 n] h (fun r h' => FaI l n h h' r) := by
  have hcn : count (n : Int) = true := by simp only [count, Bool.and_eq_true, decide_eq_true_eq]; omega
  refine callR_of (hX.n _ rfl) Try.func86 rfl (by kernel_rfl) (Nat.le_of_ble_eq_true rfl) ?_
  (repeat' first | simp -dsimp (disch := first | omega | assumption | (refine OkS.sto ?_ (by omega); first | assumption | (refine OkS.sto ?_ (by omega); first | assumption | (refine OkS.sto ?_ (by omega); first | assumption | (refine OkS.sto ?_ (by omega); first | assumption | (refine OkS.sto ?_ (by omega); first | assumption | (refine OkS.sto ?_ (by omega); first | assumption)))))) | exact Pfx.refl _ | (apply Pfx.snoc; repeat (first | exact Pfx.refl _ | assumption | apply Pfx.snoc)) | with_unfolding_all exact of_eq_true (eq_true rfl) | (simp only [List.length_append, List.length_cons, List.length_nil]; omega)) only [↓wpre0, ↓wpre1, ↓reduceIte, Int.reduceToNat, Nat.reduceAdd, Nat.reduceMul, Nat.reduceEqDiff, wpost0, wpost1, wpost2, wpost3, wpost4, ite_self, ite_true, ite_false, if_true, if_false, tze50, len_bl Try.underlying9, bin_lss, xbld50, xst50, xbld50_0, bin_mul, bin_add, sl_bl Try.underlying9, slo_bl Try.underlying9, shi_bl Try.underlying9, xfad50_1, xld29, blt_cpx, xbls29_0, xbls29_1, xst29, xfad50_0, xld2, un_not, xld50, sneq_bl, fr86, wrap_int, wrap_u8, iteP_yes, iteP_no, cf_eq (iFrameSize_c hX.n _ hcn _)] | refine iteP_two (fun hc hd => ?_) (fun hc hd => ?_) | refine iteP_intro (fun hc => ?_) (fun hc => ?_))
  · have hf : atOk l 0 n = false := by
      unfold atOk
      rw [decide_eq_false (by omega)]; rfl
    exact ⟨(Pfx.refl h).snoc, .inl ⟨hf, rfl⟩⟩
  have hla : 4 ≤ l.length := by omega
  have hwr := wd_range l 0
  (repeat' first | simp -dsimp (disch := first | omega | assumption | (refine OkS.sto ?_ (by omega); first | assumption | (refine OkS.sto ?_ (by omega); first | assumption | (refine OkS.sto ?_ (by omega); first | assumption | (refine OkS.sto ?_ (by omega); first | assumption | (refine OkS.sto ?_ (by omega); first | assumption | (refine OkS.sto ?_ (by omega); first | assumption)))))) | exact Pfx.refl _ | (apply Pfx.snoc; repeat (first | exact Pfx.refl _ | assumption | apply Pfx.snoc)) | with_unfolding_all exact of_eq_true (eq_true rfl) | (simp only [List.length_append, List.length_cons, List.length_nil]; omega)) only [↓wpre0, ↓wpre1, ↓reduceIte, Int.reduceToNat, Nat.reduceAdd, Nat.reduceMul, Nat.reduceEqDiff, wpost0, wpost1, wpost2, wpost3, wpost4, ite_self, ite_true, ite_false, if_true, if_false, tze50, len_bl Try.underlying9, bin_lss, xbld50, xst50, xbld50_0, bin_mul, bin_add, sl_bl Try.underlying9, slo_bl Try.underlying9, shi_bl Try.underlying9, xfad50_1, xld29, blt_cpx, xbls29_0, xbls29_1, xst29, xfad50_0, xld2, un_not, xld50, sneq_bl, fr86, wrap_int, wrap_u8, iteP_yes, iteP_no, word_r hX.n hla] | refine iteP_two (fun hc hd => ?_) (fun hc hd => ?_) | refine iteP_intro (fun hc => ?_) (fun hc => ?_))
  refine loop_rounds (fun m e h' => ∃ (i : Nat) (y : Value), m = n - i ∧ i ≤ n ∧ Pfx (h ++ [(⟨50, [.int .i64 0, .slice none 0 0]⟩ : Blk)]) h' ∧ h.length + 2 ≤ h'.length ∧ h'[h.length + 1]? = some ⟨50, [.int .i64 (wd l 0), y]⟩ ∧ e 0 = .string ⟨⟨l⟩⟩ ∧ e 4 = .pointer (some ⟨h.length, 0, none⟩) ∧ e 6 = .int .i64 (6 + 8 * (n : Int)) ∧ e 8 = .pointer (some ⟨h.length + 1, 0, none⟩) ∧ e 27 = .int .i64 n ∧ e 28 = .int .i64 i ∧ VN (h.length + 2) 86 1 h' y i ((atZ l 0 i).map cpx)) _ ⟨0, .slice none 0 0, rfl, ?_⟩ ?_
  · simp only [updO_at, updO_not, entry_at, List.getD_cons_zero, List.getD_cons_succ, ↓reduceIte, Nat.reduceEqDiff, true_and, and_true]
    refine ⟨by omega, (Pfx.refl _).snoc, by simp, ?_, by simp, rfl, vn_nil _⟩
    simp
  · rintro m e h' ⟨i, y, hm, hle, hp, hlen, hb8, g0, g4, g6, g8, g27, g28, hY⟩
    have hx := hY.vs.shape
    have c80 : cell h' (h.length + 1) 0 = some (.int .i64 (wd l 0)) := cellb hb8
    have c81 : cell h' (h.length + 1) 1 = some y := cellb hb8
    by_cases hin : i < n
    · have e1 : ((4 : Int) + 8 * (i : Int)).toNat = 4 + 8 * i := by omega
      have e2 : ((8 : Int) + 8 * (i : Int)).toNat = 8 + 8 * i := by omega
      have w1 : Ret Try.prog ro X 110 [.string ⟨⟨l.drop (4 + 8 * i)⟩⟩] h' (.int .i64 (wd l (0 + 4 + 8 * i))) := by
        rw [show 0 + 4 + 8 * i = 4 + 8 * i + 0 by omega, ← wd_drop]
        exact word_r hX.n (by rw [List.length_drop]; omega)
      have w2 : Ret Try.prog ro X 110 [.string ⟨⟨l.drop (8 + 8 * i)⟩⟩] h' (.int .i64 (wd l (0 + 8 + 8 * i))) := by
        rw [show 0 + 8 + 8 * i = 8 + 8 * i + 0 by omega, ← wd_drop]
        exact word_r hX.n (by rw [List.length_drop]; omega)
      have r1 := wd_range l (0 + 4 + 8 * i)
      have r2 := wd_range l (0 + 8 + 8 * i)
      obtain ⟨H, ap, vg, old, hH⟩ := acc1 (P := Try.prog) (ro := ro) (T := 29) (v := cpx (cf .f32 (wd l (0 + 4 + 8 * i)).toNat, cf .f32 (wd l (0 + 8 + 8 * i)).toNat)) tel29 tsz86 tby86 tze86 hY (by omega) hlen rfl (by omega) (by omega)
      have hb8H : H[h.length + 1]? = some ⟨50, [.int .i64 (wd l 0), y]⟩ := by
        rw [old.2.1 _ (by omega) ?_]
        · exact hb8
        · rcases hY with g | ⟨_, _, rfl⟩
          · exact .inr (by have := g.bof.1; omega)
          · exact .inl rfl
      simp only [cpx] at ap
      have hput : ∀ v : Value, cellsOf v = [v] → one v = true → put ro H (h.length + 1) 1 1 v = some (H.set (h.length + 1) ⟨50, [.int .i64 (wd l 0), v]⟩) := fun v a b => by
        rw [putb hb8H (by omega) (by rw [a]; rfl) (by simp) (by rw [a]; simp [b]), a]; rfl
      have hput1 := hput (.slice (some ⟨h'.length + 1, 0, none⟩) (i + 1) (i + 1 + 1)) rfl rfl
      have hcx : ∀ C, cell (h' ++ [C]) (h.length + 1) 1 = some y := fun C => (cell_skip (by omega)).trans c81
      (repeat' first | simp -dsimp (disch := first | omega | assumption | (refine OkS.sto ?_ (by omega); first | assumption | (refine OkS.sto ?_ (by omega); first | assumption | (refine OkS.sto ?_ (by omega); first | assumption | (refine OkS.sto ?_ (by omega); first | assumption | (refine OkS.sto ?_ (by omega); first | assumption | (refine OkS.sto ?_ (by omega); first | assumption)))))) | exact Pfx.refl _ | (apply Pfx.snoc; repeat (first | exact Pfx.refl _ | assumption | apply Pfx.snoc)) | with_unfolding_all exact of_eq_true (eq_true rfl) | (simp only [List.length_append, List.length_cons, List.length_nil]; omega)) only [↓wpre0, ↓wpre1, ↓reduceIte, Int.reduceToNat, Nat.reduceAdd, Nat.reduceMul, Nat.reduceEqDiff, wpost0, wpost1, wpost2, wpost3, wpost4, ite_self, ite_true, ite_false, if_true, if_false, tze50, len_bl Try.underlying9, bin_lss, xbld50, xst50, xbld50_0, bin_mul, bin_add, sl_bl Try.underlying9, slo_bl Try.underlying9, shi_bl Try.underlying9, xfad50_1, xld29, blt_cpx, xbls29_0, xbls29_1, xst29, xfad50_0, xld2, un_not, xld50, sneq_bl, fr86, wrap_int, wrap_u8, iteP_yes, iteP_no, g0, g4, g6, g8, g27, g28, e1, e2, w1, w2, FromBits_r hX r1.1 r1.2, FromBits_r hX r2.1 r2.2, c81, hcx, ap, hput1] | refine iteP_two (fun hc hd => ?_) (fun hc hd => ?_) | refine iteP_intro (fun hc => ?_) (fun hc => ?_))
      refine ⟨_, by omega, i + 1, _, rfl, by omega, (old.1 _ hp (by simp)).set (by simp), by simp; omega, set_at (by omega), by simp, ?_⟩
      rw [atZ_succ, List.map_append, List.map_singleton]
      refine .inl (vg.frame ?_)
      rw [set_get]
      show h'.length + 1 ≠ h.length + 1
      omega
    · have : i = n := by omega
      subst this
      have hx2 : (VS (h.length + 2) h'.length 1 h' y (atZ l 0 i).length ((atZ l 0 i).map cpx)) := by rw [atZ_len]; exact hY.vs
      have hfb := frameBytes_r (ro := ro) hX hx2 (atZ_ok l 0 i) hwr.1 hwr.2 (by rw [atZ_len]; omega) (by omega)
      have hb4 : h'[h.length]? = some ⟨50, [.int .i64 0, .slice none 0 0]⟩ := by rw [hp.get (by simp)]; exact get_last rfl
      have hpz := put2 (ro := ro) (a := .int .i64 0) (c := .slice none 0 0) hb4 hro rfl rfl
      have hpy := put2 (ro := ro) (a := .int .i64 (wd l 0)) (c := y) hb4 hro rfl hx.2.2
      have hcl : cells h' (h.length + 1) 0 2 = some (.agg ⟨[.int .i64 (wd l 0), y]⟩) := cellsb hb8 (by simp)
      have e1 : ((6 : Int) + 8 * (i : Int)).toNat = 6 + 8 * i := by omega
      (repeat' first | simp -dsimp (disch := first | omega | assumption | (refine OkS.sto ?_ (by omega); first | assumption | (refine OkS.sto ?_ (by omega); first | assumption | (refine OkS.sto ?_ (by omega); first | assumption | (refine OkS.sto ?_ (by omega); first | assumption | (refine OkS.sto ?_ (by omega); first | assumption | (refine OkS.sto ?_ (by omega); first | assumption)))))) | exact Pfx.refl _ | (apply Pfx.snoc; repeat (first | exact Pfx.refl _ | assumption | apply Pfx.snoc)) | with_unfolding_all exact of_eq_true (eq_true rfl) | (simp only [List.length_append, List.length_cons, List.length_nil]; omega)) only [↓wpre0, ↓wpre1, ↓reduceIte, Int.reduceToNat, Nat.reduceAdd, Nat.reduceMul, Nat.reduceEqDiff, wpost0, wpost1, wpost2, wpost3, wpost4, ite_self, ite_true, ite_false, if_true, if_false, tze50, len_bl Try.underlying9, bin_lss, xbld50, xst50, xbld50_0, bin_mul, bin_add, sl_bl Try.underlying9, slo_bl Try.underlying9, shi_bl Try.underlying9, xfad50_1, xld29, blt_cpx, xbls29_0, xbls29_1, xst29, xfad50_0, xld2, un_not, xld50, sneq_bl, fr86, wrap_int, wrap_u8, iteP_yes, iteP_no, g0, g4, g6, g8, g27, g28, c80, hcl, isIndex_r hX.n, hfb, e1, hpy, hpz, cells_set] | refine iteP_two (fun hc hd => ?_) (fun hc hd => ?_) | refine iteP_intro (fun hc => ?_) (fun hc => ?_))
      all_goals first
        | (refine ⟨((Pfx.refl h).snoc.trans hp).set (Nat.le_refl _), .inr ⟨?_, y, rfl, ?_⟩⟩
           · simp only [atOk, Bool.and_eq_true, decide_eq_true_eq, List.drop_zero]
             exact ⟨⟨by omega, by assumption⟩, by assumption⟩
           · rcases hY with g | ⟨q, _⟩
             · exact (g.frame (set_get (by have := g.bof.1; omega))).low (by omega)
             · omega)
        | (refine ⟨((Pfx.refl h).snoc.trans hp).set (Nat.le_refl _), .inl ⟨?_, rfl⟩⟩
           rw [Bool.eq_false_iff]
           intro q
           simp only [atOk, Bool.and_eq_true, decide_eq_true_eq, List.drop_zero] at q
           obtain ⟨⟨q1, q2⟩, q3⟩ := q
           first | omega | simp_all)
/-- What the reference's l10At returns. -/
def FaS (l : List UInt8) (a n : Nat) (h h' : Heap) (r : Value) : Prop :=
  Pfx h h' ∧ ∃ idx y, r = .tuple ⟨[.agg ⟨[.int .i64 idx, y]⟩, .bool (atOk l a n)]⟩ ∧ cellsOf y = [y] ∧ one y = true ∧ (atOk l a n = true → idx = wd l a ∧ VG h.length 86 1 h' y n ((atZ l a n).map cpx))
set_option maxHeartbeats 4000000 in
theorem l10At_c (hX : XB X) {n a : Nat} {l : List UInt8} {h : Heap} (hn0 : 1 ≤ n) (hn : n ≤ 16) (hl : l.length ≤ 1099511627776) (ha : a ≤ 1099511627776) (hro : ro ≤ h.length) :
    CallR Try.prog ro X 85 [.string ⟨⟨l⟩⟩, .int .i64 a, .int .i64 n] h (fun r h' => FaS l a n h h' r) := by
  refine callR_of (hX.n _ rfl) Try.func85 rfl (by kernel_rfl) (Nat.le_of_ble_eq_true rfl) ?_
  (repeat' first | simp -dsimp (disch := first | omega | assumption | (refine OkS.sto ?_ (by omega); first | assumption | (refine OkS.sto ?_ (by omega); first | assumption | (refine OkS.sto ?_ (by omega); first | assumption | (refine OkS.sto ?_ (by omega); first | assumption | (refine OkS.sto ?_ (by omega); first | assumption | (refine OkS.sto ?_ (by omega); first | assumption)))))) | exact Pfx.refl _ | (apply Pfx.snoc; repeat (first | exact Pfx.refl _ | assumption | apply Pfx.snoc)) | with_unfolding_all exact of_eq_true (eq_true rfl) | (simp only [List.length_append, List.length_cons, List.length_nil]; omega)) only [↓wpre0, ↓wpre1, ↓reduceIte, Int.reduceToNat, Nat.reduceAdd, Nat.reduceMul, Nat.reduceEqDiff, wpost0, wpost1, wpost2, wpost3, wpost4, ite_self, ite_true, ite_false, if_true, if_false, tze50, xbls29_0, xbls29_1, xbld50_1, xst50, bin_add, len_bl Try.underlying9, bin_gtr, xld50, xfad50_0, xst2, bin_lss, bin_mul, xfad50_1, xld29, blt_cpx, xst29, xld2, bin_leq, sl_bl Try.underlying9, slo_bl Try.underlying9, shi_bl Try.underlying9, seql_bl, fr85, wrap_int, wrap_u8, iteP_yes, iteP_no, cf_eq (l10Size_c hX.n (n : Int) (by omega) (by omega) _)] | refine iteP_two (fun hc hd => ?_) (fun hc hd => ?_) | refine iteP_intro (fun hc => ?_) (fun hc => ?_))
  · refine ⟨((Pfx.refl h).snoc.snoc).snoc, 0, .slice (some ⟨(h ++ [(⟨50, [.int .i64 0, .slice none 0 0]⟩ : Blk)]).length, 0, none⟩) 0 0, ?_, rfl, rfl, ?_⟩
    · have hf : atOk l a n = false := by
        unfold atOk
        rw [decide_eq_false (by omega)]; rfl
      rw [hf]
    · intro q
      simp only [atOk, Bool.and_eq_true, decide_eq_true_eq] at q
      omega
  have hla : (a : Int) + 4 ≤ l.length := by omega
  have hwr := wd_range l a
  (repeat' first | simp -dsimp (disch := first | omega | assumption | (refine OkS.sto ?_ (by omega); first | assumption | (refine OkS.sto ?_ (by omega); first | assumption | (refine OkS.sto ?_ (by omega); first | assumption | (refine OkS.sto ?_ (by omega); first | assumption | (refine OkS.sto ?_ (by omega); first | assumption | (refine OkS.sto ?_ (by omega); first | assumption)))))) | exact Pfx.refl _ | (apply Pfx.snoc; repeat (first | exact Pfx.refl _ | assumption | apply Pfx.snoc)) | with_unfolding_all exact of_eq_true (eq_true rfl) | (simp only [List.length_append, List.length_cons, List.length_nil]; omega)) only [↓wpre0, ↓wpre1, ↓reduceIte, Int.reduceToNat, Nat.reduceAdd, Nat.reduceMul, Nat.reduceEqDiff, wpost0, wpost1, wpost2, wpost3, wpost4, ite_self, ite_true, ite_false, if_true, if_false, tze50, xbls29_0, xbls29_1, xbld50_1, xst50, bin_add, len_bl Try.underlying9, bin_gtr, xld50, xfad50_0, xst2, bin_lss, bin_mul, xfad50_1, xld29, blt_cpx, xst29, xld2, bin_leq, sl_bl Try.underlying9, slo_bl Try.underlying9, shi_bl Try.underlying9, seql_bl, fr85, wrap_int, wrap_u8, iteP_yes, iteP_no, l10Number_r hX.n (Int.natCast_nonneg a) hla hl] | refine iteP_two (fun hc hd => ?_) (fun hc hd => ?_) | refine iteP_intro (fun hc => ?_) (fun hc => ?_))
  refine loop_rounds (fun m e h' => ∃ (i : Nat) (y : Value), m = n - i ∧ i ≤ n ∧ Pfx (h ++ [(⟨50, [.int .i64 0, .slice none 0 0]⟩ : Blk)]) h' ∧ h.length + 3 ≤ h'.length ∧ h'[h.length + 2]? = some ⟨50, [.int .i64 (wd l a), y]⟩ ∧ e 0 = .string ⟨⟨l⟩⟩ ∧ e 1 = .int .i64 a ∧ e 2 = .int .i64 n ∧ e 6 = .pointer (some ⟨h.length, 0, none⟩) ∧ e 8 = .pointer (some ⟨h.length + 2, 0, none⟩) ∧ e 9 = .int .i64 ((a : Int) + (6 + 8 * (n : Int))) ∧ e 10 = .int .i64 i ∧ bOf y ≠ h.length + 2 ∧ VG (h.length + 1) 86 1 h' y i ((atZ l a i).map cpx)) _ ⟨0, .slice (some ⟨h.length + 1, 0, none⟩) 0 0, rfl, ?_⟩ ?_
  · simp only [updO_at, updO_not, entry_at, List.getD_cons_zero, List.getD_cons_succ, ↓reduceIte, Nat.reduceEqDiff, true_and, and_true]
    refine ⟨by omega, (Pfx.refl _).snoc.snoc, by simp, by simp, by simp, rfl, ?_, ?_⟩
    · show h.length + 1 ≠ h.length + 2
      omega
    · exact ⟨by simp [atZ], h.length + 1, 0, rfl, Nat.le_refl _, by simp [atZ], fun _ => rfl⟩
  · rintro m e h' ⟨i, y, hm, hle, hp, hlen, hb8, g0, g1, g2, g6, g8, g9, g10, hbo, hY⟩
    have hx := hY.vs.shape
    have c80 : cell h' (h.length + 2) 0 = some (.int .i64 (wd l a)) := cellb hb8
    have c81 : cell h' (h.length + 2) 1 = some y := cellb hb8
    by_cases hin : i < n
    · have w1 := fun hh => l10Number_r (ro := ro) (h := hh) (a := (a : Int) + 4 + 8 * (i : Int)) hX.n (by omega) (by omega) hl
      have w2 := fun hh => l10Number_r (ro := ro) (h := hh) (a := (a : Int) + 8 + 8 * (i : Int)) hX.n (by omega) (by omega) hl
      have e1 : ((a : Int) + 4 + 8 * (i : Int)).toNat = a + 4 + 8 * i := by omega
      have e2 : ((a : Int) + 8 + 8 * (i : Int)).toNat = a + 8 + 8 * i := by omega
      rw [e1] at w1
      rw [e2] at w2
      have r1 := wd_range l (a + 4 + 8 * i)
      have r2 := wd_range l (a + 8 + 8 * i)
      obtain ⟨H, ap, vg, old, hH⟩ := acc1 (P := Try.prog) (ro := ro) (T := 29) (v := cpx (cf .f32 (wd l (a + 4 + 8 * i)).toNat, cf .f32 (wd l (a + 8 + 8 * i)).toNat)) tel29 tsz86 tby86 tze86 (.inl hY) (by omega) (by omega) rfl (by omega) (by omega)
      have hb8H : H[h.length + 2]? = some ⟨50, [.int .i64 (wd l a), y]⟩ := by
        rw [old.2.1 _ (by omega) (.inr (Ne.symm hbo))]
        exact hb8
      simp only [cpx] at ap
      have hput : ∀ v : Value, cellsOf v = [v] → one v = true → put ro H (h.length + 2) 1 1 v = some (H.set (h.length + 2) ⟨50, [.int .i64 (wd l a), v]⟩) := fun v a b => by
        rw [putb hb8H (by omega) (by rw [a]; rfl) (by simp) (by rw [a]; simp [b]), a]; rfl
      have hput1 := hput (.slice (some ⟨h'.length + 1, 0, none⟩) (i + 1) (i + 1 + 1)) rfl rfl
      have hcx : ∀ C, cell (h' ++ [C]) (h.length + 2) 1 = some y := fun C => (cell_skip (by omega)).trans c81
      (repeat' first | simp -dsimp (disch := first | omega | assumption | (refine OkS.sto ?_ (by omega); first | assumption | (refine OkS.sto ?_ (by omega); first | assumption | (refine OkS.sto ?_ (by omega); first | assumption | (refine OkS.sto ?_ (by omega); first | assumption | (refine OkS.sto ?_ (by omega); first | assumption | (refine OkS.sto ?_ (by omega); first | assumption)))))) | exact Pfx.refl _ | (apply Pfx.snoc; repeat (first | exact Pfx.refl _ | assumption | apply Pfx.snoc)) | with_unfolding_all exact of_eq_true (eq_true rfl) | (simp only [List.length_append, List.length_cons, List.length_nil]; omega)) only [↓wpre0, ↓wpre1, ↓reduceIte, Int.reduceToNat, Nat.reduceAdd, Nat.reduceMul, Nat.reduceEqDiff, wpost0, wpost1, wpost2, wpost3, wpost4, ite_self, ite_true, ite_false, if_true, if_false, tze50, xbls29_0, xbls29_1, xbld50_1, xst50, bin_add, len_bl Try.underlying9, bin_gtr, xld50, xfad50_0, xst2, bin_lss, bin_mul, xfad50_1, xld29, blt_cpx, xst29, xld2, bin_leq, sl_bl Try.underlying9, slo_bl Try.underlying9, shi_bl Try.underlying9, seql_bl, fr85, wrap_int, wrap_u8, iteP_yes, iteP_no, g0, g1, g2, g6, g8, g9, g10, w1, w2, l01From_r hX r1.1 r1.2, l01From_r hX r2.1 r2.2, c81, hcx, ap, hput1] | refine iteP_two (fun hc hd => ?_) (fun hc hd => ?_) | refine iteP_intro (fun hc => ?_) (fun hc => ?_))
      refine ⟨_, by omega, i + 1, _, rfl, by omega, (old.1 _ hp (by simp)).set (by simp), by simp; omega, set_at (by omega), by simp, ?_, ?_⟩
      · show h'.length + 1 ≠ h.length + 2
        omega
      · rw [atZ_succ, List.map_append, List.map_singleton]
        refine vg.frame ?_
        rw [set_get]
        show h'.length + 1 ≠ h.length + 2
        omega
    · have : i = n := by omega
      subst this
      have hx2 : (VS (bOf y) (bOf y + 1) 1 h' y (atZ l a i).length ((atZ l a i).map cpx)) := by rw [atZ_len]; exact hY.vs
      have hfb := l10Frame_r (ro := ro) hX hb8 hx2 (atZ_ok l a i) hwr.1 hwr.2 (by rw [atZ_len]; omega) (by omega)
      have hb4 : h'[h.length]? = some ⟨50, [.int .i64 0, .slice none 0 0]⟩ := by rw [hp.get (by simp)]; exact get_last rfl
      have hpy := put2 (ro := ro) (a := .int .i64 (wd l a)) (c := y) hb4 hro rfl hx.2.2
      have hcl : cells h' (h.length + 2) 0 2 = some (.agg ⟨[.int .i64 (wd l a), y]⟩) := cellsb hb8 (by simp)
      have e1 : ((a : Int) + (6 + 8 * (i : Int))).toNat = a + (6 + 8 * i) := by omega
      (repeat' first | simp -dsimp (disch := first | omega | assumption | (refine OkS.sto ?_ (by omega); first | assumption | (refine OkS.sto ?_ (by omega); first | assumption | (refine OkS.sto ?_ (by omega); first | assumption | (refine OkS.sto ?_ (by omega); first | assumption | (refine OkS.sto ?_ (by omega); first | assumption | (refine OkS.sto ?_ (by omega); first | assumption)))))) | exact Pfx.refl _ | (apply Pfx.snoc; repeat (first | exact Pfx.refl _ | assumption | apply Pfx.snoc)) | with_unfolding_all exact of_eq_true (eq_true rfl) | (simp only [List.length_append, List.length_cons, List.length_nil]; omega)) only [↓wpre0, ↓wpre1, ↓reduceIte, Int.reduceToNat, Nat.reduceAdd, Nat.reduceMul, Nat.reduceEqDiff, wpost0, wpost1, wpost2, wpost3, wpost4, ite_self, ite_true, ite_false, if_true, if_false, tze50, xbls29_0, xbls29_1, xbld50_1, xst50, bin_add, len_bl Try.underlying9, bin_gtr, xld50, xfad50_0, xst2, bin_lss, bin_mul, xfad50_1, xld29, blt_cpx, xst29, xld2, bin_leq, sl_bl Try.underlying9, slo_bl Try.underlying9, shi_bl Try.underlying9, seql_bl, fr85, wrap_int, wrap_u8, iteP_yes, iteP_no, g0, g1, g2, g6, g8, g9, g10, c80, hcl, hfb, e1, hpy, cells_set] | refine iteP_two (fun hc hd => ?_) (fun hc hd => ?_) | refine iteP_intro (fun hc => ?_) (fun hc => ?_))
      · refine ⟨((Pfx.refl h).snoc.trans hp).set (Nat.le_refl _), _, y, ?_, hx.2.1, hx.2.2, fun _ => ⟨rfl, (hY.frame (set_get (by have := hY.bof.1; omega))).low (by omega)⟩⟩
        rw [show a + (6 + 8 * i) - a = 6 + 8 * i by omega]
        unfold atOk
        rw [decide_eq_true (show a + (6 + 8 * i) ≤ l.length by omega), hd]
        rfl
      · refine ⟨((Pfx.refl h).snoc.trans hp).set (Nat.le_refl _), _, y, ?_, hx.2.1, hx.2.2, fun _ => ⟨rfl, (hY.frame (set_get (by have := hY.bof.1; omega))).low (by omega)⟩⟩
        unfold atOk
        rw [hd, Bool.and_false, Bool.false_and]
end Go.Proofs.Ytbakaopgdcojfaa.Sim
