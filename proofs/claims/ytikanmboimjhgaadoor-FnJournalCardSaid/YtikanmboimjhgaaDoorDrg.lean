/- The program's RecoverJournal. Lemmas only; no condition. -/
import Derived.Test.YtikanmboimjhgaaDoorDrf
set_option linter.unusedSimpArgs false
set_option linter.unusedVariables false
set_option maxRecDepth 8000
namespace Go.Proofs.YtikanmboimjhgaaDoor.Sim
open Go Go.RowKit
variable {ro : Nat} {X : Ext}
theorem idx10_r (hx : XD X) (l : List UInt8) (h : Heap) : Ret Tryd.prog ro X 32 [.string ⟨⟨l⟩⟩, .int .u8 10] h (.int .i64 (Lib.indexByte l 10)) := idx_r hx l 10 h
set_option maxHeartbeats 4000000 in
theorem recovered_c (hx : XD X) {t : List UInt8} {h : Heap} (hl : t.length ≤ 6000) (hro : ro ≤ h.length) :
    CallR Tryd.prog ro X 20 [.string ⟨⟨t⟩⟩] h (fun r h' => Pfx h h' ∧ ∃ y, r = .tuple ⟨[y, .int .i64 (recS 0 (lns (t.length + 1) t)).2]⟩ ∧ VG h.length 9 1 h' y (recS 0 (lns (t.length + 1) t)).1.length ((recS 0 (lns (t.length + 1) t)).1.map strv)) := by
  have hX := hx.n
  refine callR_of (hX _ rfl) Tryd.func20 rfl (by kernel_rfl) (Nat.le_of_ble_eq_true rfl) ?_
  generalize hls : lns (t.length + 1) t = ls
  (repeat' first | simp -dsimp (disch := first | omega | assumption | (refine OkS.sto ?_ (by omega); first | assumption | (refine OkS.sto ?_ (by omega); first | assumption | (refine OkS.sto ?_ (by omega); first | assumption | (refine OkS.sto ?_ (by omega); first | assumption | (refine OkS.sto ?_ (by omega); first | assumption | (refine OkS.sto ?_ (by omega); first | assumption)))))) | exact Pfx.refl _ | (apply Pfx.snoc; repeat (first | exact Pfx.refl _ | assumption | apply Pfx.snoc)) | with_unfolding_all exact of_eq_true (eq_true rfl) | (simp only [List.length_append, List.length_cons, List.length_nil]; omega)) only [↓wpre0, ↓wpre1, ↓reduceIte, Int.reduceToNat, Nat.reduceAdd, Nat.reduceMul, Nat.reduceEqDiff, wpost0, wpost1, wpost2, wpost3, wpost4, ite_self, ite_true, ite_false, if_true, if_false, xbls24_0, xbls24_1, sl_bl Tryd.underlying9, slo_bl Tryd.underlying9, shi_bl Tryd.underlying9, bin_lss, bin_add, un_not, sneq_bl, fr20, wrap_int, wrap_u8, iteP_yes, iteP_no] | refine iteP_two (fun hc hd => ?_) (fun hc hd => ?_) | refine iteP_intro (fun hc => ?_) (fun hc => ?_))
  refine loop_rounds (fun k e h' => ∃ (a F : Nat) (n : Int) (y : Value) (A : List (List UInt8)), k = t.length + 1 - a ∧ a ≤ t.length ∧ A.length ≤ a ∧ t.length + 1 ≤ F + a ∧ Pfx h h' ∧ (0 ≤ n ∧ n ≤ 65002) ∧ e 0 = .string ⟨⟨t⟩⟩ ∧ e 4 = y ∧ e 5 = .int .i64 n ∧ e 6 = .int .i64 a ∧ VG h.length 9 1 h' y A.length (A.map strv) ∧ Jst ls A a n (lns F (t.drop a))) _ ⟨0, t.length + 1, 0, .slice (some ⟨h.length, 0, none⟩) 0 0, [], rfl, ?_⟩ ?_
  · simp only [updO_at, updO_not, entry_at, List.getD_cons_zero, List.getD_cons_succ, ↓reduceIte, Nat.reduceEqDiff, true_and, and_true]
    refine ⟨by omega, Nat.le_refl _, by omega, (Pfx.refl h).snoc, ⟨by omega, by omega⟩, rfl, vg_new h (Nat.le_refl _), ?_⟩
    rw [List.drop_zero, hls]
    exact Jst.start ls
  · rintro k e h' ⟨a, F, n, y, A, hk, ha, hA, hF, hp, hn, g0, g4, g5, g6, hY, hJ⟩
    have hl2 := hp.len
    have i0 := Lib.indexByte_ge (t.drop a) 10
    have i1 := idx_lt (t.drop a) 10
    rw [List.length_drop] at i1
    have e10 : (10 : Int).toNat.toUInt8 = 10 := rfl
    by_cases hi : Lib.indexByte (t.drop a) 10 < 0
    · rw [lns_none hi] at hJ
      have hnf : Sim.flat (.tuple ⟨[y, .int .i64 a]⟩) = false := by obtain ⟨_, b, cap, rfl, _⟩ := hY; rfl
      have hr := hJ.nil
      (repeat' first | simp -dsimp (disch := first | omega | assumption | (refine OkS.sto ?_ (by omega); first | assumption | (refine OkS.sto ?_ (by omega); first | assumption | (refine OkS.sto ?_ (by omega); first | assumption | (refine OkS.sto ?_ (by omega); first | assumption | (refine OkS.sto ?_ (by omega); first | assumption | (refine OkS.sto ?_ (by omega); first | assumption)))))) | exact Pfx.refl _ | (apply Pfx.snoc; repeat (first | exact Pfx.refl _ | assumption | apply Pfx.snoc)) | with_unfolding_all exact of_eq_true (eq_true rfl) | (simp only [List.length_append, List.length_cons, List.length_nil]; omega)) only [↓wpre0, ↓wpre1, ↓reduceIte, Int.reduceToNat, Nat.reduceAdd, Nat.reduceMul, Nat.reduceEqDiff, wpost0, wpost1, wpost2, wpost3, wpost4, ite_self, ite_true, ite_false, if_true, if_false, xbls24_0, xbls24_1, sl_bl Tryd.underlying9, slo_bl Tryd.underlying9, shi_bl Tryd.underlying9, bin_lss, bin_add, un_not, sneq_bl, fr20, wrap_int, wrap_u8, iteP_yes, iteP_no, g0, g4, g5, g6, idx10_r hx, Int.toNat_natCast, endH_not hnf] | refine iteP_two (fun hc hd => ?_) (fun hc hd => ?_) | refine iteP_intro (fun hc => ?_) (fun hc => ?_))
      exact ⟨hp, y, by rw [hr], by rw [hr]; exact hY⟩
    · obtain ⟨j, hj⟩ : ∃ j : Nat, Lib.indexByte (t.drop a) 10 = j := ⟨_, (Int.toNat_of_nonneg (by omega)).symm⟩
      obtain ⟨G, rfl⟩ : ∃ G, F = G + 1 := ⟨F - 1, by omega⟩
      rw [lns_some hj, List.drop_drop] at hJ
      rw [hj] at i1
      have hsl : ((t.drop a).take j).length = j := by rw [List.length_take, List.length_drop]; omega
      generalize hs : (t.drop a).take j = s at *
      have hrl := rst_le s 32
      have hck := chk_range hn (rst s 32)
      have e4 : ((a : Int) + (j : Int)).toNat = a + j := by omega
      have e5 : a + j - a = j := by omega
      by_cases hf : fnd s 32 = true
      · by_cases hcmp : (wrd s 32 == dec (chk n (rst s 32))) = true
        · have hjok : jok n s = true := by unfold jok; rw [hf, hcmp]; rfl
          obtain ⟨H, ap, vg, old, _⟩ := acc1 (P := Tryd.prog) (ro := ro) (T := 24) (h := h') (v := .string ⟨⟨rst s 32⟩⟩) tel24 tsz9 tby9 tze9 (.inl hY) (by omega) hl2 rfl (by omega) (by omega)
          have pfH : Pfx h H := old.1 h hp (Nat.le_refl _)
          have hJ3 := hJ.step hjok
          rw [hsl] at hJ3
          have vg' : VG h.length 9 1 H (.slice (some ⟨h'.length + 1, 0, none⟩) (A.length + 1) (A.length + 1 + 1)) (A ++ [rst s 32]).length ((A ++ [rst s 32]).map strv) := by
            rw [List.length_append, List.map_append]
            exact vg
          (repeat' first | simp -dsimp (disch := first | omega | assumption | (refine OkS.sto ?_ (by omega); first | assumption | (refine OkS.sto ?_ (by omega); first | assumption | (refine OkS.sto ?_ (by omega); first | assumption | (refine OkS.sto ?_ (by omega); first | assumption | (refine OkS.sto ?_ (by omega); first | assumption | (refine OkS.sto ?_ (by omega); first | assumption)))))) | exact Pfx.refl _ | (apply Pfx.snoc; repeat (first | exact Pfx.refl _ | assumption | apply Pfx.snoc)) | with_unfolding_all exact of_eq_true (eq_true rfl) | (simp only [List.length_append, List.length_cons, List.length_nil]; omega)) only [↓wpre0, ↓wpre1, ↓reduceIte, Int.reduceToNat, Nat.reduceAdd, Nat.reduceMul, Nat.reduceEqDiff, wpost0, wpost1, wpost2, wpost3, wpost4, ite_self, ite_true, ite_false, if_true, if_false, xbls24_0, xbls24_1, sl_bl Tryd.underlying9, slo_bl Tryd.underlying9, shi_bl Tryd.underlying9, bin_lss, bin_add, un_not, sneq_bl, fr20, wrap_int, wrap_u8, iteP_yes, iteP_no, g0, g4, g5, g6, idx10_r hx, Int.toNat_natCast, hj, e4, e5, hs, Cut_r hx, CheckOf_r hx hn, hf, Decimal_r hx, hcmp, ap] | refine iteP_two (fun hc hd => ?_) (fun hc hd => ?_) | refine iteP_intro (fun hc => ?_) (fun hc => ?_))
          exact ⟨_, by omega, a + (j + 1), G, _, _, _, rfl, by omega, by simp; omega, by omega, pfH, hck, rfl, rfl, by rw [show (a : Int) + ((j : Int) + 1) = ((a + (j + 1) : Nat) : Int) by omega], vg', hJ3⟩
        · have hcmp' : (wrd s 32 == dec (chk n (rst s 32))) = false := by simpa using hcmp
          have hjok : jok n s = false := by unfold jok; rw [hf, hcmp']; rfl
          have hr := hJ.stop hjok
          have hnf : Sim.flat (.tuple ⟨[y, .int .i64 a]⟩) = false := by obtain ⟨_, b, cap, rfl, _⟩ := hY; rfl
          (repeat' first | simp -dsimp (disch := first | omega | assumption | (refine OkS.sto ?_ (by omega); first | assumption | (refine OkS.sto ?_ (by omega); first | assumption | (refine OkS.sto ?_ (by omega); first | assumption | (refine OkS.sto ?_ (by omega); first | assumption | (refine OkS.sto ?_ (by omega); first | assumption | (refine OkS.sto ?_ (by omega); first | assumption)))))) | exact Pfx.refl _ | (apply Pfx.snoc; repeat (first | exact Pfx.refl _ | assumption | apply Pfx.snoc)) | with_unfolding_all exact of_eq_true (eq_true rfl) | (simp only [List.length_append, List.length_cons, List.length_nil]; omega)) only [↓wpre0, ↓wpre1, ↓reduceIte, Int.reduceToNat, Nat.reduceAdd, Nat.reduceMul, Nat.reduceEqDiff, wpost0, wpost1, wpost2, wpost3, wpost4, ite_self, ite_true, ite_false, if_true, if_false, xbls24_0, xbls24_1, sl_bl Tryd.underlying9, slo_bl Tryd.underlying9, shi_bl Tryd.underlying9, bin_lss, bin_add, un_not, sneq_bl, fr20, wrap_int, wrap_u8, iteP_yes, iteP_no, g0, g4, g5, g6, idx10_r hx, Int.toNat_natCast, hj, e4, e5, hs, Cut_r hx, CheckOf_r hx hn, hf, Decimal_r hx, hcmp', endH_not hnf] | refine iteP_two (fun hc hd => ?_) (fun hc hd => ?_) | refine iteP_intro (fun hc => ?_) (fun hc => ?_))
          exact ⟨hp, y, by rw [hr], by rw [hr]; exact hY⟩
      · have hf' : fnd s 32 = false := by simpa using hf
        have hjok : jok n s = false := by unfold jok; rw [hf']; rfl
        have hr := hJ.stop hjok
        have hnf : Sim.flat (.tuple ⟨[y, .int .i64 a]⟩) = false := by obtain ⟨_, b, cap, rfl, _⟩ := hY; rfl
        (repeat' first | simp -dsimp (disch := first | omega | assumption | (refine OkS.sto ?_ (by omega); first | assumption | (refine OkS.sto ?_ (by omega); first | assumption | (refine OkS.sto ?_ (by omega); first | assumption | (refine OkS.sto ?_ (by omega); first | assumption | (refine OkS.sto ?_ (by omega); first | assumption | (refine OkS.sto ?_ (by omega); first | assumption)))))) | exact Pfx.refl _ | (apply Pfx.snoc; repeat (first | exact Pfx.refl _ | assumption | apply Pfx.snoc)) | with_unfolding_all exact of_eq_true (eq_true rfl) | (simp only [List.length_append, List.length_cons, List.length_nil]; omega)) only [↓wpre0, ↓wpre1, ↓reduceIte, Int.reduceToNat, Nat.reduceAdd, Nat.reduceMul, Nat.reduceEqDiff, wpost0, wpost1, wpost2, wpost3, wpost4, ite_self, ite_true, ite_false, if_true, if_false, xbls24_0, xbls24_1, sl_bl Tryd.underlying9, slo_bl Tryd.underlying9, shi_bl Tryd.underlying9, bin_lss, bin_add, un_not, sneq_bl, fr20, wrap_int, wrap_u8, iteP_yes, iteP_no, g0, g4, g5, g6, idx10_r hx, Int.toNat_natCast, hj, e4, e5, hs, Cut_r hx, CheckOf_r hx hn, hf', Decimal_r hx, endH_not hnf] | refine iteP_two (fun hc hd => ?_) (fun hc hd => ?_) | refine iteP_intro (fun hc => ?_) (fun hc => ?_))
        exact ⟨hp, y, by rw [hr], by rw [hr]; exact hY⟩
theorem iRecover_c (hx : XD X) {t : List UInt8} {h : Heap} (hl : t.length ≤ 1048576) (hro : ro ≤ h.length) :
    CallR Tryd.prog ro X 9 [.string ⟨⟨t⟩⟩] h (fun r h' => RJ t h h' r) := by
  have hX := hx.n
  refine callR_of (hX _ rfl) Tryd.func9 rfl (by kernel_rfl) (Nat.le_of_ble_eq_true rfl) ?_
  rcases Nat.lt_or_ge 6000 t.length with ht | ht
  · have e1 : jrn t = ([], 0) := if_neg (by omega)
    (repeat' first | simp -dsimp (disch := first | omega | assumption | (refine OkS.sto ?_ (by omega); first | assumption | (refine OkS.sto ?_ (by omega); first | assumption | (refine OkS.sto ?_ (by omega); first | assumption | (refine OkS.sto ?_ (by omega); first | assumption | (refine OkS.sto ?_ (by omega); first | assumption | (refine OkS.sto ?_ (by omega); first | assumption)))))) | exact Pfx.refl _ | (apply Pfx.snoc; repeat (first | exact Pfx.refl _ | assumption | apply Pfx.snoc)) | with_unfolding_all exact of_eq_true (eq_true rfl) | (simp only [List.length_append, List.length_cons, List.length_nil]; omega)) only [↓wpre0, ↓wpre1, ↓reduceIte, Int.reduceToNat, Nat.reduceAdd, Nat.reduceMul, Nat.reduceEqDiff, wpost0, wpost1, wpost2, wpost3, wpost4, ite_self, ite_true, ite_false, if_true, if_false, len_bl Tryd.underlying9, bin_gtr, fr9, wrap_int, wrap_u8, iteP_yes, iteP_no] | refine iteP_two (fun hc hd => ?_) (fun hc hd => ?_) | refine iteP_intro (fun hc => ?_) (fun hc => ?_))
    refine ⟨Pfx.refl h, _, by rw [e1, decide_eq_false (by omega)]; rfl, ?_⟩
    rw [e1]
    exact ⟨rfl, .inl ⟨rfl, rfl⟩⟩
  · have ej : jrn t = recS 0 (lns (t.length + 1) t) := if_pos ht
    (repeat' first | simp -dsimp (disch := first | omega | assumption | (refine OkS.sto ?_ (by omega); first | assumption | (refine OkS.sto ?_ (by omega); first | assumption | (refine OkS.sto ?_ (by omega); first | assumption | (refine OkS.sto ?_ (by omega); first | assumption | (refine OkS.sto ?_ (by omega); first | assumption | (refine OkS.sto ?_ (by omega); first | assumption)))))) | exact Pfx.refl _ | (apply Pfx.snoc; repeat (first | exact Pfx.refl _ | assumption | apply Pfx.snoc)) | with_unfolding_all exact of_eq_true (eq_true rfl) | (simp only [List.length_append, List.length_cons, List.length_nil]; omega)) only [↓wpre0, ↓wpre1, ↓reduceIte, Int.reduceToNat, Nat.reduceAdd, Nat.reduceMul, Nat.reduceEqDiff, wpost0, wpost1, wpost2, wpost3, wpost4, ite_self, ite_true, ite_false, if_true, if_false, len_bl Tryd.underlying9, bin_gtr, fr9, wrap_int, wrap_u8, iteP_yes, iteP_no] | refine iteP_two (fun hc hd => ?_) (fun hc hd => ?_) | refine iteP_intro (fun hc => ?_) (fun hc => ?_))
    refine cf_rel (recovered_c hx ht hro) (fun q => by cases q) ?_
    rintro r h1 ⟨p1, x, rfl, hV⟩
    have hle := recS_len 0 (lns (t.length + 1) t)
    have hww := wei_lns (t.length + 1) t
    have hnf : ∀ k, Sim.flat (.tuple ⟨[x, .int .i64 k, .bool true]⟩) = false := fun k => by obtain ⟨_, b, cap, rfl, _⟩ := hV; rfl
    (repeat' first | simp -dsimp (disch := first | omega | assumption | (refine OkS.sto ?_ (by omega); first | assumption | (refine OkS.sto ?_ (by omega); first | assumption | (refine OkS.sto ?_ (by omega); first | assumption | (refine OkS.sto ?_ (by omega); first | assumption | (refine OkS.sto ?_ (by omega); first | assumption | (refine OkS.sto ?_ (by omega); first | assumption)))))) | exact Pfx.refl _ | (apply Pfx.snoc; repeat (first | exact Pfx.refl _ | assumption | apply Pfx.snoc)) | with_unfolding_all exact of_eq_true (eq_true rfl) | (simp only [List.length_append, List.length_cons, List.length_nil]; omega)) only [↓wpre0, ↓wpre1, ↓reduceIte, Int.reduceToNat, Nat.reduceAdd, Nat.reduceMul, Nat.reduceEqDiff, wpost0, wpost1, wpost2, wpost3, wpost4, ite_self, ite_true, ite_false, if_true, if_false, len_bl Tryd.underlying9, bin_gtr, fr9, wrap_int, wrap_u8, iteP_yes, iteP_no, endH_not (hnf _)] | refine iteP_two (fun hc hd => ?_) (fun hc hd => ?_) | refine iteP_intro (fun hc => ?_) (fun hc => ?_))
    refine ⟨p1, x, ?_, ?_⟩
    · rw [ej, decide_eq_true ht]
    · rw [ej]; exact hV.vsl
theorem jrn_len (t : List UInt8) : (jrn t).1.length ≤ t.length := by
  unfold jrn
  split
  · have := recS_le 0 (lns (t.length + 1) t)
    have := lns_le (t.length + 1) t
    omega
  · simp
theorem tabB_of {W : World} (h : Lib.TabIs Tryd.prog W "internal/strconv.uint64pow10" .u64 Lib.pow10Tab) : TabB (baseOf W) := by
  intro w hw
  have hg : Tryd.prog.globalNamed "internal/strconv.uint64pow10" = some 1 := by kernel_rfl
  unfold Lib.TabIs World.var? at h ⊢
  rw [hg] at h ⊢
  simp only [Option.bind_some] at h ⊢
  have hlt : 1 < W.heap.size := by
    rcases Nat.lt_or_ge 1 W.heap.size with q | q
    · exact q
    · rw [Array.getElem?_eq_none q] at h; cases h
  have e : w.heap[1]? = W.heap[1]? := hw 1 hlt
  rw [e]
  exact h
end Go.Proofs.YtikanmboimjhgaaDoor.Sim
