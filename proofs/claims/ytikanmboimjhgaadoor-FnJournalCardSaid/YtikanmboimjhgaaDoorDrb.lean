/- Check numbers and numerals of texts. Lemmas only; no condition. -/
import Derived.Test.YtikanmboimjhgaaDoorDra
import Derived.Test.YtikanmboimjhgaaDoorAcc
set_option linter.unusedSimpArgs false
set_option linter.unusedVariables false
set_option maxRecDepth 8000
namespace Go.Proofs.YtikanmboimjhgaaDoor.Sim
open Go Go.RowKit
variable {ro : Nat} {X : Ext}
theorem within_r (hx : XD X) (a b c : Int) (h : Heap) : Ret Tryd.prog ro X 29 [.int .i64 a, .int .i64 b, .int .i64 c] h (.bool (decide (b ≤ a) && decide (a ≤ c))) := by
  have hX := hx.n
  refine ret_of (callR_of (hX _ rfl) Tryd.func29 rfl (by kernel_rfl) (Nat.le_of_ble_eq_true rfl) ?_)
  (repeat' first | simp -dsimp (disch := first | omega | assumption | (refine OkS.sto ?_ (by omega); first | assumption | (refine OkS.sto ?_ (by omega); first | assumption | (refine OkS.sto ?_ (by omega); first | assumption | (refine OkS.sto ?_ (by omega); first | assumption | (refine OkS.sto ?_ (by omega); first | assumption | (refine OkS.sto ?_ (by omega); first | assumption)))))) | exact Pfx.refl _ | (apply Pfx.snoc; repeat (first | exact Pfx.refl _ | assumption | apply Pfx.snoc)) | with_unfolding_all exact of_eq_true (eq_true rfl) | (simp only [List.length_append, List.length_cons, List.length_nil]; omega)) only [↓wpre0, ↓wpre1, ↓reduceIte, Int.reduceToNat, Nat.reduceAdd, Nat.reduceMul, Nat.reduceEqDiff, wpost0, wpost1, wpost2, wpost3, wpost4, ite_self, ite_true, ite_false, if_true, if_false, bin_geq, bin_leq, fr29, wrap_int, wrap_u8, iteP_yes, iteP_no] | refine iteP_two (fun hc hd => ?_) (fun hc hd => ?_) | refine iteP_intro (fun hc => ?_) (fun hc => ?_))
  all_goals first | (simp_all; done) | (simp_all; omega) | skip
/-- The check number of bytes. -/
def chk (n : Int) (l : List UInt8) : Int := l.foldl (fun n b => (641 * n + (b.toNat : Int) + 27) % 65003) n
theorem chk_range {n : Int} (h : 0 ≤ n ∧ n ≤ 65002) (l : List UInt8) : 0 ≤ chk n l ∧ chk n l ≤ 65002 := by
  induction l generalizing n with
  | nil => exact h
  | cons b r ih =>
    have h2 : 0 ≤ (641 * n + (b.toNat : Int) + 27) % 65003 ∧ (641 * n + (b.toNat : Int) + 27) % 65003 ≤ 65002 := by omega
    exact ih h2
theorem chk_snoc (n : Int) (l : List UInt8) {i : Nat} (hi : i < l.length) : chk n (l.take (i + 1)) = (641 * chk n (l.take i) + bth l i + 27) % 65003 := by
  unfold chk
  rw [List.take_succ_eq_append_getElem hi, List.foldl_append]
  simp [bth, hi]
theorem tmod_pos {a b : Int} (h : 0 ≤ a) : a.tmod b = a % b := Int.tmod_eq_emod_of_nonneg h
theorem CheckOf_r (hx : XD X) {n : Int} {l : List UInt8} {h : Heap} (hn : 0 ≤ n ∧ n ≤ 65002) (hl : l.length ≤ 1099511627776) : Ret Tryd.prog ro X 15 [.int .i64 n, .string ⟨⟨l⟩⟩] h (.tuple ⟨[.int .i64 (chk n l), .bool true]⟩) := by
  have hn0 := hn.1
  have hn1 := hn.2
  have hX := hx.n
  refine ret_of (callR_of (hX _ rfl) Tryd.func15 rfl (by kernel_rfl) (Nat.le_of_ble_eq_true rfl) ?_)
  (repeat' first | simp -dsimp (disch := first | omega | assumption | (refine OkS.sto ?_ (by omega); first | assumption | (refine OkS.sto ?_ (by omega); first | assumption | (refine OkS.sto ?_ (by omega); first | assumption | (refine OkS.sto ?_ (by omega); first | assumption | (refine OkS.sto ?_ (by omega); first | assumption | (refine OkS.sto ?_ (by omega); first | assumption)))))) | exact Pfx.refl _ | (apply Pfx.snoc; repeat (first | exact Pfx.refl _ | assumption | apply Pfx.snoc)) | with_unfolding_all exact of_eq_true (eq_true rfl) | (simp only [List.length_append, List.length_cons, List.length_nil]; omega)) only [↓wpre0, ↓wpre1, ↓reduceIte, Int.reduceToNat, Nat.reduceAdd, Nat.reduceMul, Nat.reduceEqDiff, wpost0, wpost1, wpost2, wpost3, wpost4, ite_self, ite_true, ite_false, if_true, if_false, un_not, len_bl Tryd.underlying9, bin_lss, bin_mul, idx_bl Tryd.underlying9, xcv5_2, bin_add, bin_rem, fr15, wrap_int, wrap_u8, iteP_yes, iteP_no, within_r hx, hn0, hn1, decide_true] | refine iteP_two (fun hc hd => ?_) (fun hc hd => ?_) | refine iteP_intro (fun hc => ?_) (fun hc => ?_))
  refine loop_rounds (fun m e h' => ∃ i : Nat, m = l.length - i ∧ i ≤ l.length ∧ h' = h ∧ e 0 = .int .i64 (chk n (l.take i)) ∧ e 1 = .string ⟨⟨l⟩⟩ ∧ e 11 = .int .i64 l.length ∧ e 12 = .int .i64 i) _ ⟨0, rfl, ?_⟩ ?_
  · simp only [updO_at, updO_not, entry_at, List.getD_cons_zero, List.getD_cons_succ, ↓reduceIte, Nat.reduceEqDiff, true_and, and_true]
    exact ⟨by omega, rfl, rfl⟩
  · rintro m e h' ⟨i, hm, hle, rfl, g0, g1, g11, g12⟩
    have hc := chk_range hn (l.take i)
    have hb := bth_range l i
    by_cases hin : i < l.length
    · (repeat' first | simp -dsimp (disch := first | omega | assumption | (refine OkS.sto ?_ (by omega); first | assumption | (refine OkS.sto ?_ (by omega); first | assumption | (refine OkS.sto ?_ (by omega); first | assumption | (refine OkS.sto ?_ (by omega); first | assumption | (refine OkS.sto ?_ (by omega); first | assumption | (refine OkS.sto ?_ (by omega); first | assumption)))))) | exact Pfx.refl _ | (apply Pfx.snoc; repeat (first | exact Pfx.refl _ | assumption | apply Pfx.snoc)) | with_unfolding_all exact of_eq_true (eq_true rfl) | (simp only [List.length_append, List.length_cons, List.length_nil]; omega)) only [↓wpre0, ↓wpre1, ↓reduceIte, Int.reduceToNat, Nat.reduceAdd, Nat.reduceMul, Nat.reduceEqDiff, wpost0, wpost1, wpost2, wpost3, wpost4, ite_self, ite_true, ite_false, if_true, if_false, un_not, len_bl Tryd.underlying9, bin_lss, bin_mul, idx_bl Tryd.underlying9, xcv5_2, bin_add, bin_rem, fr15, wrap_int, wrap_u8, iteP_yes, iteP_no, g0, g1, g11, g12, tmod_pos, bin_rem] | refine iteP_two (fun hc hd => ?_) (fun hc hd => ?_) | refine iteP_intro (fun hc => ?_) (fun hc => ?_))
      refine ⟨_, by omega, i + 1, rfl, by omega, ?_, by simp⟩
      rw [chk_snoc n l hin]
    · have : i = l.length := by omega
      subst this
      rw [List.take_length] at g0
      (repeat' first | simp -dsimp (disch := first | omega | assumption | (refine OkS.sto ?_ (by omega); first | assumption | (refine OkS.sto ?_ (by omega); first | assumption | (refine OkS.sto ?_ (by omega); first | assumption | (refine OkS.sto ?_ (by omega); first | assumption | (refine OkS.sto ?_ (by omega); first | assumption | (refine OkS.sto ?_ (by omega); first | assumption)))))) | exact Pfx.refl _ | (apply Pfx.snoc; repeat (first | exact Pfx.refl _ | assumption | apply Pfx.snoc)) | with_unfolding_all exact of_eq_true (eq_true rfl) | (simp only [List.length_append, List.length_cons, List.length_nil]; omega)) only [↓wpre0, ↓wpre1, ↓reduceIte, Int.reduceToNat, Nat.reduceAdd, Nat.reduceMul, Nat.reduceEqDiff, wpost0, wpost1, wpost2, wpost3, wpost4, ite_self, ite_true, ite_false, if_true, if_false, un_not, len_bl Tryd.underlying9, bin_lss, bin_mul, idx_bl Tryd.underlying9, xcv5_2, bin_add, bin_rem, fr15, wrap_int, wrap_u8, iteP_yes, iteP_no, g0, g1, g11, g12] | refine iteP_two (fun hc hd => ?_) (fun hc hd => ?_) | refine iteP_intro (fun hc => ?_) (fun hc => ?_))
/-- The numeral of a number that is not negative. -/
def dec (n : Int) : List UInt8 := Lib.decDigits n.toNat
theorem dec_pos (n : Int) : 1 ≤ (dec n).length := by unfold dec; rw [Lib.decDigits_length]; exact Lib.nDigits_pos _
theorem nDigits_le : ∀ (k u : Nat), u < 10 ^ (k + 1) → Lib.nDigits u ≤ k + 1
  | 0, u, h => by rw [Lib.nDigits_small (by simpa using h)]; omega
  | k + 1, u, h => by
    by_cases q : u < 10
    · rw [Lib.nDigits_small q]; omega
    · rw [Lib.nDigits_big q]
      have := nDigits_le k (u / 10) (by rw [Nat.pow_succ] at h; omega)
      omega
theorem dec_le {n : Int} (h : n ≤ 65002) : (dec n).length ≤ 5 := by
  unfold dec
  rw [Lib.decDigits_length]
  exact nDigits_le 4 _ (by omega)
theorem Decimal_r (hx : XD X) {n : Int} (h0 : 0 ≤ n) (h1 : n ≤ 1099511627776) (h : Heap) : Ret Tryd.prog ro X 17 [.int .i64 n] h (.string ⟨⟨dec n⟩⟩) := by
  have e : Lib.itoa n = dec n := by unfold Lib.itoa dec; rw [if_neg (by omega)]
  have hX := hx.n
  refine ret_of (callR_of (hX _ rfl) Tryd.func17 rfl (by kernel_rfl) (Nat.le_of_ble_eq_true rfl) ?_)
  (repeat' first | simp -dsimp (disch := first | omega | assumption | (refine OkS.sto ?_ (by omega); first | assumption | (refine OkS.sto ?_ (by omega); first | assumption | (refine OkS.sto ?_ (by omega); first | assumption | (refine OkS.sto ?_ (by omega); first | assumption | (refine OkS.sto ?_ (by omega); first | assumption | (refine OkS.sto ?_ (by omega); first | assumption)))))) | exact Pfx.refl _ | (apply Pfx.snoc; repeat (first | exact Pfx.refl _ | assumption | apply Pfx.snoc)) | with_unfolding_all exact of_eq_true (eq_true rfl) | (simp only [List.length_append, List.length_cons, List.length_nil]; omega)) only [↓wpre0, ↓wpre1, ↓reduceIte, Int.reduceToNat, Nat.reduceAdd, Nat.reduceMul, Nat.reduceEqDiff, wpost0, wpost1, wpost2, wpost3, wpost4, ite_self, ite_true, ite_false, if_true, if_false, fr17, wrap_int, wrap_u8, iteP_yes, iteP_no, fmt_r hx, e] | refine iteP_two (fun hc hd => ?_) (fun hc hd => ?_) | refine iteP_intro (fun hc => ?_) (fun hc => ?_))
def DI (n r : Nat) (L : List UInt8) : Prop := (L = [] ∧ r = n) ∨ (L ≠ [] ∧ Lib.decDigits n = (if r = 0 then [] else Lib.decDigits r) ++ L)
theorem DI.step {n r : Nat} {L : List UInt8} (d : DI n r L) (h : L = [] ∨ r ≠ 0) : DI n (r / 10) (UInt8.ofNat (48 + r % 10) :: L) := by
  refine .inr ⟨by simp, ?_⟩
  have key : Lib.decDigits r = (if r / 10 = 0 then [] else Lib.decDigits (r / 10)) ++ [UInt8.ofNat (48 + r % 10)] := by
    by_cases q : r < 10
    · rw [if_pos (by omega), Lib.decDigits_one q, Nat.mod_eq_of_lt q, List.nil_append]
    · rw [if_neg (by omega), Lib.decDigits, dif_neg q]
  rcases d with ⟨rfl, rfl⟩ | ⟨hL, e⟩
  · exact key
  · have hr : r ≠ 0 := h.resolve_left hL
    rw [e, if_neg hr, key, List.append_assoc, List.singleton_append]
theorem DI.done {n : Nat} {L : List UInt8} (d : DI n 0 L) (h : L ≠ []) : L = Lib.decDigits n := by
  rcases d with ⟨rfl, _⟩ | ⟨_, e⟩
  · exact absurd rfl h
  · rw [e, if_pos rfl, List.nil_append]
theorem dig_v (r : Nat) : IntKind.u8.wrap (48 + ((r % 10 : Nat) : Int)) = ((UInt8.ofNat (48 + r % 10)).toNat : Int) := by
  simp only [IntKind.wrap, IntKind.bits, IntKind.signed, Bool.false_and, Bool.false_eq_true, if_false]
  rw [UInt8.toNat_ofNat']
  omega
theorem rem10 (r : Nat) : (r : Int).tmod 10 = ((r % 10 : Nat) : Int) := by rw [tmod_pos (by omega)]; omega
theorem quo10 (r : Nat) : (r : Int).tdiv 10 = ((r / 10 : Nat) : Int) := by rw [Int.tdiv_eq_ediv_of_nonneg (by omega)]; omega
theorem l01Dec_r (hx : XD X) {n : Int} {h : Heap} (h0 : 0 ≤ n) (h1 : n ≤ 1099511627776) (hro : ro ≤ h.length) :
    Ret Tryd.prog ro X 24 [.int .i64 n] h (.string ⟨⟨dec n⟩⟩) := by
  obtain ⟨k, rfl⟩ : ∃ k : Nat, n = k := ⟨n.toNat, by omega⟩
  have hX := hx.n
  refine ret_of (callR_of (hX _ rfl) Tryd.func24 rfl (by kernel_rfl) (Nat.le_of_ble_eq_true rfl) ?_)
  (repeat' first | simp -dsimp (disch := first | omega | assumption | (refine OkS.sto ?_ (by omega); first | assumption | (refine OkS.sto ?_ (by omega); first | assumption | (refine OkS.sto ?_ (by omega); first | assumption | (refine OkS.sto ?_ (by omega); first | assumption | (refine OkS.sto ?_ (by omega); first | assumption | (refine OkS.sto ?_ (by omega); first | assumption)))))) | exact Pfx.refl _ | (apply Pfx.snoc; repeat (first | exact Pfx.refl _ | assumption | apply Pfx.snoc)) | with_unfolding_all exact of_eq_true (eq_true rfl) | (simp only [List.length_append, List.length_cons, List.length_nil]; omega)) only [↓wpre0, ↓wpre1, ↓reduceIte, Int.reduceToNat, Nat.reduceAdd, Nat.reduceMul, Nat.reduceEqDiff, wpost0, wpost1, wpost2, wpost3, wpost4, ite_self, ite_true, ite_false, if_true, if_false, xbls22_0, xbls22_1, xlen22, bin_eql, bin_neq, bin_rem, bin_lss, un_neg, bin_add, xcv2_5, bin_quo, fr24, wrap_int, wrap_u8, iteP_yes, iteP_no] | refine iteP_two (fun hc hd => ?_) (fun hc hd => ?_) | refine iteP_intro (fun hc => ?_) (fun hc => ?_))
  refine loop_exit 0 (fun e2 h2 => ∃ y, e2 0 = .int .i64 k ∧ e2 3 = y ∧ Pfx h h2 ∧ VG h.length 5 1 h2 y (dec k).length ((dec k).map u8v)) ?_ ?_
  · refine loop_rounds (fun m e h' => ∃ (r : Nat) (L : List UInt8) (y : Value), m = r + (if L = [] then 1 else 0) ∧ DI k r L ∧ L.length ≤ 20 + k - r ∧ r ≤ k ∧ Pfx h h' ∧ e 0 = .int .i64 k ∧ e 3 = y ∧ e 4 = .int .i64 r ∧ VG h.length 5 1 h' y L.length (L.map u8v)) _ ⟨k, [], .slice (some ⟨h.length, 0, none⟩) 0 0, rfl, ?_⟩ ?_
    · simp only [updO_at, updO_not, entry_at, List.getD_cons_zero, List.getD_cons_succ, ↓reduceIte, Nat.reduceEqDiff, true_and, and_true]
      exact ⟨.inl ⟨rfl, rfl⟩, by simp, Nat.le_refl _, (Pfx.refl h).snoc, vg_new h (Nat.le_refl _)⟩
    · rintro m e h' ⟨r, L, y, hm, hD, hL, hrk, hp, g0, g3, g4, hY⟩
      have hl := hp.len
      by_cases hin : L = [] ∨ r ≠ 0
      · have hdz := dig_v r
        have hrem := rem10 r
        have hquo := quo10 r
        have p1 : Pfx h' (h' ++ [(⟨5, [u8v (UInt8.ofNat (48 + r % 10))]⟩ : Blk)]) := (Pfx.refl h').snoc
        have hYs := (hY.vsl.pre p1).news
        obtain ⟨x, H, ap, _, old, _, vg⟩ := accS (P := Tryd.prog) (ro := ro) (T := 22) (u := 22) (lo := h'.length) (n := 1) (m := L.length) (h := h' ++ [(⟨5, [u8v (UInt8.ofNat (48 + r % 10))]⟩ : Blk)]) (x := .slice (some ⟨h'.length, 0, none⟩) 1 1) tel22 tsz5 tby5 tze5 (by decide) (.inl rfl) (.inl (vg_lit h' (Nat.le_refl _) rfl)) (by omega) (by simp) hYs.1 hYs.2 (by simp) (one_u8 L) (by omega) (by omega)
        have vg2 := vg (vg_lit h' (Nat.le_refl _) rfl)
        have cnd : (decide ((L.length : Int) = 0) || !decide ((r : Int) = 0)) = true := by
          rcases hin with rfl | q
          · rfl
          · rw [decide_eq_false (p := ((r : Int) = 0)) (by omega)]; simp
        have e1 : h'.length + 1 ≤ H.length := by have := old.2.2; rw [List.length_append, List.length_singleton] at this; exact this
        simp only [u8v] at ap
        have hdiv : r / 10 ≤ r := Nat.div_le_self _ _
        have hmz : r / 10 + (if UInt8.ofNat (48 + r % 10) :: L = [] then 1 else 0) < m := by
          rw [if_neg (by simp), hm]
          rcases hin with rfl | q
          · rw [if_pos rfl]; omega
          · omega
        have hLL : (UInt8.ofNat (48 + r % 10) :: L).length ≤ 20 + k - r / 10 := by
          rw [List.length_cons]
          rcases hin with rfl | q
          · simp; omega
          · omega
        have vg3 : VG h.length 5 1 H x (UInt8.ofNat (48 + r % 10) :: L).length ((UInt8.ofNat (48 + r % 10) :: L).map u8v) := by
          have := vg2.low hl
          rw [Nat.add_comm] at this
          exact this
        (repeat' first | simp -dsimp (disch := first | omega | assumption | (refine OkS.sto ?_ (by omega); first | assumption | (refine OkS.sto ?_ (by omega); first | assumption | (refine OkS.sto ?_ (by omega); first | assumption | (refine OkS.sto ?_ (by omega); first | assumption | (refine OkS.sto ?_ (by omega); first | assumption | (refine OkS.sto ?_ (by omega); first | assumption)))))) | exact Pfx.refl _ | (apply Pfx.snoc; repeat (first | exact Pfx.refl _ | assumption | apply Pfx.snoc)) | with_unfolding_all exact of_eq_true (eq_true rfl) | (simp only [List.length_append, List.length_cons, List.length_nil]; omega)) only [↓wpre0, ↓wpre1, ↓reduceIte, Int.reduceToNat, Nat.reduceAdd, Nat.reduceMul, Nat.reduceEqDiff, wpost0, wpost1, wpost2, wpost3, wpost4, ite_self, ite_true, ite_false, if_true, if_false, xbls22_0, xbls22_1, xlen22, bin_eql, bin_neq, bin_rem, bin_lss, un_neg, bin_add, xcv2_5, bin_quo, fr24, wrap_int, wrap_u8, iteP_yes, iteP_no, g0, g3, g4, hY.vs.len Tryd.underlying22, cnd, hrem, hquo, hdz, ap, bin_rem, bin_quo] | refine iteP_two (fun hc hd => ?_) (fun hc hd => ?_) | refine iteP_intro (fun hc => ?_) (fun hc => ?_))
        all_goals first
          | exact ⟨_, hmz, _, _, _, rfl, hD.step hin, hLL, by omega, old.1 h (hp.trans p1) hl, rfl, rfl, vg3⟩
          | (exfalso
             rcases hin with rfl | q
             · simp_all
             · simp_all)
      · have hL0 : L ≠ [] := fun q => hin (.inl q)
        have hr0 : r = 0 := by
          rcases Nat.eq_zero_or_pos r with q | q
          · exact q
          · exact absurd (.inr (by omega)) hin
        subst hr0
        have hLp : L.length ≠ 0 := fun q => hL0 (List.length_eq_zero_iff.1 q)
        obtain rfl : L = dec k := hD.done hL0
        (repeat' first | simp -dsimp (disch := first | omega | assumption | (refine OkS.sto ?_ (by omega); first | assumption | (refine OkS.sto ?_ (by omega); first | assumption | (refine OkS.sto ?_ (by omega); first | assumption | (refine OkS.sto ?_ (by omega); first | assumption | (refine OkS.sto ?_ (by omega); first | assumption | (refine OkS.sto ?_ (by omega); first | assumption)))))) | exact Pfx.refl _ | (apply Pfx.snoc; repeat (first | exact Pfx.refl _ | assumption | apply Pfx.snoc)) | with_unfolding_all exact of_eq_true (eq_true rfl) | (simp only [List.length_append, List.length_cons, List.length_nil]; omega)) only [↓wpre0, ↓wpre1, ↓reduceIte, Int.reduceToNat, Nat.reduceAdd, Nat.reduceMul, Nat.reduceEqDiff, wpost0, wpost1, wpost2, wpost3, wpost4, ite_self, ite_true, ite_false, if_true, if_false, xbls22_0, xbls22_1, xlen22, bin_eql, bin_neq, bin_rem, bin_lss, un_neg, bin_add, xcv2_5, bin_quo, fr24, wrap_int, wrap_u8, iteP_yes, iteP_no, g0, g3, g4, hY.vs.len Tryd.underlying22] | refine iteP_two (fun hc hd => ?_) (fun hc hd => ?_) | refine iteP_intro (fun hc => ?_) (fun hc => ?_))
        exact ⟨_, rfl, hp, hY⟩
  · rintro e2 h2 ⟨y, g0, rfl, hp, hY⟩
    (repeat' first | simp -dsimp (disch := first | omega | assumption | (refine OkS.sto ?_ (by omega); first | assumption | (refine OkS.sto ?_ (by omega); first | assumption | (refine OkS.sto ?_ (by omega); first | assumption | (refine OkS.sto ?_ (by omega); first | assumption | (refine OkS.sto ?_ (by omega); first | assumption | (refine OkS.sto ?_ (by omega); first | assumption)))))) | exact Pfx.refl _ | (apply Pfx.snoc; repeat (first | exact Pfx.refl _ | assumption | apply Pfx.snoc)) | with_unfolding_all exact of_eq_true (eq_true rfl) | (simp only [List.length_append, List.length_cons, List.length_nil]; omega)) only [↓wpre0, ↓wpre1, ↓reduceIte, Int.reduceToNat, Nat.reduceAdd, Nat.reduceMul, Nat.reduceEqDiff, wpost0, wpost1, wpost2, wpost3, wpost4, ite_self, ite_true, ite_false, if_true, if_false, xbls22_0, xbls22_1, xlen22, bin_eql, bin_neq, bin_rem, bin_lss, un_neg, bin_add, xcv2_5, bin_quo, fr24, wrap_int, wrap_u8, iteP_yes, iteP_no, g0, conv_bytes Tryd.underlying22 Tryd.underlying9 tbt5 hY.vs] | refine iteP_two (fun hc hd => ?_) (fun hc hd => ?_) | refine iteP_intro (fun hc => ?_) (fun hc => ?_))
/-- The text that marks place number 'c'. -/
def mkT (c : Nat) : List UInt8 := 109 :: Lib.decDigits c
/-- Texts as cells. -/
def strv (s : List UInt8) : Value := .string ⟨⟨s⟩⟩
def sth (l : List (List UInt8)) (i : Nat) : List UInt8 := l.getD i []
theorem vth_strv {l : List (List UInt8)} {i : Nat} (h : i < l.length) : vth (l.map strv) i = strv (sth l i) := by
  simp [vth, sth, strv, List.getD_eq_getElem?_getD, List.getElem?_map, h]
theorem one_strv (l : List (List UInt8)) : (l.map strv).all one = true := by
  rw [List.all_eq_true]
  intro v hv
  obtain ⟨b, _, rfl⟩ := List.mem_map.1 hv
  rfl
theorem ss_ld {lo hi n c : Nat} {h : Heap} {x : Value} {l : List (List UInt8)} {t : TypeId} (s : VS lo hi 1 h x n (l.map strv)) (hs : szT Tryd.prog t = some 1) (ha : aggT Tryd.prog t = false) (hc : c < n) : ld Tryd.prog h t (ea x c) = some (.string ⟨⟨sth l c⟩⟩) := by
  have hl := s.1
  rw [List.length_map] at hl
  rw [s.ld1 hs ha (by omega), vth_strv (by omega)]
  rfl
theorem take_sth {l l' : List (List UInt8)} {i : Nat} (h : l.take i = l'.take i) (h1 : i < l.length) (h2 : i < l'.length) (h3 : sth l i = sth l' i) : l.take (i + 1) = l'.take (i + 1) := by
  rw [List.take_succ_eq_append_getElem h1, List.take_succ_eq_append_getElem h2, h]
  simp [sth, h1, h2] at h3
  rw [h3]
theorem sth_mk {c n i : Nat} (h : i < n) : sth ((List.range n).map fun i => mkT (c + i)) i = mkT (c + i) := by
  simp [sth, List.getD_eq_getElem?_getD, List.getElem?_map, h]
/-- What a row of texts weighs. -/
def wei : List (List UInt8) → Nat
  | [] => 0
  | s :: r => s.length + wei r
theorem wei_snoc (l : List (List UInt8)) {i : Nat} (h : i < l.length) : wei (l.take (i + 1)) = wei (l.take i) + (sth l i).length := by
  rw [List.take_succ_eq_append_getElem h]
  have e : ∀ (a : List (List UInt8)) (b : List UInt8), wei (a ++ [b]) = wei a + b.length := by
    intro a b
    induction a with
    | nil => simp [wei]
    | cons s r ih => simp only [List.cons_append, wei, ih]; omega
  rw [e]
  simp [sth, h]
end Go.Proofs.YtikanmboimjhgaaDoor.Sim
