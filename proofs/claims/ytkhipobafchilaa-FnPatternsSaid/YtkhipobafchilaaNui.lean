
/- Grids of places, walked (as in XShf, for seats that do not lay that text). Lemmas only; no condition. -/
import Derived.Test.YtkhipobafchilaaSkf
import Derived.Test.YtkhipobafchilaaSqt
import Derived.Test.YtkhipobafchilaaPhy
set_option linter.unusedSimpArgs false
set_option linter.unusedVariables false
set_option maxRecDepth 8000
namespace Go.Proofs.Ytkhipobafchilaa.Sim
open Go Go.RowKit Fl
variable {ro lo hi n : Nat} {X : Ext} {h : Heap} {x y : Value} {l : List Int} {u v : Int}
theorem accP {P : Program} {lo n k e T by_ : Nat} {h : Heap} {x z : Value} {L M : List Value} (he : elemT P T = some e) (hs : szT P e = some k) (hb : byT P e = some by_) (hz : zeroT P e = some z) (hk : 0 < k) (g : VN lo e k h x n L) (hro : ro ≤ lo) (hlo : lo ≤ h.length)
    (hM : M.length = k) (h1 : M.all one = true) (hn : (n + 1) * by_ ≤ 140737488355328) (hn' : n + 1 ≤ 4611686018427387904) :
    ∃ H, ablt P ro .append [T, T] [x, .slice (some ⟨h.length, 0, none⟩) 1 1] (h ++ [⟨e, M⟩]) = some (.slice (some ⟨h.length + 1, 0, none⟩) (n + 1) (n + 1 + 1), H) ∧ VG lo e k H (.slice (some ⟨h.length + 1, 0, none⟩) (n + 1) (n + 1 + 1)) (n + 1) (L ++ M) ∧ Old lo x h H ∧ H.length = h.length + 2 := by
  have p1 := (Pfx.refl h).snoc (C := ⟨e, M⟩)
  have q1 : (h ++ [(⟨e, M⟩ : Blk)]).length = h.length + 1 := by simp
  have g1 := g.pre p1
  have hll : L.length = n * k := by
    rcases g with g | ⟨rfl, rfl, _⟩
    · exact g.1
    · simp
  have ap := ablt_apv (ro := ro) he hs hb hz hk (.inl rfl) g1 hro (y := .slice (some ⟨h.length, 0, none⟩) 1 1) (M := M) (m := 1) (news_blk (j := 1) (get_last rfl) (by omega)) rfl (by omega) (by decide) h1 hn hn'
  rw [q1] at ap
  refine ⟨_, ap, ?_, ⟨fun h0 hp hl => Pfx.apv (hp.trans p1) g1 hl, fun b hb hne => ?_, ?_⟩, ?_⟩
  · have := vg_apv (lo := lo) (t := e) (k := k) (h := h ++ [(⟨e, M⟩ : Blk)]) (x := x) (n := n) (m := n + 1) (M := L ++ M) (by rw [List.length_append, hll, hM, Nat.add_mul, Nat.one_mul]) (by omega) (by omega)
    rw [q1] at this
    exact this
  · rw [apv_getN g1 (by omega) hne]; exact get_skip hb
  · rw [apv_len, q1]; omega
  · rw [apv_len, q1]
theorem nth_app_l {a b : List Int} {i : Nat} (h : i < a.length) : nth (a ++ b) i = nth a i := by simp only [nth, List.getD_eq_getElem?_getD, List.getElem?_append_left h]
theorem nth_app_r {a b : List Int} {i : Nat} (h : a.length ≤ i) : nth (a ++ b) i = nth b (i - a.length) := by simp only [nth, List.getD_eq_getElem?_getD, List.getElem?_append_right h]
theorem valP_c (hX : XN X) (hI : IS lo hi 2 h x n l) (ht : tyP ro h x) (hg : goodP n l) (hro : ro ≤ h.length) : CallR Try.prog ro X 43 [x] h (fun r h' => r = .tuple ⟨[x, .bool true]⟩ ∧ h' = h) := by
  refine callR_of (hX _ rfl) Try.func43 rfl (by kernel_rfl) (Nat.le_of_ble_eq_true rfl) ?_
  (repeat' first | simp -dsimp (disch := first | omega | assumption | (refine OkS.sto ?_ (by omega); first | assumption | (refine OkS.sto ?_ (by omega); first | assumption | (refine OkS.sto ?_ (by omega); first | assumption | (refine OkS.sto ?_ (by omega); first | assumption | (refine OkS.sto ?_ (by omega); first | assumption | (refine OkS.sto ?_ (by omega); first | assumption)))))) | exact Pfx.refl _ | (apply Pfx.snoc; repeat (first | exact Pfx.refl _ | assumption | apply Pfx.snoc)) | with_unfolding_all exact of_eq_true (eq_true rfl) | (simp only [List.length_append, List.length_cons, List.length_nil]; omega)) only [↓wpre0, ↓wpre1, ↓reduceIte, Int.reduceToNat, Nat.reduceAdd, Nat.reduceMul, Nat.reduceEqDiff, wpost0, wpost1, wpost2, wpost3, wpost4, ite_self, ite_true, ite_false, if_true, if_false, un_not, fr43, wrap_int, wrap_u8, iteP_yes, iteP_no, vPlaces_r hX hI ht hg hro] | refine iteP_two (fun hc hd => ?_) (fun hc hd => ?_) | refine iteP_intro (fun hc => ?_) (fun hc => ?_))
  all_goals exact ⟨rfl, rfl⟩
/-- The coordinates of a grid. -/
def grL (c : Nat) (dx dy : Int) (m : Nat) : List Int := (List.range m).flatMap fun j => [((j % c : Nat) : Int) * dx, ((j / c : Nat) : Int) * dy]
theorem grL_succ {c m : Nat} {dx dy : Int} : grL c dx dy (m + 1) = grL c dx dy m ++ [((m % c : Nat) : Int) * dx, ((m / c : Nat) : Int) * dy] := by simp [grL, List.range_succ]
theorem grL_len {c : Nat} {dx dy : Int} : ∀ m, (grL c dx dy m).length = m * 2
  | 0 => rfl
  | m + 1 => by rw [grL_succ, List.length_append, grL_len m]; simp; omega
theorem grL_at {c : Nat} {dx dy : Int} : ∀ {m i : Nat}, i < m → nth (grL c dx dy m) (i * 2) = ((i % c : Nat) : Int) * dx ∧ nth (grL c dx dy m) (i * 2 + 1) = ((i / c : Nat) : Int) * dy
  | 0, i, h => by omega
  | m + 1, i, h => by
    have hl := grL_len (c := c) (dx := dx) (dy := dy) m
    rw [grL_succ]
    by_cases e : i = m
    · subst e
      rw [nth_app_r (by omega), nth_app_r (by omega), hl]
      have e1 : i * 2 - i * 2 = 0 := by omega
      have e2 : i * 2 + 1 - i * 2 = 1 := by omega
      rw [e1, e2]
      exact ⟨rfl, rfl⟩
    · rw [nth_app_l (by omega), nth_app_l (by omega)]
      exact grL_at (by omega)
theorem gr_rng {i : Nat} {d : Int} (hi : i < 16) (h1 : -4096 ≤ d) (h2 : d ≤ 4096) : -65536 ≤ (i : Int) * d ∧ (i : Int) * d ≤ 65536 := by
  have e : ((i : Int) * d).natAbs = i * d.natAbs := by rw [Int.natAbs_mul, Int.natAbs_natCast]
  have : i * d.natAbs ≤ 16 * 4096 := Nat.mul_le_mul (by omega) (by omega)
  omega
set_option maxHeartbeats 8000000 in
theorem Grid_c {c r : Nat} {dx dy : Int} (hX : XN X) (c1 : 1 ≤ c) (c2 : c ≤ 16) (r1 : 1 ≤ r) (r2 : r ≤ 16) (hcr : n = c * r) (hx : cdB dx = true) (hy : cdB dy = true) (hg : goodP n (grL c dx dy n)) (hro : ro ≤ h.length) :
    CallR Try.prog ro X 21 [.int .i64 c, .int .i64 r, .int .i64 dx, .int .i64 dy] h (fun r h' => ∃ z, r = .tuple ⟨[z, .bool true]⟩ ∧ Pfx h h' ∧ VG h.length 51 2 h' z n (vints (grL c dx dy n))) := by
  have n16 := hg.n16
  have kx := isCoord_r (ro := ro) hX dx
  have ky := isCoord_r (ro := ro) hX dy
  rw [hx] at kx
  rw [hy] at ky
  have kc := isCnt_r (ro := ro) hX (c : Int)
  have kr := isCnt_r (ro := ro) hX (r : Int)
  have wc : (decide ((1 : Int) ≤ (c : Int)) && decide ((c : Int) ≤ 16)) = true := by simp; omega
  have wr : (decide ((1 : Int) ≤ (r : Int)) && decide ((r : Int) ≤ 16)) = true := by simp; omega
  rw [wc] at kc
  rw [wr] at kr
  unfold cdB at hx hy
  simp only [Bool.and_eq_true, decide_eq_true_eq] at hx hy
  refine callR_of (hX _ rfl) Try.func21 rfl (by kernel_rfl) (Nat.le_of_ble_eq_true rfl) ?_
  (repeat' first | simp -dsimp (disch := first | omega | assumption | (refine OkS.sto ?_ (by omega); first | assumption | (refine OkS.sto ?_ (by omega); first | assumption | (refine OkS.sto ?_ (by omega); first | assumption | (refine OkS.sto ?_ (by omega); first | assumption | (refine OkS.sto ?_ (by omega); first | assumption | (refine OkS.sto ?_ (by omega); first | assumption)))))) | exact Pfx.refl _ | (apply Pfx.snoc; repeat (first | exact Pfx.refl _ | assumption | apply Pfx.snoc)) | with_unfolding_all exact of_eq_true (eq_true rfl) | (simp only [List.length_append, List.length_cons, List.length_nil]; omega)) only [↓wpre0, ↓wpre1, ↓reduceIte, Int.reduceToNat, Nat.reduceAdd, Nat.reduceMul, Nat.reduceEqDiff, wpost0, wpost1, wpost2, wpost3, wpost4, ite_self, ite_true, ite_false, if_true, if_false, un_not, xbls24_0, xbls24_1, bin_lss, bin_mul, xbld51_0_1, bin_add, fr21, wrap_int, wrap_u8, iteP_yes, iteP_no, kc, kr, kx, ky] | refine iteP_two (fun hc hd => ?_) (fun hc hd => ?_) | refine iteP_intro (fun hc => ?_) (fun hc => ?_))
  refine loop_rounds (fun mm e h' => ∃ (j : Nat) (z : Value), mm = r - j ∧ j ≤ r ∧ Pfx h h' ∧ e 0 = .int .i64 c ∧ e 2 = .int .i64 dx ∧ e 3 = .int .i64 dy ∧ e 10 = z ∧ e 32 = .int .i64 r ∧ e 33 = .int .i64 j ∧ VG h.length 51 2 h' z (j * c) (vints (grL c dx dy (j * c)))) _ ⟨0, .slice (some ⟨h.length, 0, none⟩) 0 0, rfl, ?_⟩ ?_
  · simp only [updO_at, updO_not, entry_at, List.getD_cons_zero, List.getD_cons_succ, ↓reduceIte, Nat.reduceEqDiff, true_and, and_true]
    have q1 : Pfx h (h ++ [(⟨51, []⟩ : Blk)]) := (Pfx.refl h).snoc
    have q2 : VG h.length 51 2 (h ++ [(⟨51, []⟩ : Blk)]) (.slice (some ⟨h.length, 0, none⟩) 0 0) (0 * c) (vints (grL c dx dy (0 * c))) := by rw [Nat.zero_mul]; exact vg_new h (Nat.le_refl _)
    (repeat' (first | assumption | rfl | omega | exact q1 | exact q2 | exact Nat.zero_le _ | refine And.intro ?_ ?_))
  · rintro mm e h' ⟨j, z, hmm, hle, hp, g0, g2, g3, g10, g32, g33, hZ⟩
    have hjs : (j : Int) + 1 = ((j + 1 : Nat) : Int) := by omega
    have hlp := hp.len
    by_cases hjn : j < r
    · (repeat' first | simp -dsimp (disch := first | omega | assumption | (refine OkS.sto ?_ (by omega); first | assumption | (refine OkS.sto ?_ (by omega); first | assumption | (refine OkS.sto ?_ (by omega); first | assumption | (refine OkS.sto ?_ (by omega); first | assumption | (refine OkS.sto ?_ (by omega); first | assumption | (refine OkS.sto ?_ (by omega); first | assumption)))))) | exact Pfx.refl _ | (apply Pfx.snoc; repeat (first | exact Pfx.refl _ | assumption | apply Pfx.snoc)) | with_unfolding_all exact of_eq_true (eq_true rfl) | (simp only [List.length_append, List.length_cons, List.length_nil]; omega)) only [↓wpre0, ↓wpre1, ↓reduceIte, Int.reduceToNat, Nat.reduceAdd, Nat.reduceMul, Nat.reduceEqDiff, wpost0, wpost1, wpost2, wpost3, wpost4, ite_self, ite_true, ite_false, if_true, if_false, un_not, xbls24_0, xbls24_1, bin_lss, bin_mul, xbld51_0_1, bin_add, fr21, wrap_int, wrap_u8, iteP_yes, iteP_no, g0, g2, g3, g10, g32, g33] | refine iteP_two (fun hc hd => ?_) (fun hc hd => ?_) | refine iteP_intro (fun hc => ?_) (fun hc => ?_))
      refine loop_rounds (fun mm e h' => ∃ (i : Nat) (z : Value), mm = c - i ∧ i ≤ c ∧ Pfx h h' ∧ e 0 = .int .i64 c ∧ e 2 = .int .i64 dx ∧ e 3 = .int .i64 dy ∧ e 11 = .int .i64 j ∧ e 10 = z ∧ e 32 = .int .i64 r ∧ e 33 = .int .i64 j ∧ e 36 = .int .i64 c ∧ e 37 = .int .i64 i ∧ VG h.length 51 2 h' z (j * c + i) (vints (grL c dx dy (j * c + i)))) _ ⟨0, z, rfl, ?_⟩ ?_
      · simp only [updO_at, updO_not, entry_at, List.getD_cons_zero, List.getD_cons_succ, ↓reduceIte, Nat.reduceEqDiff, true_and, and_true]
        (repeat' (first | assumption | rfl | omega | exact hp | exact hZ | exact Nat.zero_le _ | refine And.intro ?_ ?_))
      · clear hp hlp hZ g0 g2 g3 g10 g32 g33
        rintro mm e h' ⟨i, z, hmm, hle, hp, g0, g2, g3, g11, g10, g32, g33, g36, g37, hZ⟩
        have hks : (i : Int) + 1 = ((i + 1 : Nat) : Int) := by omega
        have hlp := hp.len
        by_cases hin : i < c
        · have a1 := gr_rng (i := i) (d := dx) (by omega) (by omega) (by omega)
          have a2 := gr_rng (i := j) (d := dy) (by omega) (by omega) (by omega)
          have hm : j * c + i < n := by
            have := Nat.mul_le_mul_right c (show j + 1 ≤ r from hjn)
            rw [Nat.add_mul, Nat.one_mul] at this
            rw [hcr, Nat.mul_comm c r]; omega
          have em1 : (j * c + i) % c = i := by rw [Nat.mul_comm, Nat.mul_add_mod, Nat.mod_eq_of_lt hin]
          have em2 : (j * c + i) / c = j := by rw [Nat.mul_comm, Nat.mul_add_div (by omega), Nat.div_eq_of_lt hin, Nat.add_zero]
          obtain ⟨H, ap, vg, old, hlen⟩ := accP (P := Try.prog) (ro := ro) (T := 24) (h := h') (k := 2) (M := [.int .i64 ((i : Int) * dx), .int .i64 ((j : Int) * dy)]) tel24 tsz51 tby51 tze51 (by decide) (.inl hZ) hro (by omega) rfl rfl (by omega) (by omega)
          have eV : vints (grL c dx dy (j * c + i)) ++ [.int .i64 ((i : Int) * dx), .int .i64 ((j : Int) * dy)] = vints (grL c dx dy (j * c + (i + 1))) := by rw [← Nat.add_assoc, grL_succ, vints_app, em1, em2]; rfl
          rw [eV, Nat.add_assoc] at vg
          have pH := old.1 h hp (Nat.le_refl _)
          (repeat' first | simp -dsimp (disch := first | omega | assumption | (refine OkS.sto ?_ (by omega); first | assumption | (refine OkS.sto ?_ (by omega); first | assumption | (refine OkS.sto ?_ (by omega); first | assumption | (refine OkS.sto ?_ (by omega); first | assumption | (refine OkS.sto ?_ (by omega); first | assumption | (refine OkS.sto ?_ (by omega); first | assumption)))))) | exact Pfx.refl _ | (apply Pfx.snoc; repeat (first | exact Pfx.refl _ | assumption | apply Pfx.snoc)) | with_unfolding_all exact of_eq_true (eq_true rfl) | (simp only [List.length_append, List.length_cons, List.length_nil]; omega)) only [↓wpre0, ↓wpre1, ↓reduceIte, Int.reduceToNat, Nat.reduceAdd, Nat.reduceMul, Nat.reduceEqDiff, wpost0, wpost1, wpost2, wpost3, wpost4, ite_self, ite_true, ite_false, if_true, if_false, un_not, xbls24_0, xbls24_1, bin_lss, bin_mul, xbld51_0_1, bin_add, fr21, wrap_int, wrap_u8, iteP_yes, iteP_no, g0, g2, g3, g11, g10, g32, g33, g36, g37, ap] | refine iteP_two (fun hc hd => ?_) (fun hc hd => ?_) | refine iteP_intro (fun hc => ?_) (fun hc => ?_))
          exact ⟨c - (i + 1), by omega, i + 1, _, rfl, by omega, pH, rfl, by rw [hks], vg⟩
        · have ei : i = c := by omega
          subst ei
          have hZ' : VG h.length 51 2 h' z ((j + 1) * i) (vints (grL i dx dy ((j + 1) * i))) := by rw [Nat.add_mul, Nat.one_mul]; exact hZ
          (repeat' first | simp -dsimp (disch := first | omega | assumption | (refine OkS.sto ?_ (by omega); first | assumption | (refine OkS.sto ?_ (by omega); first | assumption | (refine OkS.sto ?_ (by omega); first | assumption | (refine OkS.sto ?_ (by omega); first | assumption | (refine OkS.sto ?_ (by omega); first | assumption | (refine OkS.sto ?_ (by omega); first | assumption)))))) | exact Pfx.refl _ | (apply Pfx.snoc; repeat (first | exact Pfx.refl _ | assumption | apply Pfx.snoc)) | with_unfolding_all exact of_eq_true (eq_true rfl) | (simp only [List.length_append, List.length_cons, List.length_nil]; omega)) only [↓wpre0, ↓wpre1, ↓reduceIte, Int.reduceToNat, Nat.reduceAdd, Nat.reduceMul, Nat.reduceEqDiff, wpost0, wpost1, wpost2, wpost3, wpost4, ite_self, ite_true, ite_false, if_true, if_false, un_not, xbls24_0, xbls24_1, bin_lss, bin_mul, xbld51_0_1, bin_add, fr21, wrap_int, wrap_u8, iteP_yes, iteP_no, g0, g2, g3, g11, g10, g32, g33, g36, g37] | refine iteP_two (fun hc hd => ?_) (fun hc hd => ?_) | refine iteP_intro (fun hc => ?_) (fun hc => ?_))
          exact ⟨r - (j + 1), by omega, j + 1, _, rfl, by omega, hp, rfl, by rw [hjs], hZ'⟩
    · have ei : j = r := by omega
      subst ei
      rw [Nat.mul_comm j c, ← hcr] at hZ
      have hIz := hZ.vs.is
      have htz : tyP ro h' z := fun _ => by
        obtain ⟨_, b, cap, rfl, _, hb2, _⟩ := hZ
        show (h'[b]?).map Blk.ty = _
        rw [hb2]; rfl
      have hnf : Sim.flat (.tuple ⟨[z, .bool true]⟩) = false := by obtain ⟨_, b, cap, rfl, _⟩ := hZ; rfl
      (repeat' first | simp -dsimp (disch := first | omega | assumption | (refine OkS.sto ?_ (by omega); first | assumption | (refine OkS.sto ?_ (by omega); first | assumption | (refine OkS.sto ?_ (by omega); first | assumption | (refine OkS.sto ?_ (by omega); first | assumption | (refine OkS.sto ?_ (by omega); first | assumption | (refine OkS.sto ?_ (by omega); first | assumption)))))) | exact Pfx.refl _ | (apply Pfx.snoc; repeat (first | exact Pfx.refl _ | assumption | apply Pfx.snoc)) | with_unfolding_all exact of_eq_true (eq_true rfl) | (simp only [List.length_append, List.length_cons, List.length_nil]; omega)) only [↓wpre0, ↓wpre1, ↓reduceIte, Int.reduceToNat, Nat.reduceAdd, Nat.reduceMul, Nat.reduceEqDiff, wpost0, wpost1, wpost2, wpost3, wpost4, ite_self, ite_true, ite_false, if_true, if_false, un_not, xbls24_0, xbls24_1, bin_lss, bin_mul, xbld51_0_1, bin_add, fr21, wrap_int, wrap_u8, iteP_yes, iteP_no, g0, g2, g3, g10, g32, g33] | refine iteP_two (fun hc hd => ?_) (fun hc hd => ?_) | refine iteP_intro (fun hc => ?_) (fun hc => ?_))
      refine cf_rel (valP_c hX hIz htz hg (by omega)) (fun q => by cases q) ?_
      rintro r h2 ⟨rfl, rfl⟩
      (repeat' first | simp -dsimp (disch := first | omega | assumption | (refine OkS.sto ?_ (by omega); first | assumption | (refine OkS.sto ?_ (by omega); first | assumption | (refine OkS.sto ?_ (by omega); first | assumption | (refine OkS.sto ?_ (by omega); first | assumption | (refine OkS.sto ?_ (by omega); first | assumption | (refine OkS.sto ?_ (by omega); first | assumption)))))) | exact Pfx.refl _ | (apply Pfx.snoc; repeat (first | exact Pfx.refl _ | assumption | apply Pfx.snoc)) | with_unfolding_all exact of_eq_true (eq_true rfl) | (simp only [List.length_append, List.length_cons, List.length_nil]; omega)) only [↓wpre0, ↓wpre1, ↓reduceIte, Int.reduceToNat, Nat.reduceAdd, Nat.reduceMul, Nat.reduceEqDiff, wpost0, wpost1, wpost2, wpost3, wpost4, ite_self, ite_true, ite_false, if_true, if_false, un_not, xbls24_0, xbls24_1, bin_lss, bin_mul, xbld51_0_1, bin_add, fr21, wrap_int, wrap_u8, iteP_yes, iteP_no, endH_not hnf] | refine iteP_two (fun hc hd => ?_) (fun hc hd => ?_) | refine iteP_intro (fun hc => ?_) (fun hc => ?_))
      exact ⟨z, rfl, hp, hZ⟩
end Go.Proofs.Ytkhipobafchilaa.Sim

/- Polynomials by their zeros, walked. Lemmas only; no condition. -/
set_option linter.unusedSimpArgs false
set_option linter.unusedVariables false
set_option maxRecDepth 8000
namespace Go.Proofs.Ytkhipobafchilaa.Sim
open Go Go.RowKit Fl
variable {ro lo hi lo' hi' n : Nat} {X : Ext} {h : Heap} {x y : Value} {l : List Int} {u v : Int}
def lessB (c d : CB) : CB := ⟨farith .sub .f32 c.a d.a, farith .sub .f32 c.b d.b⟩
def oneB : CB := ⟨1065353216, 0⟩
def zeB : CB := ⟨0, 0⟩
/-- The numbers of a polynomial. -/
def plF (z : Nat → CB) : Nat → Nat → CB
  | 0, k => if k = 0 then oneB else zeB
  | j + 1, k => if k ≤ j + 1 then lessB (if k = 0 then zeB else plF z j (k - 1)) (mulB (z j) (plF z j k)) else zeB
theorem plF_out {z : Nat → CB} : ∀ {j k : Nat}, j < k → plF z j k = zeB
  | 0, k, h => by simp only [plF]; rw [if_neg (by omega)]
  | j + 1, k, h => by simp only [plF]; rw [if_neg (by omega)]
def dnF (A B : Nat → CB) (k : Nat) : Nat → CB := fun i => if k ≤ i then A i else B i
theorem rowV_dn {A B : Nat → CB} {k : Nat} (hk : k < n) : (rowV n (dnF A B (k + 1))).set k (toV (A k)) = rowV n (dnF A B k) := by
  refine List.ext_getElem? fun i => ?_
  simp only [rowV, List.getElem?_set, List.getElem?_map, List.length_map, List.length_range]
  by_cases e : k = i
  · subst e
    rw [if_pos rfl, if_pos hk, List.getElem?_range hk]
    simp [dnF]
  · rw [if_neg e]
    by_cases hi : i < n
    · rw [List.getElem?_range hi]
      simp only [Option.map_some, dnF]
      by_cases q : k ≤ i
      · rw [if_pos q, if_pos (by omega)]
      · rw [if_neg q, if_neg (by omega)]
    · rw [List.getElem?_eq_none (by simp; omega)]; rfl
end Go.Proofs.Ytkhipobafchilaa.Sim

/- Null weights, walked. Lemmas only; no condition. -/
set_option linter.unusedSimpArgs false
set_option linter.unusedVariables false
set_option maxRecDepth 8000
namespace Go.Proofs.Ytkhipobafchilaa.Sim
open Go Go.RowKit Fl
variable {ro lo hi lo' hi' n : Nat} {X : Ext} {h : Heap} {x y : Value} {l : List Int} {u v : Int}
def fidx {α : Type} (p : α → Bool) (l : List α) : Int := match l.findIdx? p with | some j => (j : Int) | none => -1
theorem fidx_some {α : Type} {p : α → Bool} {l : List α} {i : Nat} (hi : i < l.length) (h : p l[i] = true) (hb : ∀ j, (hj : j < i) → p (l[j]'(by omega)) = false) : fidx p l = i := by
  unfold fidx
  have : l.findIdx? p = some i := by
    rw [List.findIdx?_eq_some_iff_getElem]
    exact ⟨hi, h, fun j hj => by rw [hb j hj]; simp⟩
  rw [this]
theorem fidx_none {α : Type} {p : α → Bool} {l : List α} (h : ∀ j, (hj : j < l.length) → p l[j] = false) : fidx p l = -1 := by
  unfold fidx
  have : l.findIdx? p = none := by
    rw [List.findIdx?_eq_none_iff]
    intro x hx
    obtain ⟨i, hi, rfl⟩ := List.mem_iff_getElem.1 hx
    exact h i hi
  rw [this]
theorem fidx_range {α : Type} {p : α → Bool} {l : List α} : -1 ≤ fidx p l ∧ fidx p l < l.length := by
  unfold fidx
  split
  · rename_i j h
    rw [List.findIdx?_eq_some_iff_getElem] at h
    obtain ⟨h1, _⟩ := h
    omega
  · omega
theorem fidx_any {α : Type} {p : α → Bool} {l : List α} : decide (0 ≤ fidx p l) = l.any p := by
  unfold fidx
  cases h : l.findIdx? p with
  | some j =>
    rw [List.findIdx?_eq_some_iff_getElem] at h
    obtain ⟨h1, h2, _⟩ := h
    have : l.any p = true := by rw [List.any_eq_true]; exact ⟨_, List.getElem_mem h1, h2⟩
    rw [this]
    simp
  | none =>
    rw [List.findIdx?_eq_none_iff] at h
    have : l.any p = false := by rw [List.any_eq_false]; intro x hx; rw [h x hx]; simp
    rw [this]
    simp
theorem withinU_r (hX : XN X) (a b c : Int) (h : Heap) : Ret Try.prog ro X 50 [.int .i64 a, .int .i64 b, .int .i64 c] h (.bool (decide (b ≤ a) && decide (a ≤ c))) := by
  refine ret_of (callR_of (hX _ rfl) Try.func50 rfl (by kernel_rfl) (Nat.le_of_ble_eq_true rfl) ?_)
  (repeat' first | simp -dsimp (disch := first | omega | assumption | (refine OkS.sto ?_ (by omega); first | assumption | (refine OkS.sto ?_ (by omega); first | assumption | (refine OkS.sto ?_ (by omega); first | assumption | (refine OkS.sto ?_ (by omega); first | assumption | (refine OkS.sto ?_ (by omega); first | assumption | (refine OkS.sto ?_ (by omega); first | assumption)))))) | exact Pfx.refl _ | (apply Pfx.snoc; repeat (first | exact Pfx.refl _ | assumption | apply Pfx.snoc)) | with_unfolding_all exact of_eq_true (eq_true rfl) | (simp only [List.length_append, List.length_cons, List.length_nil]; omega)) only [↓wpre0, ↓wpre1, ↓reduceIte, Int.reduceToNat, Nat.reduceAdd, Nat.reduceMul, Nat.reduceEqDiff, wpost0, wpost1, wpost2, wpost3, wpost4, ite_self, ite_true, ite_false, if_true, if_false, bin_geq, bin_leq, fr50, wrap_int, wrap_u8, iteP_yes, iteP_no] | refine iteP_two (fun hc hd => ?_) (fun hc hd => ?_) | refine iteP_intro (fun hc => ?_) (fun hc => ?_))
  all_goals first | (simp_all; done) | (simp_all; omega) | skip
/-- The phasors of nulls. -/
def nuZ (s : Nat) (l : List Int) : Nat → CB := fun j => PH ((s : Int) * nth l j)
end Go.Proofs.Ytkhipobafchilaa.Sim

/- Draws that are the same each time; halves and sums, walked. Lemmas only; no condition. -/
set_option linter.unusedSimpArgs false
set_option linter.unusedVariables false
set_option maxRecDepth 8000
namespace Go.Proofs.Ytkhipobafchilaa.Sim
open Go Go.RowKit Fl
variable {ro lo hi lo' hi' n : Nat} {X : Ext} {h : Heap} {x y : Value} {l : List Int} {u v : Int} {cd : List UInt8}
/-- A source whose place and seed are known. -/
def SRD (lo hi b k : Nat) (sd : Int) (x : Value) (cd : List UInt8) (h : Heap) : Prop := h[b]? = some ⟨70, [x, .int .i64 k, .int .u64 sd]⟩ ∧ VS lo hi 1 h x cd.length (cd.map u8v)
def byF (cd : List UInt8) (k : Nat) : Nat := if q : k < cd.length then (cd[k]'q).toNat else 0
def sdF (cd : List UInt8) (k : Nat) (sd : Int) : Int := IntKind.u64.wrap (IntKind.u64.wrap (IntKind.u64.wrap (sd * 6364136223846793005) + IntKind.u64.wrap (byF cd k : Nat)) + 1442695040888963407)
def nvF (cd : List UInt8) (k : Nat) (sd : Int) : Nat := if k < cd.length then byF cd k else (sdF cd k sd / 1099511627776 % 256).toNat
theorem by_le (cd : List UInt8) (k : Nat) : byF cd k ≤ 255 := by
  unfold byF
  split
  · rename_i q
    have := (cd[k]'q).toNat_lt
    omega
  · omega
theorem nv_le (cd : List UInt8) (k : Nat) (sd : Int) : nvF cd k sd ≤ 255 := by
  unfold nvF
  split
  · exact by_le cd k
  · omega
set_option maxHeartbeats 2000000 in
theorem nextD_c {b k : Nat} {sd : Int} (hX : X 48 = none) (hS : SRD lo hi b k sd x cd h) (hro : ro ≤ b) (hd : hi ≤ b) (hk : k ≤ 1000) (hl : cd.length ≤ 1099511627776) :
    CallR Try.prog ro X 48 [.pointer (some ⟨b, 0, none⟩)] h (fun r h' => r = .int .i64 (nvF cd k sd : Nat) ∧ SRD lo hi b (k + 1) (sdF cd k sd) x cd h' ∧ Only b h h') := by
  obtain ⟨hb, hV⟩ := hS
  refine callR_of hX Try.func48 rfl (by kernel_rfl) (Nat.le_of_ble_eq_true rfl) ?_
  have c0 : cell h b 0 = some x := cellb hb
  have c1 : cell h b 1 = some (.int .i64 k) := cellb hb
  have hbl := (List.getElem?_eq_some_iff.1 hb).1
  have P1 : put ro h b 1 1 (.int .i64 ((k : Int) + 1)) = some (h.set b ⟨70, [x, .int .i64 ((k : Int) + 1), .int .u64 sd]⟩) := putb (n := 1) (o := 1) (v := .int .i64 ((k : Int) + 1)) hb hro rfl (by simp) rfl
  have b1 : (h.set b ⟨70, [x, .int .i64 ((k : Int) + 1), .int .u64 sd]⟩)[b]? = some ⟨70, [x, .int .i64 ((k : Int) + 1), .int .u64 sd]⟩ := List.getElem?_set_self hbl
  have c2 : cell (h.set b ⟨70, [x, .int .i64 ((k : Int) + 1), .int .u64 sd]⟩) b 2 = some (.int .u64 sd) := cellb b1
  have P2 : ∀ s2, put ro (h.set b ⟨70, [x, .int .i64 ((k : Int) + 1), .int .u64 sd]⟩) b 2 1 (.int .u64 s2) = some (h.set b ⟨70, [x, .int .i64 ((k : Int) + 1), .int .u64 s2]⟩) := fun s2 => by
    rw [putb (n := 1) (o := 2) (v := .int .u64 s2) b1 hro rfl (by simp) rfl, List.set_set]
    rfl
  have d0 : ∀ s2, cell (h.set b ⟨70, [x, .int .i64 ((k : Int) + 1), .int .u64 s2]⟩) b 0 = some x := fun s2 => cellb (List.getElem?_set_self hbl)
  have d1 : ∀ s2, cell (h.set b ⟨70, [x, .int .i64 ((k : Int) + 1), .int .u64 s2]⟩) b 1 = some (.int .i64 ((k : Int) + 1)) := fun s2 => cellb (List.getElem?_set_self hbl)
  have d2 : ∀ s2, cell (h.set b ⟨70, [x, .int .i64 ((k : Int) + 1), .int .u64 s2]⟩) b 2 = some (.int .u64 s2) := fun s2 => cellb (List.getElem?_set_self hbl)
  have fin : SRD lo hi b (k + 1) (sdF cd k sd) x cd (h.set b ⟨70, [x, .int .i64 ((k : Int) + 1), .int .u64 (sdF cd k sd)]⟩) := ⟨by rw [List.getElem?_set_self hbl]; rfl, hV.frame fun j _ hj => by rw [List.getElem?_set_ne (by omega)]⟩
  have el : ∀ v s2, endH v h (h.set b ⟨70, [x, .int .i64 ((k : Int) + 1), .int .u64 s2]⟩) = h.set b ⟨70, [x, .int .i64 ((k : Int) + 1), .int .u64 s2]⟩ := fun v s2 => endH_len (by simp)
  by_cases hin : k < cd.length
  · have hld : ld Try.prog h 5 (ea x (k * 1)) = some (u8v (cd[k]'hin)) := by
      rw [hV.ld1 tsz5 tag5 (by omega), Nat.mul_one]
      simp [vth, List.getD_eq_getElem?_getD, hin]
    have eb : byF cd k = (cd[k]'hin).toNat := by unfold byF; rw [dif_pos hin]
    have hb255 : (cd[k]'hin).toNat ≤ 255 := by have := (cd[k]'hin).toNat_lt; omega
    have en : nvF cd k sd = (cd[k]'hin).toNat := by unfold nvF; rw [if_pos hin, eb]
    have es : sdF cd k sd = IntKind.u64.wrap (IntKind.u64.wrap (IntKind.u64.wrap (sd * 6364136223846793005) + IntKind.u64.wrap ((cd[k]'hin).toNat : Nat)) + 1442695040888963407) := by unfold sdF; rw [eb]
    simp only [u8v] at hld
    (repeat' first | simp -dsimp (disch := first | omega | assumption | (refine OkS.sto ?_ (by omega); first | assumption | (refine OkS.sto ?_ (by omega); first | assumption | (refine OkS.sto ?_ (by omega); first | assumption | (refine OkS.sto ?_ (by omega); first | assumption | (refine OkS.sto ?_ (by omega); first | assumption | (refine OkS.sto ?_ (by omega); first | assumption)))))) | exact Pfx.refl _ | (apply Pfx.snoc; repeat (first | exact Pfx.refl _ | assumption | apply Pfx.snoc)) | with_unfolding_all exact of_eq_true (eq_true rfl) | (simp only [List.length_append, List.length_cons, List.length_nil]; omega)) only [↓wpre0, ↓wpre1, ↓reduceIte, Int.reduceToNat, Nat.reduceAdd, Nat.reduceMul, Nat.reduceEqDiff, wpost0, wpost1, wpost2, wpost3, wpost4, ite_self, ite_true, ite_false, if_true, if_false, nilV_ptr, xfad70_1, xld3, xfad70_0, xld22, xlen22, bin_lss, xiad22, xld5, xcv5_3, bin_add, xst3, xfad70_2, xld68, bin_mul, xcv3_68, xst68, bin_leq, xcv68_2, fr48, wrap_int, wrap_u8, iteP_yes, iteP_no, c0, c1, hV.len Try.underlying22, hV.iad Try.underlying22 tsz5, Int.toNat_natCast, hld, P1, c2, P2, d0, d1, d2, el, ← es] | refine iteP_two (fun hc hd => ?_) (fun hc hd => ?_) | refine iteP_intro (fun hc => ?_) (fun hc => ?_))
    rw [en]
    exact ⟨rfl, fin, only_set⟩
  · have eb : byF cd k = 0 := by unfold byF; rw [dif_neg hin]
    have en : nvF cd k sd = (sdF cd k sd / 1099511627776 % 256).toNat := by unfold nvF; rw [if_neg hin]
    have es : sdF cd k sd = IntKind.u64.wrap (IntKind.u64.wrap (IntKind.u64.wrap (sd * 6364136223846793005) + IntKind.u64.wrap 0) + 1442695040888963407) := by unfold sdF; rw [eb]; rfl
    have rg := wrapu_range (IntKind.u64.wrap (IntKind.u64.wrap (sd * 6364136223846793005) + IntKind.u64.wrap 0) + 1442695040888963407)
    rw [← es] at rg
    have ha : ∀ t, abin Try.prog .and t (.int .u64 (sdF cd k sd / 1099511627776)) (.int .u64 255) = some (.int .u64 (sdF cd k sd / 1099511627776 % 256)) := fun t => and255 (k := .i64) (by omega) (by omega)
    (repeat' first | simp -dsimp (disch := first | omega | assumption | (refine OkS.sto ?_ (by omega); first | assumption | (refine OkS.sto ?_ (by omega); first | assumption | (refine OkS.sto ?_ (by omega); first | assumption | (refine OkS.sto ?_ (by omega); first | assumption | (refine OkS.sto ?_ (by omega); first | assumption | (refine OkS.sto ?_ (by omega); first | assumption)))))) | exact Pfx.refl _ | (apply Pfx.snoc; repeat (first | exact Pfx.refl _ | assumption | apply Pfx.snoc)) | with_unfolding_all exact of_eq_true (eq_true rfl) | (simp only [List.length_append, List.length_cons, List.length_nil]; omega)) only [↓wpre0, ↓wpre1, ↓reduceIte, Int.reduceToNat, Nat.reduceAdd, Nat.reduceMul, Nat.reduceEqDiff, wpost0, wpost1, wpost2, wpost3, wpost4, ite_self, ite_true, ite_false, if_true, if_false, nilV_ptr, xfad70_1, xld3, xfad70_0, xld22, xlen22, bin_lss, xiad22, xld5, xcv5_3, bin_add, xst3, xfad70_2, xld68, bin_mul, xcv3_68, xst68, bin_leq, xcv68_2, fr48, wrap_int, wrap_u8, iteP_yes, iteP_no, c0, c1, hV.len Try.underlying22, Int.toNat_natCast, P1, c2, P2, d0, d1, d2, shr40, ha, el, ← es] | refine iteP_two (fun hc hd => ?_) (fun hc hd => ?_) | refine iteP_intro (fun hc => ?_) (fun hc => ?_))
    refine ⟨?_, fin, only_set⟩
    rw [en, Int.toNat_of_nonneg (by omega)]
theorem pickD_c {b k : Nat} {sd : Int} (hX : X 48 = none) (hP : X 26 = none) (hS : SRD lo hi b k sd x cd h) (hro : ro ≤ b) (hd : hi ≤ b) (hk : k ≤ 1000) (hl : cd.length ≤ 1099511627776) :
    CallR Try.prog ro X 26 [.pointer (some ⟨b, 0, none⟩), .int .i64 65] h (fun r h' => r = .int .i64 (nvF cd k sd % 65 : Nat) ∧ SRD lo hi b (k + 1) (sdF cd k sd) x cd h' ∧ Only b h h') := by
  refine callR_of hP Try.func26 rfl (by kernel_rfl) (Nat.le_of_ble_eq_true rfl) ?_
  (repeat' first | simp -dsimp (disch := first | omega | assumption | (refine OkS.sto ?_ (by omega); first | assumption | (refine OkS.sto ?_ (by omega); first | assumption | (refine OkS.sto ?_ (by omega); first | assumption | (refine OkS.sto ?_ (by omega); first | assumption | (refine OkS.sto ?_ (by omega); first | assumption | (refine OkS.sto ?_ (by omega); first | assumption)))))) | exact Pfx.refl _ | (apply Pfx.snoc; repeat (first | exact Pfx.refl _ | assumption | apply Pfx.snoc)) | with_unfolding_all exact of_eq_true (eq_true rfl) | (simp only [List.length_append, List.length_cons, List.length_nil]; omega)) only [↓wpre0, ↓wpre1, ↓reduceIte, Int.reduceToNat, Nat.reduceAdd, Nat.reduceMul, Nat.reduceEqDiff, wpost0, wpost1, wpost2, wpost3, wpost4, ite_self, ite_true, ite_false, if_true, if_false, bin_leq, bin_gtr, bin_mul, bin_add, bin_rem, fr26, wrap_int, wrap_u8, iteP_yes, iteP_no] | refine iteP_two (fun hc hd => ?_) (fun hc hd => ?_) | refine iteP_intro (fun hc => ?_) (fun hc => ?_))
  refine cf_rel (nextD_c hX hS hro hd hk hl) (fun q => by cases q) ?_
  rintro r H1 ⟨rfl, S1, o1⟩
  have ef : ∀ u, endH (.int .i64 u) h H1 = H1 := fun u => endH_len o1.1
  have hv := nv_le cd k sd
  generalize nvF cd k sd = v at *
  have hm : ((v : Int).tmod 65) = ((v % 65 : Nat) : Int) := rfl
  (repeat' first | simp -dsimp (disch := first | omega | assumption | (refine OkS.sto ?_ (by omega); first | assumption | (refine OkS.sto ?_ (by omega); first | assumption | (refine OkS.sto ?_ (by omega); first | assumption | (refine OkS.sto ?_ (by omega); first | assumption | (refine OkS.sto ?_ (by omega); first | assumption | (refine OkS.sto ?_ (by omega); first | assumption)))))) | exact Pfx.refl _ | (apply Pfx.snoc; repeat (first | exact Pfx.refl _ | assumption | apply Pfx.snoc)) | with_unfolding_all exact of_eq_true (eq_true rfl) | (simp only [List.length_append, List.length_cons, List.length_nil]; omega)) only [↓wpre0, ↓wpre1, ↓reduceIte, Int.reduceToNat, Nat.reduceAdd, Nat.reduceMul, Nat.reduceEqDiff, wpost0, wpost1, wpost2, wpost3, wpost4, ite_self, ite_true, ite_false, if_true, if_false, bin_leq, bin_gtr, bin_mul, bin_add, bin_rem, fr26, wrap_int, wrap_u8, iteP_yes, iteP_no, bin_rem, hm, ef] | refine iteP_two (fun hc hd => ?_) (fun hc hd => ?_) | refine iteP_intro (fun hc => ?_) (fun hc => ?_))
  exact ⟨S1, o1⟩
/-- Sixteenths. -/
def fiF (v : Nat) : Nat := farith .quo .f32 (cf .f32 (FloatKind.f32.nearest ((v : Int) - 32))) 1098907648
def fiC (cd : List UInt8) : CB := ⟨fiF (nvF cd 0 0 % 65), fiF (nvF cd 1 (sdF cd 0 0) % 65)⟩
theorem fineD_c {b : Nat} (hX : XN X) (hS : SRD lo hi b 0 0 x cd h) (hro : ro ≤ b) (hd : hi ≤ b) (hl : cd.length ≤ 1099511627776) :
    CallR Try.prog ro X 37 [.pointer (some ⟨b, 0, none⟩)] h (fun r h' => r = toV (fiC cd) ∧ Only b h h') := by
  refine callR_of (hX _ rfl) Try.func37 rfl (by kernel_rfl) (Nat.le_of_ble_eq_true rfl) ?_
  (repeat' first | simp -dsimp (disch := first | omega | assumption | (refine OkS.sto ?_ (by omega); first | assumption | (refine OkS.sto ?_ (by omega); first | assumption | (refine OkS.sto ?_ (by omega); first | assumption | (refine OkS.sto ?_ (by omega); first | assumption | (refine OkS.sto ?_ (by omega); first | assumption | (refine OkS.sto ?_ (by omega); first | assumption)))))) | exact Pfx.refl _ | (apply Pfx.snoc; repeat (first | exact Pfx.refl _ | assumption | apply Pfx.snoc)) | with_unfolding_all exact of_eq_true (eq_true rfl) | (simp only [List.length_append, List.length_cons, List.length_nil]; omega)) only [↓wpre0, ↓wpre1, ↓reduceIte, Int.reduceToNat, Nat.reduceAdd, Nat.reduceMul, Nat.reduceEqDiff, wpost0, wpost1, wpost2, wpost3, wpost4, ite_self, ite_true, ite_false, if_true, if_false, bin_sub, xcv2_35, bin_fquo, blt_cpx, fr37, wrap_int, wrap_u8, iteP_yes, iteP_no] | refine iteP_two (fun hc hd => ?_) (fun hc hd => ?_) | refine iteP_intro (fun hc => ?_) (fun hc => ?_))
  refine cf_rel (pickD_c (hX _ rfl) (hX _ rfl) hS hro hd (by omega) hl) (fun q => by cases q) ?_
  rintro r H1 ⟨rfl, S1, o1⟩
  (repeat' first | simp -dsimp (disch := first | omega | assumption | (refine OkS.sto ?_ (by omega); first | assumption | (refine OkS.sto ?_ (by omega); first | assumption | (refine OkS.sto ?_ (by omega); first | assumption | (refine OkS.sto ?_ (by omega); first | assumption | (refine OkS.sto ?_ (by omega); first | assumption | (refine OkS.sto ?_ (by omega); first | assumption)))))) | exact Pfx.refl _ | (apply Pfx.snoc; repeat (first | exact Pfx.refl _ | assumption | apply Pfx.snoc)) | with_unfolding_all exact of_eq_true (eq_true rfl) | (simp only [List.length_append, List.length_cons, List.length_nil]; omega)) only [↓wpre0, ↓wpre1, ↓reduceIte, Int.reduceToNat, Nat.reduceAdd, Nat.reduceMul, Nat.reduceEqDiff, wpost0, wpost1, wpost2, wpost3, wpost4, ite_self, ite_true, ite_false, if_true, if_false, bin_sub, xcv2_35, bin_fquo, blt_cpx, fr37, wrap_int, wrap_u8, iteP_yes, iteP_no] | refine iteP_two (fun hc hd => ?_) (fun hc hd => ?_) | refine iteP_intro (fun hc => ?_) (fun hc => ?_))
  refine cf_rel (pickD_c (hX _ rfl) (hX _ rfl) S1 hro hd (by omega) hl) (fun q => by cases q) ?_
  rintro r H2 ⟨rfl, S2, o2⟩
  have o3 := Only.trans' o1 o2
  have ef : ∀ u w, endH (.complex .f32 u w) h H2 = H2 := fun u w => endH_len o3.1
  have e : toV (fiC cd) = .complex .f32 (farith .quo .f32 (cf .f32 (FloatKind.f32.nearest (((nvF cd 0 0 % 65 : Nat) : Int) - 32))) 1098907648) (farith .quo .f32 (cf .f32 (FloatKind.f32.nearest (((nvF cd 1 (sdF cd 0 0) % 65 : Nat) : Int) - 32))) 1098907648) := rfl
  rw [e]
  (repeat' first | simp -dsimp (disch := first | omega | assumption | (refine OkS.sto ?_ (by omega); first | assumption | (refine OkS.sto ?_ (by omega); first | assumption | (refine OkS.sto ?_ (by omega); first | assumption | (refine OkS.sto ?_ (by omega); first | assumption | (refine OkS.sto ?_ (by omega); first | assumption | (refine OkS.sto ?_ (by omega); first | assumption)))))) | exact Pfx.refl _ | (apply Pfx.snoc; repeat (first | exact Pfx.refl _ | assumption | apply Pfx.snoc)) | with_unfolding_all exact of_eq_true (eq_true rfl) | (simp only [List.length_append, List.length_cons, List.length_nil]; omega)) only [↓wpre0, ↓wpre1, ↓reduceIte, Int.reduceToNat, Nat.reduceAdd, Nat.reduceMul, Nat.reduceEqDiff, wpost0, wpost1, wpost2, wpost3, wpost4, ite_self, ite_true, ite_false, if_true, if_false, bin_sub, xcv2_35, bin_fquo, blt_cpx, fr37, wrap_int, wrap_u8, iteP_yes, iteP_no, ef] | refine iteP_two (fun hc hd => ?_) (fun hc hd => ?_) | refine iteP_intro (fun hc => ?_) (fun hc => ?_))
  exact o3
theorem FromD_c (hX : X 23 = none) (hV : VS lo hi 1 h x cd.length (cd.map u8v)) (hro : ro ≤ h.length) :
    CallR Try.prog ro X 23 [x] h (fun r h' => r = .pointer (some ⟨h.length, 0, none⟩) ∧ Pfx h h' ∧ h'.length = h.length + 1 ∧ SRD lo hi h.length 0 0 x cd h') := by
  refine callR_of hX Try.func23 rfl (by kernel_rfl) (Nat.le_of_ble_eq_true rfl) ?_
  have sh := hV.shape
  have hc := sh.2.1
  have hb : boxV h 70 (.agg ⟨[x, .int .i64 0, .int .u64 0]⟩) = some (.pointer (some ⟨h.length, 0, none⟩), h ++ [⟨70, [x, .int .i64 0, .int .u64 0]⟩]) := box_go (by
    show (one x && (one (.int .i64 0) && (one (.int .u64 0) && true))) = true
    rw [sh.2.2]
    rfl)
  have hnf : ∀ a, Sim.flat (.pointer a) = false := fun a => rfl
  (repeat' first | simp -dsimp (disch := first | omega | assumption | (refine OkS.sto ?_ (by omega); first | assumption | (refine OkS.sto ?_ (by omega); first | assumption | (refine OkS.sto ?_ (by omega); first | assumption | (refine OkS.sto ?_ (by omega); first | assumption | (refine OkS.sto ?_ (by omega); first | assumption | (refine OkS.sto ?_ (by omega); first | assumption)))))) | exact Pfx.refl _ | (apply Pfx.snoc; repeat (first | exact Pfx.refl _ | assumption | apply Pfx.snoc)) | with_unfolding_all exact of_eq_true (eq_true rfl) | (simp only [List.length_append, List.length_cons, List.length_nil]; omega)) only [↓wpre0, ↓wpre1, ↓reduceIte, Int.reduceToNat, Nat.reduceAdd, Nat.reduceMul, Nat.reduceEqDiff, wpost0, wpost1, wpost2, wpost3, wpost4, ite_self, ite_true, ite_false, if_true, if_false, xbld70_0, fr23, wrap_int, wrap_u8, iteP_yes, iteP_no, hb, endH_not (hnf _)] | refine iteP_two (fun hc hd => ?_) (fun hc hd => ?_) | refine iteP_intro (fun hc => ?_) (fun hc => ?_))
  exact ⟨(Pfx.refl h).snoc, by simp, get_last rfl, hV.pre (Pfx.refl h).snoc⟩
/-! ### Halves -/
def opB (c : CB) : CB := ⟨cf .f32 (Op.negFloat .f32 c.a), cf .f32 (Op.negFloat .f32 c.b)⟩
def hfF (f : Nat → CB) (n j : Nat) : CB := if j < n / 2 then f j else opB (f j)
theorem areW_r (hX : XN X) {n : Nat} (hlen : ∀ h', ablt Try.prog ro .len [29] [x] h' = some (.int .i64 n, h')) (n1 : 1 ≤ n) (n16 : n ≤ 16) (h : Heap) : Ret Try.prog ro X 39 [x] h (.bool true) := by
  have kc := isCnt_r (ro := ro) hX (n : Int)
  have wc : (decide ((1 : Int) ≤ (n : Int)) && decide ((n : Int) ≤ 16)) = true := by simp; omega
  rw [wc] at kc
  refine ret_of (callR_of (hX _ rfl) Try.func39 rfl (by kernel_rfl) (Nat.le_of_ble_eq_true rfl) ?_)
  (repeat' first | simp -dsimp (disch := first | omega | assumption | (refine OkS.sto ?_ (by omega); first | assumption | (refine OkS.sto ?_ (by omega); first | assumption | (refine OkS.sto ?_ (by omega); first | assumption | (refine OkS.sto ?_ (by omega); first | assumption | (refine OkS.sto ?_ (by omega); first | assumption | (refine OkS.sto ?_ (by omega); first | assumption)))))) | exact Pfx.refl _ | (apply Pfx.snoc; repeat (first | exact Pfx.refl _ | assumption | apply Pfx.snoc)) | with_unfolding_all exact of_eq_true (eq_true rfl) | (simp only [List.length_append, List.length_cons, List.length_nil]; omega)) only [↓wpre0, ↓wpre1, ↓reduceIte, Int.reduceToNat, Nat.reduceAdd, Nat.reduceMul, Nat.reduceEqDiff, wpost0, wpost1, wpost2, wpost3, wpost4, ite_self, ite_true, ite_false, if_true, if_false, xlen29, fr39, wrap_int, wrap_u8, iteP_yes, iteP_no, hlen, kc] | refine iteP_two (fun hc hd => ?_) (fun hc hd => ?_) | refine iteP_intro (fun hc => ?_) (fun hc => ?_))
def smB (f : Nat → CB) : Nat → CB
  | 0 => zeB
  | n + 1 => addB (smB f n) (f n)
end Go.Proofs.Ytkhipobafchilaa.Sim

/- Sums of sixteenths that cancel. Lemmas only; no condition. -/
set_option linter.unusedSimpArgs false
set_option linter.unusedVariables false
set_option maxRecDepth 8000
namespace Go.Proofs.Ytkhipobafchilaa.Sim
open Go Go.RowKit Fl
/-- What bits of a narrow float are worth, in units of 2 ^ -64. -/
def tV (b : Nat) : Nat := (8388608 + b % 8388608) * 2 ^ (b / 8388608 - 86)
theorem tV_fin {b : Nat} (h1 : 86 ≤ b / 8388608) (h2 : b / 8388608 < 255) : Fl.fin .f32 b ((tV b : Nat) * 2 ^ 85) ∧ Fl.fin .f32 (b + 2147483648) (-((tV b : Nat) : Int) * 2 ^ 85) := by
  have hB : FloatKind.f32.format.binade = 8388608 := by decide
  have hS : FloatKind.f32.format.signWeight = 2147483648 := by decide
  have hI : FloatKind.f32.format.infRung = 2139095040 := by decide
  have hlt : b < 2139095040 := by omega
  have hd : FloatKind.f32.decode b = .number false (8388608 + b % 8388608) (lp .f32 + (b / 8388608 - 1 : Nat)) := by
    unfold FloatKind.decode Ieee.Format.read
    have e1 : b / 2147483648 = 0 := Nat.div_eq_of_lt (by omega)
    have e2 : b % 2147483648 = b := Nat.mod_eq_of_lt (by omega)
    simp only [hS, e1, e2, hB, hI]
    rw [if_neg (by omega), if_pos hlt]
    rfl
  have hd' : FloatKind.f32.decode (b + 2147483648) = .number true (8388608 + b % 8388608) (lp .f32 + (b / 8388608 - 1 : Nat)) := by
    unfold FloatKind.decode Ieee.Format.read
    have e1 : (b + 2147483648) / 2147483648 = 1 := by omega
    have e2 : (b + 2147483648) % 2147483648 = b := by omega
    simp only [hS, e1, e2, hB, hI]
    rw [if_neg (by omega), if_pos hlt]
    rfl
  have e : b / 8388608 - 1 = (b / 8388608 - 86) + 85 := by omega
  unfold tV
  refine ⟨⟨false, _, _, hd, ?_⟩, ⟨true, _, _, hd', ?_⟩⟩
  · rw [e]
    generalize b / 8388608 - 86 = q
    generalize 8388608 + b % 8388608 = m
    simp only [sg, Bool.false_eq_true, if_false]
    rw [Int.natCast_mul, Int.natCast_pow, Int.pow_add, Int.mul_assoc]
    rfl
  · rw [e]
    generalize b / 8388608 - 86 = q
    generalize 8388608 + b % 8388608 = m
    simp only [sg, if_true]
    rw [Int.natCast_mul, Int.natCast_pow, Int.pow_add, ← Int.mul_assoc, Int.neg_mul, Int.neg_mul, Int.neg_mul]
    rfl
def fiT (v : Nat) : Int := (v : Int) - 32
def fiOk (v : Nat) : Bool :=
  let b := fiF v
  if v = 32 then b == 0 else if v < 32 then decide (2147483648 ≤ b) && decide (86 ≤ (b - 2147483648) / 8388608) && decide ((b - 2147483648) / 8388608 < 255) && decide (-((tV (b - 2147483648) : Nat) : Int) = fiT v * 1152921504606846976)
  else decide (86 ≤ b / 8388608) && decide (b / 8388608 < 255) && decide (((tV b : Nat) : Int) = fiT v * 1152921504606846976)
theorem fi_all : (List.range 65).all fiOk = true := by kernel_rfl
theorem fi_fin {v c : Nat} (hc : c = 145) (hv : v < 65) : Fl.fin .f32 (fiF v) (fiT v * 2 ^ c) := by
  have h := (List.all_eq_true.1 fi_all) v (List.mem_range.2 hv)
  have e : (2 : Int) ^ c = 1152921504606846976 * 2 ^ 85 := by rw [hc, show 145 = 60 + 85 from rfl, Int.pow_add]; rfl
  unfold fiOk at h
  by_cases q : v = 32
  · simp only [if_pos q] at h
    rw [eq_of_beq h, q]
    have : fiT 32 = 0 := rfl
    rw [this, Int.zero_mul]; exact zero_fin
  · simp only [if_neg q] at h
    by_cases q2 : v < 32
    · simp only [if_pos q2, Bool.and_eq_true, decide_eq_true_eq] at h
      obtain ⟨⟨⟨h0, h1⟩, h2⟩, h3⟩ := h
      have := (tV_fin h1 h2).2
      rw [show fiF v - 2147483648 + 2147483648 = fiF v by omega, h3, Int.mul_assoc, ← e] at this
      exact this
    · simp only [if_neg q2, Bool.and_eq_true, decide_eq_true_eq] at h
      obtain ⟨⟨h1, h2⟩, h3⟩ := h
      have := (tV_fin h1 h2).1
      rw [h3, Int.mul_assoc, ← e] at this
      exact this
/-- Sums of the parts. -/
def smP (g : Nat → Nat) : Nat → Nat
  | 0 => 0
  | n + 1 => farith .add .f32 (smP g n) (g n)
theorem smB_eq {f : Nat → CB} : ∀ n, smB f n = ⟨smP (fun i => (f i).a) n, smP (fun i => (f i).b) n⟩
  | 0 => rfl
  | n + 1 => by
    have ih := smB_eq (f := f) n
    show addB (smB f n) (f n) = _
    rw [ih]; rfl
theorem smP_fin {g : Nat → Nat} {c : Nat} {T : Nat → Int} (hc : c = 145) : ∀ {n : Nat}, n ≤ 16 → (∀ i, i < n → Fl.fin .f32 (g i) (T i * 2 ^ c) ∧ (T i).natAbs ≤ 32) → Fl.fin .f32 (smP g n) (((List.range n).map T).sum * 2 ^ c) ∧ (((List.range n).map T).sum).natAbs ≤ 32 * n := by
  intro n
  induction n with
  | zero =>
    intro _ _
    refine ⟨?_, by simp⟩
    simp only [List.range_zero, List.map_nil, List.sum_nil, Int.zero_mul]
    exact zero_fin
  | succ n ih =>
    intro hn hg
    obtain ⟨h1, h2⟩ := ih (by omega) (fun i hi => hg i (by omega))
    obtain ⟨g1, g2⟩ := hg n (by omega)
    have e : ((List.range (n + 1)).map T).sum = ((List.range n).map T).sum + T n := by rw [List.range_succ, List.map_append, List.sum_append]; simp
    rw [e]
    generalize ((List.range n).map T).sum = S at *
    have hb : (S + T n).natAbs ≤ 32 * (n + 1) := by omega
    refine ⟨add_fx h1 g1 ?_ ?_, hb⟩
    · exact Nat.lt_of_le_of_lt hb (Nat.lt_of_le_of_lt (show 32 * (n + 1) ≤ 1024 by omega) (by decide))
    · have et : top .f32 = (top .f32 - c) + c := by rw [hc]; rfl
      rw [et, Nat.pow_add]
      refine Nat.mul_lt_mul_of_pos_right (Nat.lt_of_le_of_lt (Nat.le_trans hb (show 32 * (n + 1) ≤ 1024 by omega)) (Nat.lt_of_lt_of_le (show 1024 < 2 ^ 21 by decide) (Nat.pow_le_pow_right (by decide) ?_))) (Nat.two_pow_pos c)
      rw [hc]; decide
theorem half_sum (t : Int) (h : Nat) : ∀ n, h ≤ n → ((List.range n).map fun i => if i < h then t else -t).sum = (2 * (h : Int) - n) * t := by
  intro n
  have key : ∀ m, ((List.range m).map fun i => if i < h then t else -t).sum = if m ≤ h then (m : Int) * t else (2 * (h : Int) - m) * t := by
    intro m
    induction m with
    | zero => simp
    | succ m ih =>
      rw [List.range_succ, List.map_append, List.sum_append, ih]
      simp only [List.map_cons, List.map_nil, List.sum_cons, List.sum_nil, Int.add_zero]
      have e : ((m + 1 : Nat) : Int) = (m : Int) + 1 := by omega
      rw [e]
      by_cases q : m < h
      · simp only [if_pos q, if_pos (show m ≤ h by omega), if_pos (show m + 1 ≤ h by omega)]
        grind
      · simp only [if_neg q, if_neg (show ¬ m + 1 ≤ h by omega)]
        by_cases q2 : m ≤ h
        · have : m = h := by omega
          subst this
          simp only [if_pos q2]
          grind
        · simp only [if_neg q2]
          grind
  intro hn
  rw [key]
  by_cases q : n ≤ h
  · have : n = h := by omega
    subst this
    rw [if_pos q]; grind
  · rw [if_neg q]
/-- The sum of halves that are opposite. -/
theorem halves_zero {cd : List UInt8} {n : Nat} (n16 : n ≤ 16) (ho : n % 2 = 0) : fcmp .eql .f32 (smB (hfF (fun _ => fiC cd) n) n).a 0 = true ∧ fcmp .eql .f32 (smB (hfF (fun _ => fiC cd) n) n).b 0 = true := by
  obtain ⟨c, hc⟩ : ∃ c, c = 145 := ⟨_, rfl⟩
  rw [smB_eq]
  have one : ∀ {g : Nat → Nat} {v : Nat}, v < 65 → (∀ i, g i = if i < n / 2 then fiF v else cf .f32 (Op.negFloat .f32 (fiF v))) → fcmp .eql .f32 (smP g n) 0 = true := fun {g v} hv hg => by
    have f := fi_fin hc hv
    have nf := neg_fin f
    rw [← Int.neg_mul] at nf
    obtain ⟨h1, _⟩ := smP_fin (g := g) (T := fun i => if i < n / 2 then fiT v else -fiT v) hc n16 (fun i _ => by
      rw [hg i]
      have hb : (fiT v).natAbs ≤ 32 := by unfold fiT; omega
      by_cases q : i < n / 2
      · rw [if_pos q, if_pos q]; exact ⟨f, hb⟩
      · rw [if_neg q, if_neg q]; exact ⟨nf, by rw [Int.natAbs_neg]; exact hb⟩)
    rw [half_sum (fiT v) (n / 2) n (by omega)] at h1
    have e0 : (2 * ((n / 2 : Nat) : Int) - n) = 0 := by omega
    rw [e0, Int.zero_mul, Int.zero_mul] at h1
    rw [cmp_eq h1 zero_fin]
    rfl
  refine ⟨one (v := nvF cd 0 0 % 65) (Nat.mod_lt _ (by decide)) (fun i => ?_), one (v := nvF cd 1 (sdF cd 0 0) % 65) (Nat.mod_lt _ (by decide)) (fun i => ?_)⟩
  · unfold hfF
    split <;> rfl
  · unfold hfF
    split <;> rfl
end Go.Proofs.Ytkhipobafchilaa.Sim

/- The law FnNulls, but for how near sums are to nothing. Lemmas only; no condition. -/
set_option linter.unusedSimpArgs false
set_option linter.unusedVariables false
set_option maxRecDepth 8000
namespace Go.Proofs.Ytkhipobafchilaa.Sim
open Go Go.RowKit Fl
variable {ro lo hi lo' hi' n : Nat} {X : Ext} {h : Heap} {x y : Value} {l : List Int} {u v : Int} {cd md : List UInt8}
theorem milliN_fin {c : Nat} (hc : c = 1012) : Fl.fin .f64 4562254508917369340 (((4611686018427388 : Nat) : Int) * 2 ^ c) := by
  subst hc
  exact ⟨false, 4611686018427388, 1012, by decide +kernel, rfl⟩
theorem milliN_not {b : Nat} (h : bd .f64 1064 b) : fcmp .lss .f64 4562254508917369340 b = false := by
  obtain ⟨c, hc⟩ : ∃ c, c = 1012 := ⟨_, rfl⟩
  obtain ⟨w, hw⟩ : ∃ w, w = 1064 := ⟨_, rfl⟩
  rw [← hw] at h
  obtain ⟨v, h1, h2⟩ := h
  rw [cmp_lt (milliN_fin hc) h1]
  refine decide_eq_false fun q => ?_
  have e : 2 ^ w ≤ 4611686018427388 * 2 ^ c := by
    rw [show w = 52 + c by omega, Nat.pow_add]
    exact Nat.mul_le_mul_right _ (by decide)
  have e2 : ((4611686018427388 : Nat) : Int) * 2 ^ c = ((4611686018427388 * 2 ^ c : Nat) : Int) := by rw [Int.natCast_mul, Int.natCast_pow]; rfl
  rw [e2] at q
  generalize 4611686018427388 * 2 ^ c = z at *
  generalize 2 ^ w = y at *
  omega
theorem finN_root {b w t : Nat} {v : Int} (h : Fl.fin .f64 b v) (h0 : 0 ≤ v) (hv : v.natAbs ≤ 2 ^ w) (ht : t + t = w + 1076) (hu : t ≤ 2096) : ∃ r, FloatKind.f64.format.sqrt b = some r ∧ bd .f64 t r := by
  obtain ⟨s, m, e, hd, rfl⟩ := h
  rw [abs_mul_pow, sg_abs] at hv
  refine sqrt_bd hd (fun hm => ?_) hv ht hu
  cases s with
  | false => rfl
  | true =>
    exfalso
    have hp := Fl.pow_pos e
    have : sg true m < 0 := by simp [sg]; omega
    have := Int.mul_neg_of_neg_of_pos this hp
    omega
theorem lineN_good {c s : Nat} (c1 : 1 ≤ c) (c2 : c ≤ 5) (s1 : 1 ≤ s) (s2 : s ≤ 64) : goodP c (grL c s 0 c) := by
  refine ⟨c1, by omega, fun i hi => ?_, fun i k hi hk => ?_⟩
  · obtain ⟨e1, e2⟩ := grL_at (c := c) (dx := (s : Int)) (dy := 0) hi
    have hm : (((i % c : Nat) : Int) * (s : Int)).natAbs ≤ 4 * 64 := by
      rw [Int.natAbs_mul, Int.natAbs_natCast, Int.natAbs_natCast]
      exact Nat.mul_le_mul (by have := Nat.mod_lt i c1; omega) s2
    unfold plB cdB
    rw [e1, e2, Int.mul_zero]
    have h0 : 0 ≤ ((i % c : Nat) : Int) * (s : Int) := Int.mul_nonneg (by omega) (by omega)
    simp only [Bool.and_eq_true, decide_eq_true_eq]
    omega
  · obtain ⟨e1, e2⟩ := grL_at (c := c) (dx := (s : Int)) (dy := 0) hi
    obtain ⟨e3, e4⟩ := grL_at (c := c) (dx := (s : Int)) (dy := 0) (show k < c by omega)
    unfold samB
    rw [e1, e2, e3, e4, Nat.mod_eq_of_lt hi, Nat.mod_eq_of_lt (show k < c by omega)]
    refine Bool.eq_false_iff.2 fun q => ?_
    simp only [Bool.and_eq_true, decide_eq_true_eq] at q
    have := Int.eq_of_mul_eq_mul_right (by omega) q.1
    omega
theorem LineN_c {c s : Nat} (hX : XN X) (c1 : 1 ≤ c) (c2 : c ≤ 5) (s1 : 1 ≤ s) (s2 : s ≤ 64) (hro : ro ≤ h.length) :
    CallR Try.prog ro X 18 [.int .i64 c, .int .i64 s] h (fun r h' => ∃ z, r = .tuple ⟨[z, .bool true]⟩ ∧ Pfx h h' ∧ VG h.length 51 2 h' z c (vints (grL c s 0 c))) := by
  have hg := lineN_good c1 c2 s1 s2
  have hs : cdB (s : Int) = true := by unfold cdB; simp only [Bool.and_eq_true, decide_eq_true_eq]; omega
  refine callR_of (hX _ rfl) Try.func18 rfl (by kernel_rfl) (Nat.le_of_ble_eq_true rfl) ?_
  (repeat' first | simp -dsimp (disch := first | omega | assumption | (refine OkS.sto ?_ (by omega); first | assumption | (refine OkS.sto ?_ (by omega); first | assumption | (refine OkS.sto ?_ (by omega); first | assumption | (refine OkS.sto ?_ (by omega); first | assumption | (refine OkS.sto ?_ (by omega); first | assumption | (refine OkS.sto ?_ (by omega); first | assumption)))))) | exact Pfx.refl _ | (apply Pfx.snoc; repeat (first | exact Pfx.refl _ | assumption | apply Pfx.snoc)) | with_unfolding_all exact of_eq_true (eq_true rfl) | (simp only [List.length_append, List.length_cons, List.length_nil]; omega)) only [↓wpre0, ↓wpre1, ↓reduceIte, Int.reduceToNat, Nat.reduceAdd, Nat.reduceMul, Nat.reduceEqDiff, wpost0, wpost1, wpost2, wpost3, wpost4, ite_self, ite_true, ite_false, if_true, if_false, fr18, wrap_int, wrap_u8, iteP_yes, iteP_no] | refine iteP_two (fun hc hd => ?_) (fun hc hd => ?_) | refine iteP_intro (fun hc => ?_) (fun hc => ?_))
  refine cf_rel (Grid_c (n := c) (c := c) (r := 1) (dx := (s : Int)) (dy := 0) hX c1 (by omega) (by decide) (by decide) (by omega) hs (by decide) hg hro) (fun q => by cases q) ?_
  rintro r h2 ⟨z, rfl, hp, hZ⟩
  have hnf : Sim.flat (.tuple ⟨[z, .bool true]⟩) = false := by obtain ⟨_, b, cap, rfl, _⟩ := hZ; rfl
  (repeat' first | simp -dsimp (disch := first | omega | assumption | (refine OkS.sto ?_ (by omega); first | assumption | (refine OkS.sto ?_ (by omega); first | assumption | (refine OkS.sto ?_ (by omega); first | assumption | (refine OkS.sto ?_ (by omega); first | assumption | (refine OkS.sto ?_ (by omega); first | assumption | (refine OkS.sto ?_ (by omega); first | assumption)))))) | exact Pfx.refl _ | (apply Pfx.snoc; repeat (first | exact Pfx.refl _ | assumption | apply Pfx.snoc)) | with_unfolding_all exact of_eq_true (eq_true rfl) | (simp only [List.length_append, List.length_cons, List.length_nil]; omega)) only [↓wpre0, ↓wpre1, ↓reduceIte, Int.reduceToNat, Nat.reduceAdd, Nat.reduceMul, Nat.reduceEqDiff, wpost0, wpost1, wpost2, wpost3, wpost4, ite_self, ite_true, ite_false, if_true, if_false, fr18, wrap_int, wrap_u8, iteP_yes, iteP_no, endH_not hnf] | refine iteP_two (fun hc hd => ?_) (fun hc hd => ?_) | refine iteP_intro (fun hc => ?_) (fun hc => ?_))
  exact ⟨z, rfl, hp, hZ⟩
/-- What the law asks of the numbers. -/
def NulOk (s m : Nat) (l : List Int) : Prop := (∀ j k, j < m → k ≤ j + 1 → okM (nuZ s l j) (plF (nuZ s l) j k)) ∧ ∀ r, r < m → (∀ k, k < m + 1 → okM (cjB (cjB (plF (nuZ s l) m k))) (PH (stpN (grL (m + 1) s 0 (m + 1)) (nth l r) 0 k))) ∧ bdC 137 (dotB (fun k => cjB (cjB (plF (nuZ s l) m k))) (fun k => PH (stpN (grL (m + 1) s 0 (m + 1)) (nth l r) 0 k)) (m + 1))
/-- All but the first. -/
theorem tail_1 {lo n : Nat} {L : List Value} (g : VG lo 32 1 h x n L) (hn : 1 ≤ n) : ∃ y, slc Try.prog ro h 29 x (some (.int .i64 1)) none none = some y ∧ ∀ h', ablt Try.prog ro .len [29] [y] h' = some (.int .i64 ((n - 1 : Nat) : Int), h') := by
  obtain ⟨hl, b, cap, rfl, hb, hg, hc⟩ := g
  refine ⟨.slice (some ⟨b, 0 + 1 * 1, none⟩) (n - 1) (if cap = n then n - 1 else n - 1 + 1), ?_, fun h' => len_slc Try.underlying29⟩
  have ty : ro ≤ b → (h[b]?).map (·.ty) = some 32 := fun _ => by rw [hg]; rfl
  unfold slc
  simp only [Try.underlying29, bnd, Option.bind_some, tsz32]
  rw [if_pos ⟨by omega, by omega, Int.le_refl _, Int.le_refl _, ty, by simp⟩]
  have e1 : ((n : Int) - 1).toNat = n - 1 := by omega
  rw [e1]
  simp
end Go.Proofs.Ytkhipobafchilaa.Sim

/- Sums of turns in the table, more exact. Lemmas only; no condition. -/
set_option linter.unusedSimpArgs false
set_option linter.unusedVariables false
set_option maxRecDepth 8000
namespace Go.Proofs.Ytkhipobafchilaa.Sim
open Go Go.RowKit Fl
theorem pow_near {N : Nat} (hN : N = 1024) : 2 ^ 97 * 513 ^ N ≤ 2 ^ 100 * 512 ^ N := by
  have h := pow_by (a := 513) (b := 512) (c := 5) (d := 8) (e := 3) (m := 256) (n := N) (k := 4) (by decide +kernel) (by rw [hN]) (by decide) (by decide)
  have h2 := Nat.mul_le_mul_left (2 ^ 97) h
  rw [← Nat.mul_assoc] at h2
  exact h2
theorem q_near0 {W : Nat → Nat} (T : Tab W) (s : Nat) {t : Nat} (ht : t ≤ 1024) : (qX W (s + t) * 18446744073709551616 - (qX W s * qX W t - qY W s * qY W t)).natAbs ≤ 2 ^ 100 ∧ (qY W (s + t) * 18446744073709551616 - (qX W s * qY W t + qY W s * qX W t)).natAbs ≤ 2 ^ 100 := by
  obtain ⟨w, h1, h2, h3⟩ := q_turn T s t
  obtain ⟨N, hN⟩ : ∃ N, N = 1024 := ⟨_, rfl⟩
  have hw : w ≤ 2 ^ 100 := by
    have e1 : w * 512 ^ t ≤ 2 ^ 97 * 513 ^ t := Nat.le_trans (Nat.mul_le_mul_right _ (Nat.le_add_right _ _)) h3
    have e2 : w * 512 ^ t * 512 ^ (N - t) ≤ 2 ^ 97 * 513 ^ t * 513 ^ (N - t) := Nat.mul_le_mul e1 (Nat.pow_le_pow_left (by decide) _)
    rw [Nat.mul_assoc, Nat.mul_assoc, ← Nat.pow_add, ← Nat.pow_add, show t + (N - t) = N by omega] at e2
    exact Nat.le_of_mul_le_mul_right (Nat.le_trans e2 (pow_near hN)) (Nat.pow_pos (by decide))
  exact ⟨Nat.le_trans h1 hw, Nat.le_trans h2 hw⟩
theorem q_quarter (W : Nat → Nat) (s q : Nat) : qX W (s + 1024 * q) = rotX (q % 4) (qX W s) (qY W s) ∧ qY W (s + 1024 * q) = rotY (q % 4) (qX W s) (qY W s) := by
  have e1 : (s + 1024 * q) / 1024 % 4 = (s / 1024 % 4 + q % 4) % 4 := by omega
  have e2 : (s + 1024 * q) % 1024 = s % 1024 := by omega
  unfold qX qY
  rw [e1, e2]
  have h1 : s / 1024 % 4 = 0 ∨ s / 1024 % 4 = 1 ∨ s / 1024 % 4 = 2 ∨ s / 1024 % 4 = 3 := by omega
  have h2 : q % 4 = 0 ∨ q % 4 = 1 ∨ q % 4 = 2 ∨ q % 4 = 3 := by omega
  rcases h1 with h1 | h1 | h1 | h1 <;> rcases h2 with h2 | h2 | h2 | h2 <;> rw [h1, h2] <;> simp [rotX, rotY]
/-- The turn of a sum, for any two turns. -/
theorem q_near2 {W : Nat → Nat} (T : Tab W) (s t : Nat) : (qX W (s + t) * 18446744073709551616 - (qX W s * qX W t - qY W s * qY W t)).natAbs ≤ 2 ^ 100 ∧ (qY W (s + t) * 18446744073709551616 - (qX W s * qY W t + qY W s * qX W t)).natAbs ≤ 2 ^ 100 := by
  obtain ⟨h1, h2⟩ := q_near0 T s (t := t % 1024) (by omega)
  have et : t = t % 1024 + 1024 * (t / 1024) := by omega
  have es : s + t = (s + t % 1024) + 1024 * (t / 1024) := by omega
  obtain ⟨a1, a2⟩ := q_quarter W (s + t % 1024) (t / 1024)
  obtain ⟨b1, b2⟩ := q_quarter W (t % 1024) (t / 1024)
  rw [← es] at a1 a2
  rw [← et] at b1 b2
  rw [a1, a2, b1, b2]
  generalize qX W (s + t % 1024) = A at *
  generalize qY W (s + t % 1024) = B at *
  generalize qX W (t % 1024) = c at *
  generalize qY W (t % 1024) = d at *
  generalize qX W s = a at *
  generalize qY W s = b at *
  generalize 2 ^ 100 = R at *
  have h : t / 1024 % 4 = 0 ∨ t / 1024 % 4 = 1 ∨ t / 1024 % 4 = 2 ∨ t / 1024 % 4 = 3 := by omega
  rcases h with h | h | h | h <;> rw [h] <;> simp only [rotX, rotY, Nat.reduceEqDiff, if_true, if_false, ↓reduceIte, Int.neg_mul, Int.mul_neg] <;> omega
end Go.Proofs.Ytkhipobafchilaa.Sim

/- Products and differences of what is near, with bounds that are told. Lemmas only; no condition. -/
set_option linter.unusedSimpArgs false
set_option linter.unusedVariables false
set_option maxRecDepth 8000
namespace Go.Proofs.Ytkhipobafchilaa.Sim
open Go Go.RowKit Fl
theorem near_absG {v X : Int} {E M k : Nat} (h : (v - X * 2 ^ 85).natAbs ≤ E * 2 ^ 85) (hX : X.natAbs + E ≤ 2 ^ k) : v.natAbs ≤ 2 ^ (k + 85) := by
  refine abs_sum h (q := X.natAbs * 2 ^ 85) (by rw [abs_mul_pow]; exact Nat.le_refl _) ?_
  rw [← Nat.add_mul, Nat.pow_add]
  exact Nat.mul_le_mul_right _ (by omega)
theorem prodG {a b : Nat} {X Y : Int} {E F m D j k1 k2 : Nat} (hk : k1 + k2 ≤ 138) (hj : j = 170) (hm : m = 776) (hD : D = 925) (ha : nearP a X E) (hb : nearP b Y F) (hE : X.natAbs + E ≤ 2 ^ k1) (hF : Y.natAbs + F ≤ 2 ^ k2) : okW a ∧ okW b ∧ ∃ p, Fl.fin .f64 (farith .mul .f64 (wd a) (wd b)) p ∧ (p - X * Y * 2 ^ j * 2 ^ m).natAbs ≤ 2 ^ (m + 255) + (E * (Y.natAbs + F) + X.natAbs * F) * 2 ^ j * 2 ^ m ∧ p.natAbs ≤ 2 ^ (m + 308) := by
  obtain ⟨va, hva, ea⟩ := ha
  obtain ⟨vb, hvb, eb⟩ := hb
  have bA := near_absG (M := 0) (k := k1) ea hE
  have bB := near_absG (M := 0) eb hF
  have bB' : vb.natAbs ≤ (Y.natAbs + F) * 2 ^ 85 := by
    have := abs_sum eb (q := Y.natAbs * 2 ^ 85) (r := (Y.natAbs + F) * 2 ^ 85) (by rw [abs_mul_pow]; exact Nat.le_refl _) (by rw [← Nat.add_mul, Nat.add_comm]; exact Nat.le_refl _)
    exact this
  obtain ⟨c, hc⟩ : ∃ c, c = 308 := ⟨_, rfl⟩
  have q1 := abs_prod ea eb bB' (show (X * 2 ^ 85).natAbs ≤ X.natAbs * 2 ^ 85 by rw [abs_mul_pow]; exact Nat.le_refl _)
  have e : X * 2 ^ 85 * (Y * 2 ^ 85) = X * Y * 2 ^ j := by
    rw [pow_split2 (show j = 85 + 85 by omega)]
    simp only [Int.mul_assoc, Int.mul_left_comm]
  rw [e] at q1
  have e1 : E * 2 ^ 85 * ((Y.natAbs + F) * 2 ^ 85) + X.natAbs * 2 ^ 85 * (F * 2 ^ 85) = (E * (Y.natAbs + F) + X.natAbs * F) * 2 ^ j := by
    rw [show (2 : Nat) ^ j = 2 ^ 85 * 2 ^ 85 by rw [← Nat.pow_add, show j = 85 + 85 by omega]]
    generalize (2 : Nat) ^ 85 = z
    generalize Y.natAbs + F = y
    grind
  rw [e1] at q1
  have q2 : (va * vb).natAbs ≤ 2 ^ c := by
    rw [Int.natAbs_mul]
    refine Nat.le_trans (Nat.mul_le_mul bA bB) ?_
    rw [← Nat.pow_add]
    exact Nat.pow_le_pow_right (by decide) (by omega)
  have wa := wd_fin hva
  have wb := wd_fin hvb
  rw [← hD] at wa wb
  have hN : (-lp .f64).toNat = 1074 := by decide
  have okw : ∀ {c : Nat} {v : Int}, Fl.fin .f32 c v → okW c := fun hc => by
    obtain ⟨r, h1, _⟩ := widen_fin hc
    exact (okW_of h1).1
  obtain ⟨p, h1, h2, h3⟩ := mul_err (u := m + 308) wa wb (by
    have e : va * 2 ^ D * (vb * 2 ^ D) = va * vb * 2 ^ (D + D) := by rw [Int.pow_add]; simp only [Int.mul_assoc, Int.mul_left_comm]
    rw [e, abs_mul_pow]
    exact mul_pow_le (n := m + 308 + (-lp .f64).toNat) (b := c) (m := D + D) q2 (by rw [hN]; omega)) (by rw [mx64]; omega)
  refine ⟨okw hva, okw hvb, p, h1, ?_, h2⟩
  have hf : FloatKind.f64.format.fractionBits = 52 := rfl
  rw [hf] at h3
  have e : va * 2 ^ D * (vb * 2 ^ D) = va * vb * 2 ^ D * 2 ^ D := by simp only [Int.mul_assoc, Int.mul_left_comm]
  rw [e, show m + 308 - 52 = (m + 255) + 1 by omega] at h3
  exact prod_core (by rw [hN]; omega) h3 q1
/-- A wide float, narrowed: told by how great it is. -/
theorem partG {b m D V k : Nat} {s T : Int} (hD : D = 925) (hk : k ≤ 72) (hb : Fl.fin .f64 b s) (hs : (s - T * 2 ^ 85 * 2 ^ D).natAbs ≤ V * 2 ^ 85 * 2 ^ D) (hT : T.natAbs + V ≤ 2 ^ k) (hk1 : 62 ≤ k) : okN b ∧ nearP (nr b) T (V + 2 ^ (k - 24)) := by
  have hsb : s.natAbs ≤ 2 ^ (k + 85 + D) := by
    refine abs_sum hs (q := T.natAbs * 2 ^ 85 * 2 ^ D) (by rw [abs_mul_pow, abs_mul_pow]; exact Nat.le_refl _) ?_
    rw [← Nat.add_mul, ← Nat.add_mul, Nat.pow_add, Nat.pow_add]
    exact Nat.mul_le_mul_right _ (Nat.mul_le_mul_right _ (by omega))
  rw [hD] at hsb
  obtain ⟨r, w, h1, h2, h3, h4⟩ := narrow_err (u := k + 85) hb hsb (by omega)
  obtain ⟨k1, k2⟩ := okN_of h1
  rw [← hD] at h4
  have h5 : (w * 2 ^ D - s).natAbs ≤ 2 ^ (k - 24) * 2 ^ 85 * 2 ^ D := by
    have e : (2 : Nat) ^ (D + (k + 85 - 23)) = 2 * (2 ^ (k - 24) * 2 ^ 85 * 2 ^ D) := by
      rw [← Nat.pow_add, ← Nat.pow_add, ← Nat.pow_succ']
      congr 1
      omega
    rw [e, Int.natAbs_mul] at h4
    exact Nat.le_of_mul_le_mul_left h4 (by decide)
  have h6 := abs_tri h5 hs
  refine ⟨k1, w, by rw [k2]; exact h2, ?_⟩
  have e : w * 2 ^ D - T * 2 ^ 85 * 2 ^ D = (w - T * 2 ^ 85) * 2 ^ D := (Int.sub_mul _ _ _).symm
  rw [e, abs_mul_pow, ← Nat.add_mul, ← Nat.add_mul, Nat.add_comm (2 ^ (k - 24))] at h6
  exact Nat.le_of_mul_le_mul_right h6 (Nat.two_pow_pos D)
theorem subG {a b : Nat} {X Y : Int} {E F k : Nat} (hk : k ≤ 72) (hk1 : 62 ≤ k) (ha : nearP a X E) (hb : nearP b Y F) (h : X.natAbs + Y.natAbs + (E + F) ≤ 2 ^ k) : nearP (farith .sub .f32 a b) (X - Y) (E + F + 2 ^ (k - 24)) := by
  obtain ⟨va, h1, h2⟩ := ha
  obtain ⟨vb, h3, h4⟩ := hb
  have h5 := abs_sub2 h2 h4
  rw [← Int.sub_mul, ← Nat.add_mul] at h5
  have hs : (va - vb).natAbs ≤ 2 ^ (k + 85) := by
    refine abs_sum h5 (q := (X.natAbs + Y.natAbs) * 2 ^ 85) (by rw [abs_mul_pow]; exact Nat.mul_le_mul_right _ (Int.natAbs_sub_le X Y)) ?_
    rw [← Nat.add_mul, Nat.pow_add]
    exact Nat.mul_le_mul_right _ (by omega)
  obtain ⟨v, g1, _, g3⟩ := sub_err (u := k + 85) h1 h3 hs (by show _ ≤ 275; omega)
  have hf : FloatKind.f32.format.fractionBits = 23 := rfl
  rw [hf, show k + 85 - 23 = (k - 24 + 85) + 1 by omega] at g3
  have g4 := abs_tri (half_le g3) h5
  refine ⟨v, g1, Nat.le_trans g4 ?_⟩
  rw [Nat.add_mul (E + F), Nat.pow_add, Nat.add_comm]
  exact Nat.le_refl _
/-- From the float of 64 digits to the target. -/
theorem finG {s R T : Int} {A B N V m D j a : Nat} (hj : j = 170) (ha : a = 66) (hm : m = 776) (hD : D = 925) (h : (s - R * 2 ^ j * 2 ^ m).natAbs ≤ 2 ^ (m + 256) + (2 ^ (m + 255) + A * 2 ^ j * 2 ^ m + (2 ^ (m + 255) + B * 2 ^ j * 2 ^ m))) (hAB : A + B ≤ N) (hW : N + 2 ^ 89 ≤ V * 2 ^ 64) (hT : (T * 2 ^ 64 - R).natAbs ≤ 2 ^ a) : (s - T * 2 ^ 85 * 2 ^ D).natAbs ≤ V * 2 ^ 85 * 2 ^ D := by
  have e : T * 2 ^ 85 * 2 ^ D = T * 2 ^ 64 * 2 ^ j * 2 ^ m := by
    rw [Int.mul_assoc, Int.mul_assoc (T * 2 ^ 64), Int.mul_assoc T, ← Int.pow_add, ← Int.pow_add, ← Int.pow_add]
    congr 2
    omega
  have e2 : R * 2 ^ j * 2 ^ m - T * 2 ^ 85 * 2 ^ D = -((T * 2 ^ 64 - R) * 2 ^ j * 2 ^ m) := by
    rw [e, Int.sub_mul, Int.sub_mul]; omega
  have h1 : (R * 2 ^ j * 2 ^ m - T * 2 ^ 85 * 2 ^ D).natAbs ≤ 2 ^ a * 2 ^ j * 2 ^ m := by
    rw [e2, Int.natAbs_neg, abs_mul_pow, abs_mul_pow]
    exact Nat.mul_le_mul_right _ (Nat.mul_le_mul_right _ hT)
  refine Nat.le_trans (abs_tri h h1) ?_
  have eV : V * 2 ^ 85 * 2 ^ D = V * 2 ^ 64 * (2 ^ j * 2 ^ m) := by
    rw [Nat.mul_assoc, Nat.mul_assoc V, ← Nat.pow_add, ← Nat.pow_add, ← Nat.pow_add]
    congr 2
    omega
  obtain ⟨b5, hb5⟩ : ∃ b, b = 85 := ⟨_, rfl⟩
  obtain ⟨b6, hb6⟩ : ∃ b, b = 86 := ⟨_, rfl⟩
  have e5 : 2 ^ (m + 255) = 2 ^ b5 * (2 ^ j * 2 ^ m) := by rw [show m + 255 = b5 + (j + m) by omega, Nat.pow_add, Nat.pow_add]
  have e6 : 2 ^ (m + 256) = 2 ^ b6 * (2 ^ j * 2 ^ m) := by rw [show m + 256 = b6 + (j + m) by omega, Nat.pow_add, Nat.pow_add]
  rw [eV, e5, e6, Nat.mul_assoc A, Nat.mul_assoc B, Nat.mul_assoc (2 ^ a)]
  have q : (2 : Nat) ^ b6 + (2 ^ b5 + 2 ^ b5) + 2 ^ a ≤ 2 ^ 89 := by rw [hb5, hb6, ha]; decide
  clear h hT h1 e e2 eV e5 e6 hb5 hb6 ha hm hD hj
  generalize (2 : Nat) ^ j * 2 ^ m = z at *
  generalize (2 : Nat) ^ b6 = q1 at *
  generalize (2 : Nat) ^ b5 = q2 at *
  generalize (2 : Nat) ^ a = q3 at *
  generalize (2 : Nat) ^ 89 = q4 at *
  generalize V * 2 ^ 64 = v at *
  have g : (q1 + (q2 + A + (q2 + B)) + q3) * z ≤ v * z := Nat.mul_le_mul_right _ (by omega)
  have g2 : (q1 + (q2 + A + (q2 + B)) + q3) * z = q1 * z + (q2 * z + A * z + (q2 * z + B * z)) + q3 * z := by grind
  rw [g2] at g
  exact g
theorem arG {E F n1 n2 x1 y1 x2 y2 : Nat} (a : x1 + y1 ≤ n1) (b : x2 + y2 ≤ n2) : E * (x2 + F) + x1 * F + (E * (y2 + F) + y1 * F) ≤ E * (n2 + 2 * F) + n1 * F := by
  have e : E * (x2 + F) + x1 * F + (E * (y2 + F) + y1 * F) = E * (x2 + y2 + 2 * F) + (x1 + y1) * F := by grind
  rw [e]
  exact Nat.add_le_add (Nat.mul_le_mul_left _ (by omega)) (Nat.mul_le_mul_right _ a)
set_option maxHeartbeats 2000000 in
/-- A product of complex numbers that are near to two pairs. -/
theorem mulG {c d : CB} {X1 Y1 X2 Y2 T U : Int} {E F n1 n2 V k k1 k2 : Nat} (hkk : k1 + k2 ≤ 138) (hk : k ≤ 72) (hk1 : 62 ≤ k) (hc : nearC c X1 Y1 E) (hd : nearC d X2 Y2 F) (h1 : X1.natAbs + Y1.natAbs ≤ n1) (h2 : X2.natAbs + Y2.natAbs ≤ n2) (hE : n1 + E ≤ 2 ^ k1) (hF : n2 + F ≤ 2 ^ k2) (hW : E * (n2 + 2 * F) + n1 * F + 2 ^ 89 ≤ V * 2 ^ 64)
    (hT : (T * 2 ^ 64 - (X1 * X2 - Y1 * Y2)).natAbs ≤ 2 ^ 66) (hU : (U * 2 ^ 64 - (X1 * Y2 + Y1 * X2)).natAbs ≤ 2 ^ 66) (hT2 : T.natAbs + V ≤ 2 ^ k) (hU2 : U.natAbs + V ≤ 2 ^ k) : okM c d ∧ nearC (mulB c d) T U (V + 2 ^ (k - 24)) := by
  obtain ⟨m, hm⟩ : ∃ m, m = 776 := ⟨_, rfl⟩
  obtain ⟨D, hD⟩ : ∃ D, D = 925 := ⟨_, rfl⟩
  obtain ⟨j, hj⟩ : ∃ j, j = 170 := ⟨_, rfl⟩
  obtain ⟨a6, ha6⟩ : ∃ a, a = 66 := ⟨_, rfl⟩
  rw [← ha6] at hT hU
  have hE1 : X1.natAbs + E ≤ 2 ^ k1 := Nat.le_trans (by omega) hE
  have hE2 : Y1.natAbs + E ≤ 2 ^ k1 := Nat.le_trans (by omega) hE
  have hF1 : X2.natAbs + F ≤ 2 ^ k2 := Nat.le_trans (by omega) hF
  have hF2 : Y2.natAbs + F ≤ 2 ^ k2 := Nat.le_trans (by omega) hF
  obtain ⟨w1, w2, p1, f1, n1', b1⟩ := prodG hkk hj hm hD hc.a hd.a hE1 hF1
  obtain ⟨w3, w4, p2, f2, n2', b2⟩ := prodG hkk hj hm hD hc.b hd.b hE2 hF2
  obtain ⟨_, _, p3, f3, n3', b3⟩ := prodG hkk hj hm hD hc.a hd.b hE1 hF2
  obtain ⟨_, _, p4, f4, n4', b4⟩ := prodG hkk hj hm hD hc.b hd.a hE2 hF1
  have hf : FloatKind.f64.format.fractionBits = 52 := rfl
  have two : ∀ {a b : Nat}, a ≤ 2 ^ (m + 308) → b ≤ 2 ^ (m + 308) → a + b ≤ 2 ^ (m + 309) := fun ha hb => by
    rw [show m + 309 = (m + 308) + 1 by omega, Nat.pow_succ]; omega
  obtain ⟨s, g1, g2, g3⟩ := sub_err (u := m + 309) f1 f2 (Nat.le_trans (by have := Int.natAbs_sub_le p1 p2; exact this) (two b1 b2)) (by rw [mx64]; omega)
  obtain ⟨r, k1, k2, k3⟩ := add_err (u := m + 309) f3 f4 (Nat.le_trans (Int.natAbs_add_le p3 p4) (two b3 b4)) (by rw [mx64]; omega)
  rw [hf, show m + 309 - 52 = (m + 256) + 1 by omega] at g3 k3
  have g5 := abs_tri (half_le g3) (abs_sub2 n1' n2')
  have k5 := abs_tri (half_le k3) (abs_add2 n3' n4')
  have eg : X1 * X2 * 2 ^ j * 2 ^ m - Y1 * Y2 * 2 ^ j * 2 ^ m = (X1 * X2 - Y1 * Y2) * 2 ^ j * 2 ^ m := by rw [Int.sub_mul, Int.sub_mul]
  have ek : X1 * Y2 * 2 ^ j * 2 ^ m + Y1 * X2 * 2 ^ j * 2 ^ m = (X1 * Y2 + Y1 * X2) * 2 ^ j * 2 ^ m := by rw [Int.add_mul, Int.add_mul]
  rw [eg] at g5
  rw [ek] at k5
  have A := partG (m := m) (k := k) hD (by omega) (b := mre c d) g1 (finG hj ha6 hm hD g5 (arG h1 h2) hW hT) hT2 hk1
  have B := partG (m := m) (k := k) hD (by omega) (b := mim c d) k1 (finG hj ha6 hm hD k5 (arG h1 (by rw [Nat.add_comm] at h2; exact h2)) hW hU) hU2 hk1
  exact ⟨⟨⟨w1, w3⟩, ⟨w2, w4⟩, A.1, B.1⟩, ⟨A.2, B.2⟩⟩
end Go.Proofs.Ytkhipobafchilaa.Sim

/- Null weights as whole numbers, and how near the floats are. Lemmas only; no condition. -/
set_option linter.unusedSimpArgs false
set_option linter.unusedVariables false
set_option maxRecDepth 8000
namespace Go.Proofs.Ytkhipobafchilaa.Sim
open Go Go.RowKit Fl
theorem neg_near {b : Nat} {X : Int} {E : Nat} (h : nearP b X E) : nearP (cf .f32 (Op.negFloat .f32 b)) (-X) E := by
  obtain ⟨v, h1, h2⟩ := h
  refine ⟨-v, neg_fin h1, ?_⟩
  have e : -v - -X * 2 ^ 85 = -(v - X * 2 ^ 85) := by rw [Int.neg_mul]; omega
  rw [e, Int.natAbs_neg]
  exact h2
theorem conj_near {c : CB} {X Y : Int} {E : Nat} (h : nearC c X Y E) : nearC (cjB c) X (-Y) E := ⟨h.a, neg_near h.b⟩
theorem div_rest (T : Nat) (X : Int) : ∃ r : Int, (T : Int) * X = ((T : Int) * X / 2 ^ 64) * 2 ^ 64 + r ∧ 0 ≤ r ∧ r < 2 ^ 64 := by
  refine ⟨(T : Int) * X % 2 ^ 64, ?_, Int.emod_nonneg _ (by decide), Int.emod_lt_of_pos _ (by decide)⟩
  have := Int.mul_ediv_add_emod ((T : Int) * X) (2 ^ 64)
  rw [Int.mul_comm] at this
  exact this.symm
theorem zeroP_near : nearP 0 0 0 := ⟨0, zero_fin, by decide⟩
/-- Sums of so many. -/
def suZ (T : Nat → Int) : Nat → Int
  | 0 => 0
  | n + 1 => suZ T n + T n
theorem suZ_le {T : Nat → Int} {B : Nat} : ∀ {n : Nat}, (∀ i, i < n → (T i).natAbs ≤ B) → (suZ T n).natAbs ≤ n * B
  | 0, _ => by simp [suZ]
  | n + 1, h => by
    have ih := suZ_le (fun i hi => h i (Nat.lt_succ_of_lt hi))
    have := h n (Nat.lt_succ_self n)
    have e : suZ T (n + 1) = suZ T n + T n := rfl
    have q := Int.natAbs_add_le (suZ T n) (T n)
    rw [e, Nat.add_mul, Nat.one_mul]
    omega
theorem wt_le {k : Nat} (hk : k ≤ 1024) : ((Wt k : Nat) : Int).natAbs ≤ 18446744073710600192 := by
  have h := allK_at t1_all k (Nat.zero_le _) (by omega)
  unfold t1K at h
  simp only [Bool.and_eq_true, decide_eq_true_eq] at h
  rw [Int.natAbs_natCast]
  exact h.2
theorem q_le (s : Nat) : (qX Wt s).natAbs ≤ 18446744073710600192 ∧ (qY Wt s).natAbs ≤ 18446744073710600192 := by
  unfold qX qY
  exact rot_le (wt_le (by omega)) (wt_le (by omega))
theorem q_mod (s : Nat) : qX Wt (s % 4096) = qX Wt s ∧ qY Wt (s % 4096) = qY Wt s := by
  unfold qX qY
  rw [show s % 4096 / 1024 % 4 = s / 1024 % 4 by omega, show s % 4096 % 1024 = s % 1024 by omega]
  exact ⟨rfl, rfl⟩
theorem rot_sq (q : Nat) (C S : Int) : rotX q C S * rotX q C S + rotY q C S * rotY q C S = S * S + C * C := by
  unfold rotX rotY
  split
  · exact Int.add_comm _ _
  · split
    · rw [Int.neg_mul_neg]
    · split
      · rw [Int.neg_mul_neg, Int.neg_mul_neg]; exact Int.add_comm _ _
      · rw [Int.neg_mul_neg]
theorem le65 {z : Int} (h : z.natAbs ≤ 18446744073710600192) : z.natAbs ≤ 2 ^ 65 := Nat.le_trans h (by decide)
theorem q_sq2 (s : Nat) : ((340282366920938463463374607431768211456 : Int) - (qX Wt s * qX Wt s + qY Wt s * qY Wt s)).natAbs ≤ 2 ^ 86 := by
  have h := wt_sq (k := s % 1024) (by omega)
  unfold qX qY
  rw [rot_sq]
  have e2 : (38685626227668133590597632 : Nat) ≤ 2 ^ 86 := by decide
  generalize (Wt (s % 1024) : Int) * Wt (s % 1024) + (Wt (1024 - s % 1024) : Int) * Wt (1024 - s % 1024) = z at *
  omega
theorem mul_abs {a b : Int} {p q : Nat} (h1 : a.natAbs ≤ p) (h2 : b.natAbs ≤ q) : (a * b).natAbs ≤ p * q := by
  rw [Int.natAbs_mul]; exact Nat.mul_le_mul h1 h2
theorem addG {a b : Nat} {X Y : Int} {E F k : Nat} (hk : k ≤ 72) (hk1 : 62 ≤ k) (ha : nearP a X E) (hb : nearP b Y F) (h : X.natAbs + Y.natAbs + (E + F) ≤ 2 ^ k) : nearP (farith .add .f32 a b) (X + Y) (E + F + 2 ^ (k - 24)) := by
  obtain ⟨va, h1, h2⟩ := ha
  obtain ⟨vb, h3, h4⟩ := hb
  have h5 := abs_add2 h2 h4
  rw [← Int.add_mul, ← Nat.add_mul] at h5
  have hs : (va + vb).natAbs ≤ 2 ^ (k + 85) := by
    refine abs_sum h5 (q := (X.natAbs + Y.natAbs) * 2 ^ 85) (by rw [abs_mul_pow]; exact Nat.mul_le_mul_right _ (Int.natAbs_add_le X Y)) ?_
    rw [← Nat.add_mul, Nat.pow_add]
    exact Nat.mul_le_mul_right _ (by omega)
  obtain ⟨v, g1, _, g3⟩ := add_err (u := k + 85) h1 h3 hs (by show _ ≤ 275; omega)
  have hf : FloatKind.f32.format.fractionBits = 23 := rfl
  rw [hf, show k + 85 - 23 = (k - 24 + 85) + 1 by omega] at g3
  have g4 := abs_tri (half_le g3) h5
  refine ⟨v, g1, Nat.le_trans g4 ?_⟩
  rw [Nat.add_mul (E + F), Nat.pow_add, Nat.add_comm]
  exact Nat.le_refl _
theorem dotN_ar {a b m1 m2 A B K R : Nat} (h1 : a ≤ m1) (h2 : m1 ≤ 4 * A) (h3 : b ≤ A) (h4 : m2 ≤ 4 * B) (hb : 5 * A + (4 * B + K) ≤ R) : a + b + (m2 + K) ≤ R := by omega
theorem dotN {f g : Nat → CB} {T U : Nat → Int} {K A B : Nat} (hB : B = K + 2 ^ 47) (hb : 5 * A + (4 * B + K) ≤ 2 ^ 71) : ∀ {n : Nat}, n ≤ 5 → (∀ i, i < n → (T i).natAbs ≤ A) → (∀ i, i < n → (U i).natAbs ≤ A) → (∀ i, i < n → nearC (mulB (f i) (g i)) (T i) (U i) K) → nearC (dotB f g n) (suZ T n) (suZ U n) (n * B) := by
  intro n
  induction n with
  | zero =>
    intro _ _ _ _
    rw [Nat.zero_mul]
    exact ⟨zeroP_near, zeroP_near⟩
  | succ n IH =>
    intro hn hT hU h
    have ih := IH (by omega) (fun i hi => hT i (Nat.lt_succ_of_lt hi)) (fun i hi => hU i (Nat.lt_succ_of_lt hi)) (fun i hi => h i (Nat.lt_succ_of_lt hi))
    have s1 := suZ_le (n := n) (B := A) (fun i hi => hT i (Nat.lt_succ_of_lt hi))
    have s2 := suZ_le (n := n) (B := A) (fun i hi => hU i (Nat.lt_succ_of_lt hi))
    have m1 : n * A ≤ 4 * A := Nat.mul_le_mul_right _ (by omega)
    have m2 : n * B ≤ 4 * B := Nat.mul_le_mul_right _ (by omega)
    have k1 := addG (k := 71) (by decide) (by decide) ih.a (h n (Nat.lt_succ_self n)).a (dotN_ar s1 m1 (hT n (Nat.lt_succ_self n)) m2 hb)
    have k2 := addG (k := 71) (by decide) (by decide) ih.b (h n (Nat.lt_succ_self n)).b (dotN_ar s2 m1 (hU n (Nat.lt_succ_self n)) m2 hb)
    have e : n * B + K + 2 ^ (71 - 24) = (n + 1) * B := by rw [Nat.add_mul, Nat.one_mul, Nat.add_assoc, hB]
    rw [e] at k1 k2
    exact ⟨k1, k2⟩
/-! ### Whole numbers -/
theorem n_unit {x y : Int} (h : ((340282366920938463463374607431768211456 : Int) - (x * x + y * y)).natAbs ≤ 2 ^ 86) : x.natAbs + y.natAbs ≤ 26087636000000000000 := by
  have e86 : (2 : Nat) ^ 86 = 77371252455336267181195264 := by decide
  rw [e86] at h
  have ex : x * x = ((x.natAbs * x.natAbs : Nat) : Int) := by rw [← Int.natAbs_mul_self]
  have ey : y * y = ((y.natAbs * y.natAbs : Nat) : Int) := by rw [← Int.natAbs_mul_self]
  rw [ex, ey] at h
  generalize x.natAbs = p at *
  generalize y.natAbs = q at *
  refine Nat.le_of_not_lt fun c => ?_
  have h1 : (p + q) * (p + q) ≤ 2 * (p * p + q * q) := by
    have e : ((p : Int) + q) * (p + q) + ((p : Int) - q) * (p - q) = 2 * (p * p + q * q) := by grind
    have n0 : 0 ≤ ((p : Int) - q) * (p - q) := by rw [← Int.natAbs_mul_self]; exact Int.natCast_nonneg _
    have : (((p + q) * (p + q) : Nat) : Int) ≤ ((2 * (p * p + q * q) : Nat) : Int) := by
      simp only [Int.natCast_mul, Int.natCast_add]
      omega
    omega
  have h2 : 26087636000000000001 * 26087636000000000001 ≤ (p + q) * (p + q) := Nat.mul_le_mul c c
  omega
/-- The whole part of a product, and what is left. -/
theorem fl_bd {zx zy a b : Int} {G B : Nat} (hz : zx.natAbs + zy.natAbs ≤ G) (hc : a.natAbs + b.natAbs ≤ B) :
    ((zx * a - zy * b) / 18446744073709551616).natAbs + ((zx * b + zy * a) / 18446744073709551616).natAbs ≤ G * B / 18446744073709551616 + 3 := by
  have e1 := Int.natAbs_sub_le (zx * a) (zy * b)
  have e2 := Int.natAbs_add_le (zx * b) (zy * a)
  rw [Int.natAbs_mul, Int.natAbs_mul] at e1 e2
  have hm := Nat.mul_le_mul hz hc
  have ee : (zx.natAbs + zy.natAbs) * (a.natAbs + b.natAbs) = zx.natAbs * a.natAbs + zy.natAbs * b.natAbs + (zx.natAbs * b.natAbs + zy.natAbs * a.natAbs) := by grind
  rw [ee] at hm
  generalize zx * a - zy * b = u at *
  generalize zx * b + zy * a = v at *
  generalize zx.natAbs * a.natAbs = p1 at *
  generalize zy.natAbs * b.natAbs = p2 at *
  generalize zx.natAbs * b.natAbs = p3 at *
  generalize zy.natAbs * a.natAbs = p4 at *
  generalize G * B = W at *
  omega
theorem fl_rest (u : Int) : (u / 18446744073709551616 * 2 ^ 64 - u).natAbs ≤ 2 ^ 66 := by
  have e : (2 : Int) ^ 64 = 18446744073709551616 := by decide
  have e2 : (2 : Nat) ^ 66 = 73786976294838206464 := by decide
  rw [e, e2]
  omega
/-- The numbers of the polynomial, in units of 2 ^ -64. -/
def cP (zx zy : Nat → Int) : Nat → Nat → Int × Int
  | 0, k => if k = 0 then (18446744073709551616, 0) else (0, 0)
  | j + 1, k => if k ≤ j + 1 then ((if k = 0 then 0 else (cP zx zy j (k - 1)).1) - (zx j * (cP zx zy j k).1 - zy j * (cP zx zy j k).2) / 18446744073709551616, (if k = 0 then 0 else (cP zx zy j (k - 1)).2) - (zx j * (cP zx zy j k).2 + zy j * (cP zx zy j k).1) / 18446744073709551616) else (0, 0)
def bN : Nat → Nat → Nat
  | 0, k => if k = 0 then 18446744073709551616 else 0
  | j + 1, k => if k ≤ j + 1 then (if k = 0 then 0 else bN j (k - 1)) + (26087636000000000000 * bN j k / 18446744073709551616 + 3) else 0
theorem cP_bd {zx zy : Nat → Int} (hz : ∀ j, (zx j).natAbs + (zy j).natAbs ≤ 26087636000000000000) : ∀ (j k : Nat), (cP zx zy j k).1.natAbs + (cP zx zy j k).2.natAbs ≤ bN j k
  | 0, k => by
    simp only [cP, bN]
    split <;> simp
  | j + 1, k => by
    have i1 := cP_bd hz j k
    have i2 := cP_bd hz j (k - 1)
    have f := fl_bd (hz j) i1
    simp only [cP, bN]
    by_cases q : k ≤ j + 1
    · rw [if_pos q, if_pos q]
      simp only
      by_cases q0 : k = 0
      · rw [if_pos q0, if_pos q0, if_pos q0]
        omega
      · rw [if_neg q0, if_neg q0, if_neg q0]
        omega
    · rw [if_neg q, if_neg q]; simp
theorem cP_out {zx zy : Nat → Int} : ∀ {j k : Nat}, j < k → cP zx zy j k = (0, 0)
  | 0, k, h => by simp only [cP]; rw [if_neg (by omega)]
  | j + 1, k, h => by simp only [cP]; rw [if_neg (by omega)]
/-! ### How near the floats are -/
def vN (b e : Nat) : Nat := (2199023255552 * (b + 2 * e) + 26087636000000000000 * e + 2 ^ 89) / 18446744073709551616 + 1
def eN : Nat → Nat → Nat
  | 0, _ => 0
  | j + 1, k => if k ≤ j + 1 then (if k = 0 then 0 else eN j (k - 1)) + (vN (bN j k) (eN j k) + 2 ^ (65 + j - 24)) + 2 ^ (66 + j - 24) else 0
def numB (j k : Nat) : Bool := decide (bN j k + eN j k ≤ 2 ^ 72) && decide (26087636000000000000 * bN j k / 18446744073709551616 + 3 + vN (bN j k) (eN j k) ≤ 2 ^ (65 + j)) && decide ((if k = 0 then 0 else bN j (k - 1)) + (26087636000000000000 * bN j k / 18446744073709551616 + 3) + ((if k = 0 then 0 else eN j (k - 1)) + (vN (bN j k) (eN j k) + 2 ^ (65 + j - 24))) ≤ 2 ^ (66 + j))
theorem num_all : (List.range 4).all (fun j => (List.range 6).all (numB j)) = true := by decide +kernel
theorem num_at {j k : Nat} (hj : j < 4) (hk : k ≤ j + 1) : bN j k + eN j k ≤ 2 ^ 72 ∧ 26087636000000000000 * bN j k / 18446744073709551616 + 3 + vN (bN j k) (eN j k) ≤ 2 ^ (65 + j) ∧ (if k = 0 then 0 else bN j (k - 1)) + (26087636000000000000 * bN j k / 18446744073709551616 + 3) + ((if k = 0 then 0 else eN j (k - 1)) + (vN (bN j k) (eN j k) + 2 ^ (65 + j - 24))) ≤ 2 ^ (66 + j) := by
  have h := List.all_eq_true.1 (List.all_eq_true.1 num_all j (List.mem_range.2 hj)) k (List.mem_range.2 (by omega))
  unfold numB at h
  simp only [Bool.and_eq_true, decide_eq_true_eq] at h
  exact ⟨h.1.1, h.1.2, h.2⟩
theorem one_near : nearP 1065353216 18446744073709551616 0 := by
  refine ⟨18446744073709551616 * 2 ^ 85, ⟨false, 8388608, 126, by decide +kernel, ?_⟩, by simp⟩
  show (18446744073709551616 : Int) * 2 ^ 85 = 8388608 * 2 ^ 126
  decide
theorem vN_ok (b e : Nat) : 2199023255552 * (b + 2 * e) + 26087636000000000000 * e + 2 ^ 89 ≤ vN b e * 2 ^ 64 := by
  unfold vN
  have e64 : (2 : Nat) ^ 64 = 18446744073709551616 := by decide
  rw [e64]
  generalize 2199023255552 * (b + 2 * e) + 26087636000000000000 * e + 2 ^ 89 = W
  omega
theorem stepN {z : Nat → CB} {zx zy : Nat → Int} {j k : Nat} (hj : j < 4) (hk : k ≤ j + 1) (hz : ∀ j, (zx j).natAbs + (zy j).natAbs ≤ 26087636000000000000) (hn : nearC (z j) (zx j) (zy j) (2 ^ 41)) (ih : ∀ k, nearC (plF z j k) (cP zx zy j k).1 (cP zx zy j k).2 (eN j k)) :
    okM (z j) (plF z j k) ∧ nearC (plF z (j + 1) k) (cP zx zy (j + 1) k).1 (cP zx zy (j + 1) k).2 (eN (j + 1) k) := by
  obtain ⟨u1, u2, u3⟩ := num_at hj hk
  have cb := cP_bd hz j k
  have fb := fl_bd (hz j) cb
  have e41 : (2 : Nat) ^ 41 = 2199023255552 := by decide
  obtain ⟨a, b⟩ := mulG (k := 65 + j) (k1 := 66) (k2 := 72) (n1 := 26087636000000000000) (n2 := bN j k) (V := vN (bN j k) (eN j k)) (by decide) (by omega) (by omega) hn (ih k) (hz j) cb (by decide) u1 (by rw [e41]; exact vN_ok _ _) (fl_rest _) (fl_rest _) (by omega) (by omega)
  refine ⟨a, ?_⟩
  have hbef : nearC (if k = 0 then zeB else plF z j (k - 1)) (if k = 0 then 0 else (cP zx zy j (k - 1)).1) (if k = 0 then 0 else (cP zx zy j (k - 1)).2) (if k = 0 then 0 else eN j (k - 1)) ∧ (if k = 0 then (0 : Int) else (cP zx zy j (k - 1)).1).natAbs + (if k = 0 then (0 : Int) else (cP zx zy j (k - 1)).2).natAbs ≤ (if k = 0 then 0 else bN j (k - 1)) := by
    by_cases q : k = 0
    · simp only [if_pos q]
      exact ⟨⟨zeroP_near, zeroP_near⟩, by simp⟩
    · simp only [if_neg q]
      exact ⟨ih (k - 1), cP_bd hz j (k - 1)⟩
  obtain ⟨h1, h2⟩ := hbef
  have eP : plF z (j + 1) k = lessB (if k = 0 then zeB else plF z j (k - 1)) (mulB (z j) (plF z j k)) := by simp only [plF]; rw [if_pos hk]
  have eC : cP zx zy (j + 1) k = ((if k = 0 then 0 else (cP zx zy j (k - 1)).1) - (zx j * (cP zx zy j k).1 - zy j * (cP zx zy j k).2) / 18446744073709551616, (if k = 0 then 0 else (cP zx zy j (k - 1)).2) - (zx j * (cP zx zy j k).2 + zy j * (cP zx zy j k).1) / 18446744073709551616) := by simp only [cP]; rw [if_pos hk]
  have eE : eN (j + 1) k = (if k = 0 then 0 else eN j (k - 1)) + (vN (bN j k) (eN j k) + 2 ^ (65 + j - 24)) + 2 ^ (66 + j - 24) := by simp only [eN]; rw [if_pos hk]
  rw [eP, eC, eE]
  generalize (if k = 0 then zeB else plF z j (k - 1)) = P at *
  generalize (if k = 0 then 0 else (cP zx zy j (k - 1)).1) = C1 at *
  generalize (if k = 0 then 0 else (cP zx zy j (k - 1)).2) = C2 at *
  generalize (if k = 0 then 0 else eN j (k - 1)) = E1 at *
  generalize (if k = 0 then 0 else bN j (k - 1)) = B1 at *
  generalize 26087636000000000000 * bN j k / 18446744073709551616 = W at *
  exact ⟨subG (k := 66 + j) (by omega) (by omega) h1.a b.a (Nat.le_trans (by omega) u3), subG (k := 66 + j) (by omega) (by omega) h1.b b.b (Nat.le_trans (by omega) u3)⟩
theorem plF_near {z : Nat → CB} {zx zy : Nat → Int} {m : Nat} (hm : m ≤ 4) (hz : ∀ j, (zx j).natAbs + (zy j).natAbs ≤ 26087636000000000000) (hn : ∀ j, j < m → nearC (z j) (zx j) (zy j) (2 ^ 41)) : ∀ (j : Nat), j ≤ m → ∀ k, nearC (plF z j k) (cP zx zy j k).1 (cP zx zy j k).2 (eN j k) := by
  intro j
  induction j with
  | zero =>
    intro _ k
    simp only [plF, cP, eN]
    by_cases q : k = 0
    · rw [if_pos q, if_pos q]; exact ⟨one_near, zeroP_near⟩
    · rw [if_neg q, if_neg q]; exact ⟨zeroP_near, zeroP_near⟩
  | succ j ih =>
    intro hj k
    have ih := ih (by omega)
    by_cases q : k ≤ j + 1
    · exact (stepN (by omega) q hz (hn j (by omega)) ih).2
    · have e1 : plF z (j + 1) k = zeB := plF_out (by omega)
      have e2 : cP zx zy (j + 1) k = (0, 0) := cP_out (by omega)
      have e3 : eN (j + 1) k = 0 := by simp only [eN]; rw [if_neg q]
      rw [e1, e2, e3]
      exact ⟨zeroP_near, zeroP_near⟩
end Go.Proofs.Ytkhipobafchilaa.Sim

/- Null weights receive nearly nothing: whole numbers. Lemmas only; no condition. -/
set_option linter.unusedSimpArgs false
set_option linter.unusedVariables false
set_option maxRecDepth 8000
namespace Go.Proofs.Ytkhipobafchilaa.Sim
open Go Go.RowKit Fl
theorem suZ_congr {f g : Nat → Int} : ∀ {n : Nat}, (∀ i, i < n → f i = g i) → suZ f n = suZ g n
  | 0, _ => rfl
  | n + 1, h => by
    have e : suZ f (n + 1) = suZ f n + f n := rfl
    have e2 : suZ g (n + 1) = suZ g n + g n := rfl
    rw [e, e2, suZ_congr (fun i hi => h i (by omega)), h n (by omega)]
theorem suZ_lin (a b : Int) (f g r : Nat → Int) : ∀ n, suZ (fun k => a * f k - b * g k + r k) n = a * suZ f n - b * suZ g n + suZ r n
  | 0 => by simp [suZ]
  | n + 1 => by
    have ih := suZ_lin a b f g r n
    simp only [suZ, ih]
    grind
theorem suZ_mul (q : Int) (f : Nat → Int) : ∀ n, suZ (fun k => q * f k) n = q * suZ f n
  | 0 => by simp [suZ]
  | n + 1 => by
    have ih := suZ_mul q f n
    simp only [suZ, ih]
    grind
theorem suZ_sub (f g : Nat → Int) : ∀ n, suZ (fun k => f k - g k) n = suZ f n - suZ g n
  | 0 => by simp [suZ]
  | n + 1 => by
    have ih := suZ_sub f g n
    simp only [suZ, ih]
    omega
theorem suZ_shift (g : Nat → Int) : ∀ n, suZ (fun k => if k = 0 then 0 else g (k - 1)) (n + 1) = suZ g n
  | 0 => by simp [suZ]
  | n + 1 => by
    have ih := suZ_shift g n
    have e : suZ (fun k => if k = 0 then 0 else g (k - 1)) (n + 1 + 1) = suZ (fun k => if k = 0 then 0 else g (k - 1)) (n + 1) + (if n + 1 = 0 then 0 else g (n + 1 - 1)) := rfl
    rw [e, ih, if_neg (by omega)]
    rfl
theorem suZ_more {f : Nat → Int} {n : Nat} : ∀ d, (∀ i, n ≤ i → f i = 0) → suZ f (n + d) = suZ f n
  | 0, _ => rfl
  | d + 1, h => by
    have ih := suZ_more d h
    have e : suZ f (n + (d + 1)) = suZ f (n + d) + f (n + d) := rfl
    rw [e, ih, h (n + d) (by omega)]; omega
theorem cP_step (zx zy : Nat → Int) (j k : Nat) : (cP zx zy (j + 1) k).1 = (if k = 0 then 0 else (cP zx zy j (k - 1)).1) - (zx j * (cP zx zy j k).1 - zy j * (cP zx zy j k).2) / 18446744073709551616 ∧ (cP zx zy (j + 1) k).2 = (if k = 0 then 0 else (cP zx zy j (k - 1)).2) - (zx j * (cP zx zy j k).2 + zy j * (cP zx zy j k).1) / 18446744073709551616 := by
  by_cases q : k ≤ j + 1
  · simp only [cP]
    rw [if_pos q]
    exact ⟨rfl, rfl⟩
  · rw [cP_out (show j + 1 < k by omega), cP_out (show j < k by omega), if_neg (by omega), if_neg (by omega), cP_out (show j < k - 1 by omega)]
    simp
def ex (c : Nat → Int × Int) (qx qy : Nat → Int) (k : Nat) : Int := (c k).1 * qx k - (c k).2 * qy k
def ey (c : Nat → Int × Int) (qx qy : Nat → Int) (k : Nat) : Int := (c k).1 * qy k + (c k).2 * qx k
theorem b67_all : (List.range 4).all (fun j => (List.range 5).all fun k => decide (bN j k ≤ 2 ^ 67)) = true := by decide +kernel
theorem b67 {j k : Nat} (hj : j < 4) (hk : k < 5) : bN j k ≤ 2 ^ 67 := of_decide_eq_true (List.all_eq_true.1 (List.all_eq_true.1 b67_all j (List.mem_range.2 hj)) k (List.mem_range.2 hk))
theorem emod_rest (u : Int) : ∃ r : Int, 18446744073709551616 * (u / 18446744073709551616) = u - r ∧ r.natAbs ≤ 18446744073709551616 := ⟨u % 18446744073709551616, by omega, by omega⟩
theorem two_abs {a b p q : Int} {B P : Nat} (hc : a.natAbs + b.natAbs ≤ B) (hp : p.natAbs ≤ P) (hq : q.natAbs ≤ P) : (a * p - b * q).natAbs ≤ B * P ∧ (a * p + b * q).natAbs ≤ B * P := by
  have e1 := Int.natAbs_sub_le (a * p) (b * q)
  have e2 := Int.natAbs_add_le (a * p) (b * q)
  rw [Int.natAbs_mul, Int.natAbs_mul] at e1 e2
  have m1 : a.natAbs * p.natAbs ≤ a.natAbs * P := Nat.mul_le_mul_left _ hp
  have m2 : b.natAbs * q.natAbs ≤ b.natAbs * P := Nat.mul_le_mul_left _ hq
  have m3 : (a.natAbs + b.natAbs) * P ≤ B * P := Nat.mul_le_mul_right _ hc
  rw [Nat.add_mul] at m3
  omega
theorem term_x {Q a b x y x' y' X1 Y1 zx zy dx dy r t : Int} (h1 : Q * dx = zx * a - zy * b - r) (h2 : Q * dy = zx * b + zy * a - t) : Q * (a * x' - b * y') - Q * (dx * x - dy * y) - ((X1 - zx) * (a * x - b * y) - (Y1 - zy) * (a * y + b * x)) = (a * (Q * x' - (x * X1 - y * Y1)) - b * (Q * y' - (x * Y1 + y * X1))) + (x * r - y * t) := by grind
theorem term_y {Q a b x y x' y' X1 Y1 zx zy dx dy r t : Int} (h1 : Q * dx = zx * a - zy * b - r) (h2 : Q * dy = zx * b + zy * a - t) : Q * (a * y' + b * x') - Q * (dx * y + dy * x) - ((X1 - zx) * (a * y + b * x) - (-(Y1 - zy)) * (a * x - b * y)) = (a * (Q * y' - (x * Y1 + y * X1)) + b * (Q * x' - (x * X1 - y * Y1))) + (x * t + y * r) := by grind
theorem sum_of {f g D e1 e2 : Nat → Int} {Q A B : Int} (h1 : ∀ k, f k = (if k = 0 then 0 else g (k - 1)) - D k) (h4 : g 4 = 0) (hr : ∀ k, k < 5 → (Q * g k - Q * D k - (A * e1 k - B * e2 k)).natAbs ≤ 2 ^ 168) : (Q * suZ f 5 - (A * suZ e1 5 - B * suZ e2 5)).natAbs ≤ 5 * 2 ^ 168 := by
  have e : suZ f 5 = suZ g 5 - suZ D 5 := by
    rw [suZ_congr (n := 5) (fun i _ => h1 i), suZ_sub, suZ_shift g 4]
    have : suZ g 5 = suZ g 4 + g 4 := rfl
    rw [this, h4]; omega
  have e2' : Q * suZ f 5 = suZ (fun k => A * e1 k - B * e2 k + (Q * g k - Q * D k - (A * e1 k - B * e2 k))) 5 := by
    rw [e, Int.mul_sub, ← suZ_mul, ← suZ_mul, ← suZ_sub]
    exact suZ_congr fun i _ => by omega
  rw [e2', suZ_lin]
  have := suZ_le (n := 5) (T := fun k => Q * g k - Q * D k - (A * e1 k - B * e2 k)) (B := 2 ^ 168) hr
  generalize suZ (fun k => Q * g k - Q * D k - (A * e1 k - B * e2 k)) 5 = R at *
  generalize A * suZ e1 5 = p at *
  generalize B * suZ e2 5 = q at *
  have e5 : p - q + R - (p - q) = R := by omega
  rw [e5]; exact this
/-- One zero more: what is left of the sum. -/
theorem sum_step {zx zy qx qy : Nat → Int} {X1 Y1 : Int} {j : Nat} (hj : j < 4) (hz : ∀ j, (zx j).natAbs + (zy j).natAbs ≤ 26087636000000000000) (hq : ∀ k, (qx k).natAbs + (qy k).natAbs ≤ 26087636000000000000)
    (hx : ∀ k, (18446744073709551616 * qx (k + 1) - (qx k * X1 - qy k * Y1)).natAbs ≤ 2 ^ 100) (hy : ∀ k, (18446744073709551616 * qy (k + 1) - (qx k * Y1 + qy k * X1)).natAbs ≤ 2 ^ 100) :
    (18446744073709551616 * suZ (ex (cP zx zy (j + 1)) qx qy) 5 - ((X1 - zx j) * suZ (ex (cP zx zy j) qx qy) 5 - (Y1 - zy j) * suZ (ey (cP zx zy j) qx qy) 5)).natAbs ≤ 5 * 2 ^ 168 ∧
    (18446744073709551616 * suZ (ey (cP zx zy (j + 1)) qx qy) 5 - ((X1 - zx j) * suZ (ey (cP zx zy j) qx qy) 5 - (-(Y1 - zy j)) * suZ (ex (cP zx zy j) qx qy) 5)).natAbs ≤ 5 * 2 ^ 168 := by
  obtain ⟨c, hc⟩ : ∃ c, c = cP zx zy j := ⟨_, rfl⟩
  obtain ⟨c', hc'⟩ : ∃ c', c' = cP zx zy (j + 1) := ⟨_, rfl⟩
  have st := cP_step zx zy j
  have bd : ∀ k, k < 5 → (c k).1.natAbs + (c k).2.natAbs ≤ 2 ^ 67 := fun k hk => by rw [hc]; exact Nat.le_trans (cP_bd hz j k) (b67 hj hk)
  have c4 : c 4 = (0, 0) := by rw [hc]; exact cP_out hj
  rw [← hc, ← hc'] at st ⊢
  clear hc hc'
  have res : ∀ k, ∃ r t : Int, 18446744073709551616 * ((zx j * (c k).1 - zy j * (c k).2) / 18446744073709551616) = zx j * (c k).1 - zy j * (c k).2 - r ∧ 18446744073709551616 * ((zx j * (c k).2 + zy j * (c k).1) / 18446744073709551616) = zx j * (c k).2 + zy j * (c k).1 - t ∧ r.natAbs ≤ 18446744073709551616 ∧ t.natAbs ≤ 18446744073709551616 := fun k => by
    obtain ⟨r, h1, h2⟩ := emod_rest (zx j * (c k).1 - zy j * (c k).2)
    obtain ⟨t, h3, h4⟩ := emod_rest (zx j * (c k).2 + zy j * (c k).1)
    exact ⟨r, t, h1, h3, h2, h4⟩
  have num : (2 : Nat) ^ 67 * 2 ^ 100 + 26087636000000000000 * 18446744073709551616 ≤ 2 ^ 168 := by decide
  have tri : ∀ {u v : Int} {a b c : Nat}, u.natAbs ≤ a → v.natAbs ≤ b → a + b ≤ c → (u + v).natAbs ≤ c := fun {u v a b c} h1 h2 h3 => Nat.le_trans (Int.natAbs_add_le u v) (by omega)
  constructor
  · refine sum_of (g := fun k => (c k).1 * qx (k + 1) - (c k).2 * qy (k + 1)) (D := fun k => (zx j * (c k).1 - zy j * (c k).2) / 18446744073709551616 * qx k - (zx j * (c k).2 + zy j * (c k).1) / 18446744073709551616 * qy k) (fun k => ?_) (by simp only [c4]; simp) (fun k hk => ?_)
    · unfold ex
      rw [(st k).1, (st k).2]
      rcases k with _ | i
      · simp only [if_true]; grind
      · rw [if_neg (by omega), if_neg (by omega), if_neg (by omega), Nat.add_sub_cancel]; grind
    · obtain ⟨r, t, h1, h2, h3, h4⟩ := res k
      simp only [ex, ey]
      rw [term_x (x := qx k) (y := qy k) (x' := qx (k + 1)) (y' := qy (k + 1)) (X1 := X1) (Y1 := Y1) h1 h2]
      exact tri (two_abs (bd k hk) (hx k) (hy k)).1 (two_abs (hq k) h3 h4).1 num
  · refine sum_of (g := fun k => (c k).1 * qy (k + 1) + (c k).2 * qx (k + 1)) (D := fun k => (zx j * (c k).1 - zy j * (c k).2) / 18446744073709551616 * qy k + (zx j * (c k).2 + zy j * (c k).1) / 18446744073709551616 * qx k) (fun k => ?_) (by simp only [c4]; simp) (fun k hk => ?_)
    · unfold ey
      rw [(st k).1, (st k).2]
      rcases k with _ | i
      · simp only [if_true]; grind
      · rw [if_neg (by omega), if_neg (by omega), if_neg (by omega), Nat.add_sub_cancel]; grind
    · obtain ⟨r, t, h1, h2, h3, h4⟩ := res k
      simp only [ex, ey]
      rw [term_y (x := qx k) (y := qy k) (x' := qx (k + 1)) (y' := qy (k + 1)) (X1 := X1) (Y1 := Y1) h1 h2]
      exact tri (two_abs (bd k hk) (hy k) (hx k)).2 (two_abs (hq k) h4 h3).2 num
end Go.Proofs.Ytkhipobafchilaa.Sim

/- Null weights receive nearly nothing. Lemmas only; no condition. -/
set_option linter.unusedSimpArgs false
set_option linter.unusedVariables false
set_option maxRecDepth 8000
namespace Go.Proofs.Ytkhipobafchilaa.Sim
open Go Go.RowKit Fl
def dB : Nat → Nat
  | 0 => 5 * 2 ^ 104
  | n + 1 => 3 * dB n + 5 * 2 ^ 104
theorem dB_le {n : Nat} (hn : n ≤ 3) : dB n ≤ 2 ^ 112 := by
  have h : n = 0 ∨ n = 1 ∨ n = 2 ∨ n = 3 := by omega
  rcases h with rfl | rfl | rfl | rfl <;> decide
theorem step_bd {S A B p q : Int} {D : Nat} (h : (18446744073709551616 * S - (A * p - B * q)).natAbs ≤ 5 * 2 ^ 168) (hA : A.natAbs + B.natAbs ≤ 52175272000000000000) (hp : p.natAbs ≤ D) (hq : q.natAbs ≤ D) : S.natAbs ≤ 3 * D + 5 * 2 ^ 104 := by
  have t := (two_abs hA hp hq).1
  have e1 : (5 : Nat) * 2 ^ 168 = 18446744073709551616 * (5 * 2 ^ 104) := by decide
  rw [e1] at h
  generalize A * p - B * q = w at *
  generalize 5 * 2 ^ 104 = z at *
  omega
theorem chain_bd {zx zy qx qy : Nat → Int} {m r : Nat} (hm : m ≤ 4) (hr : r < m) (hz : ∀ j, (zx j).natAbs + (zy j).natAbs ≤ 26087636000000000000) (hq : ∀ k, (qx k).natAbs + (qy k).natAbs ≤ 26087636000000000000)
    (hx : ∀ k, (18446744073709551616 * qx (k + 1) - (qx k * zx r - qy k * zy r)).natAbs ≤ 2 ^ 100) (hy : ∀ k, (18446744073709551616 * qy (k + 1) - (qx k * zy r + qy k * zx r)).natAbs ≤ 2 ^ 100) :
    ∀ n, r + 1 + n ≤ m → (suZ (ex (cP zx zy (r + 1 + n)) qx qy) 5).natAbs ≤ dB n ∧ (suZ (ey (cP zx zy (r + 1 + n)) qx qy) 5).natAbs ≤ dB n := by
  intro n
  induction n with
  | zero =>
    intro _
    obtain ⟨h1, h2⟩ := sum_step (X1 := zx r) (Y1 := zy r) (show r < 4 by omega) hz hq hx hy
    have e0 : zx r - zx r = 0 := by omega
    have e1 : zy r - zy r = 0 := by omega
    rw [e0, e1] at h1 h2
    simp only [Int.zero_mul, Int.sub_zero, Int.neg_zero] at h1 h2
    have e5 : (5 : Nat) * 2 ^ 168 = 18446744073709551616 * (5 * 2 ^ 104) := by decide
    rw [e5] at h1 h2
    show _ ≤ 5 * 2 ^ 104 ∧ _ ≤ 5 * 2 ^ 104
    rw [Nat.add_zero]
    generalize 5 * 2 ^ 104 = z at *
    omega
  | succ n ih =>
    intro hn
    obtain ⟨i1, i2⟩ := ih (by omega)
    obtain ⟨h1, h2⟩ := sum_step (X1 := zx r) (Y1 := zy r) (show r + 1 + n < 4 by omega) hz hq hx hy
    have hA : (zx r - zx (r + 1 + n)).natAbs + (zy r - zy (r + 1 + n)).natAbs ≤ 52175272000000000000 := by
      have a := hz r
      have b := hz (r + 1 + n)
      omega
    have hA' : (zx r - zx (r + 1 + n)).natAbs + (-(zy r - zy (r + 1 + n))).natAbs ≤ 52175272000000000000 := by rw [Int.natAbs_neg]; exact hA
    exact ⟨step_bd h1 hA i1 i2, step_bd h2 hA' i2 i1⟩
def numD (m k : Nat) : Bool := decide (bN m k + eN m k ≤ 2 ^ 72) && decide (eN m k * (26087636000000000000 + 2 * 2 ^ 41) + bN m k * 2 ^ 41 + 2 ^ 89 ≤ (2 ^ 49 - 2 ^ 45) * 2 ^ 64) && decide (bN m k * 26087636000000000000 / 18446744073709551616 + 3 + (2 ^ 49 - 2 ^ 45) ≤ 2 ^ 69) && decide (bN m k * 26087636000000000000 / 18446744073709551616 + 3 ≤ 18 * 2 ^ 64)
theorem numD_all : (List.range 5).all (fun m => (List.range 5).all (numD m)) = true := by decide +kernel
theorem numD_at {m k : Nat} (hm : m < 5) (hk : k < 5) : bN m k + eN m k ≤ 2 ^ 72 ∧ eN m k * (26087636000000000000 + 2 * 2 ^ 41) + bN m k * 2 ^ 41 + 2 ^ 89 ≤ (2 ^ 49 - 2 ^ 45) * 2 ^ 64 ∧ bN m k * 26087636000000000000 / 18446744073709551616 + 3 + (2 ^ 49 - 2 ^ 45) ≤ 2 ^ 69 ∧ bN m k * 26087636000000000000 / 18446744073709551616 + 3 ≤ 18 * 2 ^ 64 := by
  have h := List.all_eq_true.1 (List.all_eq_true.1 numD_all m (List.mem_range.2 hm)) k (List.mem_range.2 hk)
  unfold numD at h
  simp only [Bool.and_eq_true, decide_eq_true_eq] at h
  exact ⟨h.1.1.1, h.1.1.2, h.1.2, h.2⟩
theorem stM_addN (s t : Int) : stM (s + t) = (stM s + stM t) % 4096 := by unfold stM; omega
theorem flo_sum {e T : Nat → Int} {n : Nat} {D : Nat} (hn : n ≤ 5) (hT : ∀ k, T k = e k / 18446744073709551616) (hS : (suZ e n).natAbs ≤ D * 18446744073709551616) : (suZ T n).natAbs ≤ D + 5 := by
  have h1 : 18446744073709551616 * suZ T n = suZ e n - suZ (fun k => e k - 18446744073709551616 * T k) n := by
    rw [← suZ_mul, ← suZ_sub]
    exact suZ_congr fun i _ => by omega
  have h2 := suZ_le (n := n) (T := fun k => e k - 18446744073709551616 * T k) (B := 18446744073709551616) (fun i _ => by rw [hT i]; omega)
  have h3 : n * 18446744073709551616 ≤ 5 * 18446744073709551616 := Nat.mul_le_mul_right _ hn
  generalize suZ (fun k => e k - 18446744073709551616 * T k) n = R at *
  omega
theorem nul_ok {s m : Nat} {l : List Int} (h1 : 16 ≤ s) (h2 : s ≤ 48) (hm : m ≤ 4) (hu : ∀ j, j < m → -64 ≤ nth l j ∧ nth l j ≤ 64) : NulOk s m l := by
  obtain ⟨zx, hzx⟩ : ∃ f : Nat → Int, f = fun j => qX Wt (stM ((s : Int) * nth l j)) := ⟨_, rfl⟩
  obtain ⟨zy, hzy⟩ : ∃ f : Nat → Int, f = fun j => qY Wt (stM ((s : Int) * nth l j)) := ⟨_, rfl⟩
  have hz : ∀ j, (zx j).natAbs + (zy j).natAbs ≤ 26087636000000000000 := fun j => by rw [hzx, hzy]; exact n_unit (q_sq2 _)
  have su : ∀ j, j < m → ((s : Int) * nth l j).natAbs ≤ 48 * 64 := fun j hj => by
    have := hu j hj
    rw [Int.natAbs_mul, Int.natAbs_natCast]
    exact Nat.mul_le_mul h2 (by omega)
  have hn : ∀ j, j < m → nearC (nuZ s l j) (zx j) (zy j) (2 ^ 41) := fun j hj => by
    rw [hzx, hzy]
    exact PH_near (Nat.lt_of_le_of_lt (su j hj) (by decide))
  have hp := plF_near hm hz hn
  refine ⟨fun j k hj hk => (stepN (by omega) hk hz (hn j hj) (hp j (by omega))).1, fun r hr => ?_⟩
  obtain ⟨t, ht⟩ : ∃ t : Int, t = (s : Int) * nth l r := ⟨_, rfl⟩
  have tb := su r hr
  rw [← ht] at tb
  obtain ⟨qx, hqx⟩ : ∃ f : Nat → Int, f = fun k : Nat => qX Wt (stM ((k : Int) * t)) := ⟨_, rfl⟩
  obtain ⟨qy, hqy⟩ : ∃ f : Nat → Int, f = fun k : Nat => qY Wt (stM ((k : Int) * t)) := ⟨_, rfl⟩
  have hq : ∀ k, (qx k).natAbs + (qy k).natAbs ≤ 26087636000000000000 := fun k => by rw [hqx, hqy]; exact n_unit (q_sq2 _)
  have ezx : zx r = qX Wt (stM t) := by rw [hzx, ht]
  have ezy : zy r = qY Wt (stM t) := by rw [hzy, ht]
  have turn : ∀ k : Nat, qx (k + 1) = qX Wt (stM ((k : Int) * t) + stM t) ∧ qy (k + 1) = qY Wt (stM ((k : Int) * t) + stM t) := fun k => by
    have e : (((k + 1 : Nat) : Int)) * t = (k : Int) * t + t := by
      have : ((k + 1 : Nat) : Int) = (k : Int) + 1 := by omega
      rw [this, Int.add_mul, Int.one_mul]
    rw [hqx, hqy]
    simp only
    rw [e, stM_addN]
    exact q_mod _
  have hx : ∀ k, (18446744073709551616 * qx (k + 1) - (qx k * zx r - qy k * zy r)).natAbs ≤ 2 ^ 100 := fun k => by
    have := (q_near2 tabW (stM ((k : Int) * t)) (stM t)).1
    rw [(turn k).1, ezx, ezy, hqx, hqy, Int.mul_comm]
    exact this
  have hy : ∀ k, (18446744073709551616 * qy (k + 1) - (qx k * zy r + qy k * zx r)).natAbs ≤ 2 ^ 100 := fun k => by
    have := (q_near2 tabW (stM ((k : Int) * t)) (stM t)).2
    rw [(turn k).2, ezx, ezy, hqx, hqy, Int.mul_comm]
    exact this
  obtain ⟨n, hnm⟩ : ∃ n, m = r + 1 + n := ⟨m - (r + 1), by omega⟩
  obtain ⟨c1, c2⟩ := chain_bd hm hr hz hq hx hy n (by omega)
  rw [← hnm] at c1 c2
  have db := dB_le (n := n) (by omega)
  have dz : (2 : Nat) ^ 112 = 2 ^ 48 * 18446744073709551616 := by decide
  have zo : ∀ i, m + 1 ≤ i → cP zx zy m i = (0, 0) := fun i hi => cP_out (by omega)
  have s1 : suZ (ex (cP zx zy m) qx qy) 5 = suZ (ex (cP zx zy m) qx qy) (m + 1) := by
    have := suZ_more (f := ex (cP zx zy m) qx qy) (n := m + 1) (4 - m) (fun i hi => by unfold ex; rw [zo i hi]; simp)
    rw [show m + 1 + (4 - m) = 5 by omega] at this
    exact this
  have s2 : suZ (ey (cP zx zy m) qx qy) 5 = suZ (ey (cP zx zy m) qx qy) (m + 1) := by
    have := suZ_more (f := ey (cP zx zy m) qx qy) (n := m + 1) (4 - m) (fun i hi => by unfold ey; rw [zo i hi]; simp)
    rw [show m + 1 + (4 - m) = 5 by omega] at this
    exact this
  rw [s1] at c1
  rw [s2] at c2
  have f1 := flo_sum (n := m + 1) (T := fun k => ex (cP zx zy m) qx qy k / 18446744073709551616) (D := 2 ^ 48) (by omega) (fun k => rfl) (Nat.le_trans c1 (by rw [← dz]; exact db))
  have f2 := flo_sum (n := m + 1) (T := fun k => ey (cP zx zy m) qx qy k / 18446744073709551616) (D := 2 ^ 48) (by omega) (fun k => rfl) (Nat.le_trans c2 (by rw [← dz]; exact db))
  have hst : ∀ k, k < m + 1 → stpN (grL (m + 1) s 0 (m + 1)) (nth l r) 0 k = (k : Int) * t := fun k hk => by
    obtain ⟨e1, e2⟩ := grL_at (c := m + 1) (dx := (s : Int)) (dy := 0) hk
    unfold stpN
    rw [e1, e2, Nat.mod_eq_of_lt hk, Int.mul_zero, Int.add_zero, ht, Int.mul_assoc]
  have per : ∀ k, k < m + 1 → okM (cjB (cjB (plF (nuZ s l) m k))) (PH (stpN (grL (m + 1) s 0 (m + 1)) (nth l r) 0 k)) ∧ nearC (mulB (cjB (cjB (plF (nuZ s l) m k))) (PH (stpN (grL (m + 1) s 0 (m + 1)) (nth l r) 0 k))) (ex (cP zx zy m) qx qy k / 18446744073709551616) (ey (cP zx zy m) qx qy k / 18446744073709551616) (2 ^ 49) ∧ (ex (cP zx zy m) qx qy k / 18446744073709551616).natAbs ≤ 18 * 2 ^ 64 ∧ (ey (cP zx zy m) qx qy k / 18446744073709551616).natAbs ≤ 18 * 2 ^ 64 := fun k hk => by
    obtain ⟨u1, u2, u3, u4⟩ := numD_at (m := m) (k := k) (by omega) (by omega)
    have nc := conj_near (conj_near (hp m (Nat.le_refl _) k))
    rw [Int.neg_neg] at nc
    rw [hst k hk]
    have kb : ((k : Int) * t).natAbs < 2 ^ 27 := by
      rw [Int.natAbs_mul, Int.natAbs_natCast]
      exact Nat.lt_of_le_of_lt (Nat.mul_le_mul (show k ≤ 4 by omega) tb) (by decide)
    have nq := PH_near kb
    have nq : nearC (PH ((k : Int) * t)) (qx k) (qy k) (2 ^ 41) := by rw [hqx, hqy]; exact nq
    have cb := cP_bd hz m k
    have fb := fl_bd cb (hq k)
    have fb : (ex (cP zx zy m) qx qy k / 18446744073709551616).natAbs + (ey (cP zx zy m) qx qy k / 18446744073709551616).natAbs ≤ bN m k * 26087636000000000000 / 18446744073709551616 + 3 := fb
    have e49 : (2 : Nat) ^ 49 = (2 ^ 49 - 2 ^ 45) + 2 ^ (69 - 24) := by decide
    obtain ⟨a, b⟩ := mulG (k := 69) (k1 := 72) (k2 := 66) (n1 := bN m k) (n2 := 26087636000000000000) (V := 2 ^ 49 - 2 ^ 45) (T := ex (cP zx zy m) qx qy k / 18446744073709551616) (U := ey (cP zx zy m) qx qy k / 18446744073709551616) (by decide) (by decide) (by decide) nc nq cb (hq k) u1 (by decide) u2 (fl_rest _) (fl_rest _) (Nat.le_trans (by omega) u3) (Nat.le_trans (by omega) u3)
    rw [← e49] at b
    exact ⟨a, b, Nat.le_trans (by omega) u4, Nat.le_trans (by omega) u4⟩
  have D := dotN (f := fun k => cjB (cjB (plF (nuZ s l) m k))) (g := fun k => PH (stpN (grL (m + 1) s 0 (m + 1)) (nth l r) 0 k)) (K := 2 ^ 49) (A := 18 * 2 ^ 64) (B := 2 ^ 49 + 2 ^ 47) rfl (by decide) (n := m + 1) (by omega) (fun i hi => (per i hi).2.2.1) (fun i hi => (per i hi).2.2.2) (fun i hi => (per i hi).2.1)
  have hE : (m + 1) * (2 ^ 49 + 2 ^ 47) ≤ 5 * (2 ^ 49 + 2 ^ 47) := Nat.mul_le_mul_right _ (by omega)
  have num : 2 ^ 48 + 5 + 5 * (2 ^ 49 + 2 ^ 47) ≤ 2 ^ 52 := by decide
  have fin : ∀ {b : Nat} {X : Int}, nearP b X ((m + 1) * (2 ^ 49 + 2 ^ 47)) → X.natAbs ≤ 2 ^ 48 + 5 → bd .f32 137 b := fun {b X} hb hX => by
    obtain ⟨v, g1, g2⟩ := hb
    exact ⟨v, g1, near_absG (M := 0) (k := 52) g2 (Nat.le_trans (Nat.add_le_add hX hE) num)⟩
  exact ⟨fun k hk => (per k hk).1, fin D.a f1, fin D.b f2⟩
variable {ro lo hi lo' hi' : Nat} {h : Heap} {x y : Value} {cd md : List UInt8}
noncomputable def xN0 : Ext := orX (soloX 70 gSqrt) (orX (soloX 73 gBits) (soloX 72 gFrom))
theorem xn_N0 : XN xN0 := XN.orS (XN.onlyS (by decide +kernel)) (XN.orS (XN.onlyS (by decide +kernel)) (XN.onlyS (by decide +kernel)))
theorem xok_N0 {ro : Nat} {B : Base} : XOk Try.prog ro B xN0 := orX_ok xSqrt_ok (orX_ok xBits_ok xFrom_ok)
end Go.Proofs.Ytkhipobafchilaa.Sim
