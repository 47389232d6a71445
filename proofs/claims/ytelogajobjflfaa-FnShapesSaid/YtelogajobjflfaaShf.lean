/- Grids of places, walked. Lemmas only; no condition. -/
import Derived.Test.YtelogajobjflfaaTpb
import Derived.Test.YtelogajobjflfaaSqt
import Derived.Test.YtelogajobjflfaaDrr
import Derived.Test.YtelogajobjflfaaSimXs
set_option linter.unusedSimpArgs false
set_option linter.unusedVariables false
set_option maxRecDepth 8000
namespace Go.Proofs.Ytelogajobjflfaa.Sim
open Go Go.RowKit Fl
variable {ro lo hi n : Nat} {X : Ext} {h : Heap} {x y : Value} {l : List Int} {u v : Int}
theorem accP {P : Program} {lo n k e T by_ : Nat} {h : Heap} {x z : Value} {L M : List Value} (he : elemT P T = some e) (hs : szT P e = some k) (hb : byT P e = some by_) (hz : zeroT P e = some z) (hk : 0 < k) (g : VN lo e k h x n L) (hro : ro ≤ lo) (hlo : lo ≤ h.length)
    (hM : M.length = k) (h1 : M.all one = true) (hn : (n + 1) * by_ ≤ 140737488355328) (hn' : n + 1 ≤ 4611686018427387904) :
    ∃ H, ablt P ro .append [T, T] [x, .slice (some ⟨h.length, 0, none⟩) 1 1] (h ++ [⟨e, M⟩]) = some (.slice (some ⟨h.length + 1, 0, none⟩) (n + 1) (n + 1 + 1), H) ∧ VG lo e k H (.slice (some ⟨h.length + 1, 0, none⟩) (n + 1) (n + 1 + 1)) (n + 1) (L ++ M) ∧ Old lo x h H ∧ H.length = h.length + 2 := by
  have p1 := (Pfx.refl h).snoc (C := ⟨e, M⟩)
  have q1 : (h ++ [(⟨e, M⟩ : Blk)]).length = h.length + 1 := by simp
  have g1 := g.pre p1
  have hll : L.length = n * k := by
    rcases g with g | ⟨rfl, rfl, _⟩
    · exact g.1
    · simp
  have ap := ablt_apv (ro := ro) he hs hb hz hk (.inl rfl) g1 hro (y := .slice (some ⟨h.length, 0, none⟩) 1 1) (M := M) (m := 1) (news_blk (j := 1) (get_last rfl) (by omega)) rfl (by omega) (by decide) h1 hn hn'
  rw [q1] at ap
  refine ⟨_, ap, ?_, ⟨fun h0 hp hl => Pfx.apv (hp.trans p1) g1 hl, fun b hb hne => ?_, ?_⟩, ?_⟩
  · have := vg_apv (lo := lo) (t := e) (k := k) (h := h ++ [(⟨e, M⟩ : Blk)]) (x := x) (n := n) (m := n + 1) (M := L ++ M) (by rw [List.length_append, hll, hM, Nat.add_mul, Nat.one_mul]) (by omega) (by omega)
    rw [q1] at this
    exact this
  · rw [apv_getN g1 (by omega) hne]; exact get_skip hb
  · rw [apv_len, q1]; omega
  · rw [apv_len, q1]
theorem nth_app_l {a b : List Int} {i : Nat} (h : i < a.length) : nth (a ++ b) i = nth a i := by simp only [nth, List.getD_eq_getElem?_getD, List.getElem?_append_left h]
theorem nth_app_r {a b : List Int} {i : Nat} (h : a.length ≤ i) : nth (a ++ b) i = nth b (i - a.length) := by simp only [nth, List.getD_eq_getElem?_getD, List.getElem?_append_right h]
theorem valP_c (hX : XN X) (hI : IS lo hi 2 h x n l) (ht : tyP ro h x) (hg : goodP n l) (hro : ro ≤ h.length) : CallR Try.prog ro X 178 [x] h (fun r h' => r = .tuple ⟨[x, .bool true]⟩ ∧ h' = h) := by
  refine callR_of (hX _ rfl) Try.func178 rfl (by kernel_rfl) (Nat.le_of_ble_eq_true rfl) ?_
  (repeat' first | simp -dsimp (disch := first | omega | assumption | (refine OkS.sto ?_ (by omega); first | assumption | (refine OkS.sto ?_ (by omega); first | assumption | (refine OkS.sto ?_ (by omega); first | assumption | (refine OkS.sto ?_ (by omega); first | assumption | (refine OkS.sto ?_ (by omega); first | assumption | (refine OkS.sto ?_ (by omega); first | assumption)))))) | exact Pfx.refl _ | (apply Pfx.snoc; repeat (first | exact Pfx.refl _ | assumption | apply Pfx.snoc)) | with_unfolding_all exact of_eq_true (eq_true rfl) | (simp only [List.length_append, List.length_cons, List.length_nil]; omega)) only [↓wpre0, ↓wpre1, ↓reduceIte, Int.reduceToNat, Nat.reduceAdd, Nat.reduceMul, Nat.reduceEqDiff, wpost0, wpost1, wpost2, wpost3, wpost4, ite_self, ite_true, ite_false, if_true, if_false, un_not, fr178, wrap_int, wrap_u8, iteP_yes, iteP_no, vPlaces_r hX hI ht hg hro] | refine iteP_two (fun hc hd => ?_) (fun hc hd => ?_) | refine iteP_intro (fun hc => ?_) (fun hc => ?_))
  all_goals exact ⟨rfl, rfl⟩
/-- The coordinates of a grid. -/
def grL (c : Nat) (dx dy : Int) (m : Nat) : List Int := (List.range m).flatMap fun j => [((j % c : Nat) : Int) * dx, ((j / c : Nat) : Int) * dy]
theorem grL_succ {c m : Nat} {dx dy : Int} : grL c dx dy (m + 1) = grL c dx dy m ++ [((m % c : Nat) : Int) * dx, ((m / c : Nat) : Int) * dy] := by simp [grL, List.range_succ]
theorem grL_len {c : Nat} {dx dy : Int} : ∀ m, (grL c dx dy m).length = m * 2
  | 0 => rfl
  | m + 1 => by rw [grL_succ, List.length_append, grL_len m]; simp; omega
theorem grL_at {c : Nat} {dx dy : Int} : ∀ {m i : Nat}, i < m → nth (grL c dx dy m) (i * 2) = ((i % c : Nat) : Int) * dx ∧ nth (grL c dx dy m) (i * 2 + 1) = ((i / c : Nat) : Int) * dy
  | 0, i, h => by omega
  | m + 1, i, h => by
    have hl := grL_len (c := c) (dx := dx) (dy := dy) m
    rw [grL_succ]
    by_cases e : i = m
    · subst e
      rw [nth_app_r (by omega), nth_app_r (by omega), hl]
      have e1 : i * 2 - i * 2 = 0 := by omega
      have e2 : i * 2 + 1 - i * 2 = 1 := by omega
      rw [e1, e2]
      exact ⟨rfl, rfl⟩
    · rw [nth_app_l (by omega), nth_app_l (by omega)]
      exact grL_at (by omega)
theorem gr_rng {i : Nat} {d : Int} (hi : i < 16) (h1 : -4096 ≤ d) (h2 : d ≤ 4096) : -65536 ≤ (i : Int) * d ∧ (i : Int) * d ≤ 65536 := by
  have e : ((i : Int) * d).natAbs = i * d.natAbs := by rw [Int.natAbs_mul, Int.natAbs_natCast]
  have : i * d.natAbs ≤ 16 * 4096 := Nat.mul_le_mul (by omega) (by omega)
  omega
set_option maxHeartbeats 8000000 in
theorem Grid_c {c r : Nat} {dx dy : Int} (hX : XN X) (c1 : 1 ≤ c) (c2 : c ≤ 16) (r1 : 1 ≤ r) (r2 : r ≤ 16) (hcr : n = c * r) (hx : cdB dx = true) (hy : cdB dy = true) (hg : goodP n (grL c dx dy n)) (hro : ro ≤ h.length) :
    CallR Try.prog ro X 97 [.int .i64 c, .int .i64 r, .int .i64 dx, .int .i64 dy] h (fun r h' => ∃ z, r = .tuple ⟨[z, .bool true]⟩ ∧ Pfx h h' ∧ VG h.length 126 2 h' z n (vints (grL c dx dy n))) := by
  have n16 := hg.n16
  have kx := isCoord_r (ro := ro) hX dx
  have ky := isCoord_r (ro := ro) hX dy
  rw [hx] at kx
  rw [hy] at ky
  have kc := isCnt_r (ro := ro) hX (c : Int)
  have kr := isCnt_r (ro := ro) hX (r : Int)
  have wc : (decide ((1 : Int) ≤ (c : Int)) && decide ((c : Int) ≤ 16)) = true := by simp; omega
  have wr : (decide ((1 : Int) ≤ (r : Int)) && decide ((r : Int) ≤ 16)) = true := by simp; omega
  rw [wc] at kc
  rw [wr] at kr
  unfold cdB at hx hy
  simp only [Bool.and_eq_true, decide_eq_true_eq] at hx hy
  refine callR_of (hX _ rfl) Try.func97 rfl (by kernel_rfl) (Nat.le_of_ble_eq_true rfl) ?_
  (repeat' first | simp -dsimp (disch := first | omega | assumption | (refine OkS.sto ?_ (by omega); first | assumption | (refine OkS.sto ?_ (by omega); first | assumption | (refine OkS.sto ?_ (by omega); first | assumption | (refine OkS.sto ?_ (by omega); first | assumption | (refine OkS.sto ?_ (by omega); first | assumption | (refine OkS.sto ?_ (by omega); first | assumption)))))) | exact Pfx.refl _ | (apply Pfx.snoc; repeat (first | exact Pfx.refl _ | assumption | apply Pfx.snoc)) | with_unfolding_all exact of_eq_true (eq_true rfl) | (simp only [List.length_append, List.length_cons, List.length_nil]; omega)) only [↓wpre0, ↓wpre1, ↓reduceIte, Int.reduceToNat, Nat.reduceAdd, Nat.reduceMul, Nat.reduceEqDiff, wpost0, wpost1, wpost2, wpost3, wpost4, ite_self, ite_true, ite_false, if_true, if_false, un_not, xbls54_0, xbls54_1, bin_lss, bin_mul, xbld126_0_1, bin_add, fr97, wrap_int, wrap_u8, iteP_yes, iteP_no, kc, kr, kx, ky] | refine iteP_two (fun hc hd => ?_) (fun hc hd => ?_) | refine iteP_intro (fun hc => ?_) (fun hc => ?_))
  refine loop_rounds (fun mm e h' => ∃ (j : Nat) (z : Value), mm = r - j ∧ j ≤ r ∧ Pfx h h' ∧ e 0 = .int .i64 c ∧ e 2 = .int .i64 dx ∧ e 3 = .int .i64 dy ∧ e 10 = z ∧ e 32 = .int .i64 r ∧ e 33 = .int .i64 j ∧ VG h.length 126 2 h' z (j * c) (vints (grL c dx dy (j * c)))) _ ⟨0, .slice (some ⟨h.length, 0, none⟩) 0 0, rfl, ?_⟩ ?_
  · simp only [updO_at, updO_not, entry_at, List.getD_cons_zero, List.getD_cons_succ, ↓reduceIte, Nat.reduceEqDiff, true_and, and_true]
    have q1 : Pfx h (h ++ [(⟨126, []⟩ : Blk)]) := (Pfx.refl h).snoc
    have q2 : VG h.length 126 2 (h ++ [(⟨126, []⟩ : Blk)]) (.slice (some ⟨h.length, 0, none⟩) 0 0) (0 * c) (vints (grL c dx dy (0 * c))) := by rw [Nat.zero_mul]; exact vg_new h (Nat.le_refl _)
    (repeat' (first | assumption | rfl | omega | exact q1 | exact q2 | exact Nat.zero_le _ | refine And.intro ?_ ?_))
  · rintro mm e h' ⟨j, z, hmm, hle, hp, g0, g2, g3, g10, g32, g33, hZ⟩
    have hjs : (j : Int) + 1 = ((j + 1 : Nat) : Int) := by omega
    have hlp := hp.len
    by_cases hjn : j < r
    · (repeat' first | simp -dsimp (disch := first | omega | assumption | (refine OkS.sto ?_ (by omega); first | assumption | (refine OkS.sto ?_ (by omega); first | assumption | (refine OkS.sto ?_ (by omega); first | assumption | (refine OkS.sto ?_ (by omega); first | assumption | (refine OkS.sto ?_ (by omega); first | assumption | (refine OkS.sto ?_ (by omega); first | assumption)))))) | exact Pfx.refl _ | (apply Pfx.snoc; repeat (first | exact Pfx.refl _ | assumption | apply Pfx.snoc)) | with_unfolding_all exact of_eq_true (eq_true rfl) | (simp only [List.length_append, List.length_cons, List.length_nil]; omega)) only [↓wpre0, ↓wpre1, ↓reduceIte, Int.reduceToNat, Nat.reduceAdd, Nat.reduceMul, Nat.reduceEqDiff, wpost0, wpost1, wpost2, wpost3, wpost4, ite_self, ite_true, ite_false, if_true, if_false, un_not, xbls54_0, xbls54_1, bin_lss, bin_mul, xbld126_0_1, bin_add, fr97, wrap_int, wrap_u8, iteP_yes, iteP_no, g0, g2, g3, g10, g32, g33] | refine iteP_two (fun hc hd => ?_) (fun hc hd => ?_) | refine iteP_intro (fun hc => ?_) (fun hc => ?_))
      refine loop_rounds (fun mm e h' => ∃ (i : Nat) (z : Value), mm = c - i ∧ i ≤ c ∧ Pfx h h' ∧ e 0 = .int .i64 c ∧ e 2 = .int .i64 dx ∧ e 3 = .int .i64 dy ∧ e 11 = .int .i64 j ∧ e 10 = z ∧ e 32 = .int .i64 r ∧ e 33 = .int .i64 j ∧ e 36 = .int .i64 c ∧ e 37 = .int .i64 i ∧ VG h.length 126 2 h' z (j * c + i) (vints (grL c dx dy (j * c + i)))) _ ⟨0, z, rfl, ?_⟩ ?_
      · simp only [updO_at, updO_not, entry_at, List.getD_cons_zero, List.getD_cons_succ, ↓reduceIte, Nat.reduceEqDiff, true_and, and_true]
        (repeat' (first | assumption | rfl | omega | exact hp | exact hZ | exact Nat.zero_le _ | refine And.intro ?_ ?_))
      · clear hp hlp hZ g0 g2 g3 g10 g32 g33
        rintro mm e h' ⟨i, z, hmm, hle, hp, g0, g2, g3, g11, g10, g32, g33, g36, g37, hZ⟩
        have hks : (i : Int) + 1 = ((i + 1 : Nat) : Int) := by omega
        have hlp := hp.len
        by_cases hin : i < c
        · have a1 := gr_rng (i := i) (d := dx) (by omega) (by omega) (by omega)
          have a2 := gr_rng (i := j) (d := dy) (by omega) (by omega) (by omega)
          have hm : j * c + i < n := by
            have := Nat.mul_le_mul_right c (show j + 1 ≤ r from hjn)
            rw [Nat.add_mul, Nat.one_mul] at this
            rw [hcr, Nat.mul_comm c r]; omega
          have em1 : (j * c + i) % c = i := by rw [Nat.mul_comm, Nat.mul_add_mod, Nat.mod_eq_of_lt hin]
          have em2 : (j * c + i) / c = j := by rw [Nat.mul_comm, Nat.mul_add_div (by omega), Nat.div_eq_of_lt hin, Nat.add_zero]
          obtain ⟨H, ap, vg, old, hlen⟩ := accP (P := Try.prog) (ro := ro) (T := 54) (h := h') (k := 2) (M := [.int .i64 ((i : Int) * dx), .int .i64 ((j : Int) * dy)]) tel54 tsz126 tby126 tze126 (by decide) (.inl hZ) hro (by omega) rfl rfl (by omega) (by omega)
          have eV : vints (grL c dx dy (j * c + i)) ++ [.int .i64 ((i : Int) * dx), .int .i64 ((j : Int) * dy)] = vints (grL c dx dy (j * c + (i + 1))) := by rw [← Nat.add_assoc, grL_succ, vints_app, em1, em2]; rfl
          rw [eV, Nat.add_assoc] at vg
          have pH := old.1 h hp (Nat.le_refl _)
          (repeat' first | simp -dsimp (disch := first | omega | assumption | (refine OkS.sto ?_ (by omega); first | assumption | (refine OkS.sto ?_ (by omega); first | assumption | (refine OkS.sto ?_ (by omega); first | assumption | (refine OkS.sto ?_ (by omega); first | assumption | (refine OkS.sto ?_ (by omega); first | assumption | (refine OkS.sto ?_ (by omega); first | assumption)))))) | exact Pfx.refl _ | (apply Pfx.snoc; repeat (first | exact Pfx.refl _ | assumption | apply Pfx.snoc)) | with_unfolding_all exact of_eq_true (eq_true rfl) | (simp only [List.length_append, List.length_cons, List.length_nil]; omega)) only [↓wpre0, ↓wpre1, ↓reduceIte, Int.reduceToNat, Nat.reduceAdd, Nat.reduceMul, Nat.reduceEqDiff, wpost0, wpost1, wpost2, wpost3, wpost4, ite_self, ite_true, ite_false, if_true, if_false, un_not, xbls54_0, xbls54_1, bin_lss, bin_mul, xbld126_0_1, bin_add, fr97, wrap_int, wrap_u8, iteP_yes, iteP_no, g0, g2, g3, g11, g10, g32, g33, g36, g37, ap] | refine iteP_two (fun hc hd => ?_) (fun hc hd => ?_) | refine iteP_intro (fun hc => ?_) (fun hc => ?_))
          exact ⟨c - (i + 1), by omega, i + 1, _, rfl, by omega, pH, rfl, by rw [hks], vg⟩
        · have ei : i = c := by omega
          subst ei
          have hZ' : VG h.length 126 2 h' z ((j + 1) * i) (vints (grL i dx dy ((j + 1) * i))) := by rw [Nat.add_mul, Nat.one_mul]; exact hZ
          (repeat' first | simp -dsimp (disch := first | omega | assumption | (refine OkS.sto ?_ (by omega); first | assumption | (refine OkS.sto ?_ (by omega); first | assumption | (refine OkS.sto ?_ (by omega); first | assumption | (refine OkS.sto ?_ (by omega); first | assumption | (refine OkS.sto ?_ (by omega); first | assumption | (refine OkS.sto ?_ (by omega); first | assumption)))))) | exact Pfx.refl _ | (apply Pfx.snoc; repeat (first | exact Pfx.refl _ | assumption | apply Pfx.snoc)) | with_unfolding_all exact of_eq_true (eq_true rfl) | (simp only [List.length_append, List.length_cons, List.length_nil]; omega)) only [↓wpre0, ↓wpre1, ↓reduceIte, Int.reduceToNat, Nat.reduceAdd, Nat.reduceMul, Nat.reduceEqDiff, wpost0, wpost1, wpost2, wpost3, wpost4, ite_self, ite_true, ite_false, if_true, if_false, un_not, xbls54_0, xbls54_1, bin_lss, bin_mul, xbld126_0_1, bin_add, fr97, wrap_int, wrap_u8, iteP_yes, iteP_no, g0, g2, g3, g11, g10, g32, g33, g36, g37] | refine iteP_two (fun hc hd => ?_) (fun hc hd => ?_) | refine iteP_intro (fun hc => ?_) (fun hc => ?_))
          exact ⟨r - (j + 1), by omega, j + 1, _, rfl, by omega, hp, rfl, by rw [hjs], hZ'⟩
    · have ei : j = r := by omega
      subst ei
      rw [Nat.mul_comm j c, ← hcr] at hZ
      have hIz := hZ.vs.is
      have htz : tyP ro h' z := fun _ => by
        obtain ⟨_, b, cap, rfl, _, hb2, _⟩ := hZ
        show (h'[b]?).map Blk.ty = _
        rw [hb2]; rfl
      have hnf : Sim.flat (.tuple ⟨[z, .bool true]⟩) = false := by obtain ⟨_, b, cap, rfl, _⟩ := hZ; rfl
      (repeat' first | simp -dsimp (disch := first | omega | assumption | (refine OkS.sto ?_ (by omega); first | assumption | (refine OkS.sto ?_ (by omega); first | assumption | (refine OkS.sto ?_ (by omega); first | assumption | (refine OkS.sto ?_ (by omega); first | assumption | (refine OkS.sto ?_ (by omega); first | assumption | (refine OkS.sto ?_ (by omega); first | assumption)))))) | exact Pfx.refl _ | (apply Pfx.snoc; repeat (first | exact Pfx.refl _ | assumption | apply Pfx.snoc)) | with_unfolding_all exact of_eq_true (eq_true rfl) | (simp only [List.length_append, List.length_cons, List.length_nil]; omega)) only [↓wpre0, ↓wpre1, ↓reduceIte, Int.reduceToNat, Nat.reduceAdd, Nat.reduceMul, Nat.reduceEqDiff, wpost0, wpost1, wpost2, wpost3, wpost4, ite_self, ite_true, ite_false, if_true, if_false, un_not, xbls54_0, xbls54_1, bin_lss, bin_mul, xbld126_0_1, bin_add, fr97, wrap_int, wrap_u8, iteP_yes, iteP_no, g0, g2, g3, g10, g32, g33] | refine iteP_two (fun hc hd => ?_) (fun hc hd => ?_) | refine iteP_intro (fun hc => ?_) (fun hc => ?_))
      refine cf_rel (valP_c hX hIz htz hg (by omega)) (fun q => by cases q) ?_
      rintro r h2 ⟨rfl, rfl⟩
      (repeat' first | simp -dsimp (disch := first | omega | assumption | (refine OkS.sto ?_ (by omega); first | assumption | (refine OkS.sto ?_ (by omega); first | assumption | (refine OkS.sto ?_ (by omega); first | assumption | (refine OkS.sto ?_ (by omega); first | assumption | (refine OkS.sto ?_ (by omega); first | assumption | (refine OkS.sto ?_ (by omega); first | assumption)))))) | exact Pfx.refl _ | (apply Pfx.snoc; repeat (first | exact Pfx.refl _ | assumption | apply Pfx.snoc)) | with_unfolding_all exact of_eq_true (eq_true rfl) | (simp only [List.length_append, List.length_cons, List.length_nil]; omega)) only [↓wpre0, ↓wpre1, ↓reduceIte, Int.reduceToNat, Nat.reduceAdd, Nat.reduceMul, Nat.reduceEqDiff, wpost0, wpost1, wpost2, wpost3, wpost4, ite_self, ite_true, ite_false, if_true, if_false, un_not, xbls54_0, xbls54_1, bin_lss, bin_mul, xbld126_0_1, bin_add, fr97, wrap_int, wrap_u8, iteP_yes, iteP_no, endH_not hnf] | refine iteP_two (fun hc hd => ?_) (fun hc hd => ?_) | refine iteP_intro (fun hc => ?_) (fun hc => ?_))
      exact ⟨z, rfl, hp, hZ⟩
end Go.Proofs.Ytelogajobjflfaa.Sim

/- Boxes, least distances, rings as plain functions. Lemmas only; no condition. -/
set_option linter.unusedSimpArgs false
set_option linter.unusedVariables false
set_option maxRecDepth 8000
namespace Go.Proofs.Ytelogajobjflfaa.Sim
open Go Go.RowKit Fl
variable {l : List Int} {n : Nat}
/-- Least and greatest coordinates. -/
def mnJ (l : List Int) (o : Nat) : Nat → Int
  | 0 => nth l o
  | m + 1 => min (mnJ l o m) (nth l (m * 2 + o))
def mxJ (l : List Int) (o : Nat) : Nat → Int
  | 0 => nth l o
  | m + 1 => max (mxJ l o m) (nth l (m * 2 + o))
theorem mnJ_ge {o : Nat} {B : Int} (h0 : B ≤ nth l o) : ∀ {m : Nat}, (∀ i, i < m → B ≤ nth l (i * 2 + o)) → B ≤ mnJ l o m
  | 0, _ => h0
  | m + 1, h => by
    have a := mnJ_ge h0 (fun i hi => h i (Nat.lt_succ_of_lt hi))
    have b := h m (Nat.lt_succ_self m)
    have e : mnJ l o (m + 1) = min (mnJ l o m) (nth l (m * 2 + o)) := rfl
    rw [e]; omega
theorem mnJ_le {o : Nat} : ∀ {m : Nat} (i : Nat), i < m → mnJ l o m ≤ nth l (i * 2 + o)
  | 0, i, h => by omega
  | m + 1, i, h => by
    have e : mnJ l o (m + 1) = min (mnJ l o m) (nth l (m * 2 + o)) := rfl
    by_cases q : i = m
    · subst q; rw [e]; omega
    · have := mnJ_le (o := o) (m := m) i (by omega)
      rw [e]; omega
theorem mxJ_le {o : Nat} {B : Int} (h0 : nth l o ≤ B) : ∀ {m : Nat}, (∀ i, i < m → nth l (i * 2 + o) ≤ B) → mxJ l o m ≤ B
  | 0, _ => h0
  | m + 1, h => by
    have a := mxJ_le h0 (fun i hi => h i (Nat.lt_succ_of_lt hi))
    have b := h m (Nat.lt_succ_self m)
    have e : mxJ l o (m + 1) = max (mxJ l o m) (nth l (m * 2 + o)) := rfl
    rw [e]; omega
theorem mxJ_ge {o : Nat} : ∀ {m : Nat} (i : Nat), i < m → nth l (i * 2 + o) ≤ mxJ l o m
  | 0, i, h => by omega
  | m + 1, i, h => by
    have e : mxJ l o (m + 1) = max (mxJ l o m) (nth l (m * 2 + o)) := rfl
    by_cases q : i = m
    · subst q; rw [e]; omega
    · have := mxJ_ge (o := o) (m := m) i (by omega)
      rw [e]; omega
/-! ### Grids -/
theorem gr_nn {i : Nat} {d : Int} (h : 0 ≤ d) : 0 ≤ (i : Int) * d := Int.mul_nonneg (by omega) h
theorem gr_mono {i k : Nat} {d : Int} (h : 0 ≤ d) (hik : i ≤ k) : (i : Int) * d ≤ (k : Int) * d := Int.mul_le_mul_of_nonneg_right (by omega) h
theorem gr_inj {i k : Nat} {d : Int} (h : 1 ≤ d) (e : (i : Int) * d = (k : Int) * d) : i = k := by
  have := Int.eq_of_mul_eq_mul_right (by omega) e
  omega
theorem gr_box {c r : Nat} {dx dy : Int} (c1 : 1 ≤ c) (r1 : 1 ≤ r) (hx : 0 ≤ dx) (hy : 0 ≤ dy) (hn : n = c * r) :
    mnJ (grL c dx dy n) 0 n = 0 ∧ mnJ (grL c dx dy n) 1 n = 0 ∧ mxJ (grL c dx dy n) 0 n = ((c - 1 : Nat) : Int) * dx ∧ mxJ (grL c dx dy n) 1 n = ((r - 1 : Nat) : Int) * dy := by
  have hp : 0 < n := by rw [hn]; exact Nat.mul_pos c1 r1
  have a0 := grL_at (c := c) (dx := dx) (dy := dy) hp
  have z0 : nth (grL c dx dy n) 0 = 0 := by
    have := a0.1
    rw [Nat.zero_mul, Nat.zero_mod] at this
    rw [this]; simp
  have z1 : nth (grL c dx dy n) 1 = 0 := by
    have := a0.2
    rw [Nat.zero_mul, Nat.zero_add, Nat.zero_div] at this
    rw [this]; simp
  have hm : ∀ i, i < n → i % c ≤ c - 1 ∧ i / c ≤ r - 1 := fun i hi => by
    have := Nat.mod_lt i c1
    have q : i / c < r := Nat.div_lt_of_lt_mul (by rw [← hn]; exact hi)
    omega
  have h1 : c - 1 < n := by
    have := Nat.mul_le_mul_left c r1
    rw [Nat.mul_one, ← hn] at this; omega
  have h2 : (r - 1) * c < n := by
    rw [hn, Nat.mul_comm c r]
    exact Nat.mul_lt_mul_of_pos_right (by omega) c1
  refine ⟨?_, ?_, ?_, ?_⟩
  · have g := mnJ_ge (l := grL c dx dy n) (o := 0) (B := 0) (m := n) (by omega) (fun i hi => by rw [Nat.add_zero, (grL_at hi).1]; exact gr_nn hx)
    have k := mnJ_le (l := grL c dx dy n) (o := 0) (m := n) 0 hp
    simp only [Nat.zero_mul, Nat.add_zero] at k
    omega
  · have g := mnJ_ge (l := grL c dx dy n) (o := 1) (B := 0) (m := n) (by omega) (fun i hi => by rw [(grL_at hi).2]; exact gr_nn hy)
    have k := mnJ_le (l := grL c dx dy n) (o := 1) (m := n) 0 hp
    simp only [Nat.zero_mul, Nat.zero_add] at k
    omega
  · have g := mxJ_le (l := grL c dx dy n) (o := 0) (B := ((c - 1 : Nat) : Int) * dx) (m := n) (by rw [z0]; exact gr_nn hx) (fun i hi => by rw [Nat.add_zero, (grL_at hi).1]; exact gr_mono hx (hm i hi).1)
    have k := mxJ_ge (l := grL c dx dy n) (o := 0) (m := n) (c - 1) h1
    rw [Nat.add_zero, (grL_at h1).1, Nat.mod_eq_of_lt (by omega)] at k
    omega
  · have g := mxJ_le (l := grL c dx dy n) (o := 1) (B := ((r - 1 : Nat) : Int) * dy) (m := n) (by rw [z1]; exact gr_nn hy) (fun i hi => by rw [(grL_at hi).2]; exact gr_mono hy (hm i hi).2)
    have k := mxJ_ge (l := grL c dx dy n) (o := 1) (m := n) ((r - 1) * c) h2
    rw [(grL_at h2).2, Nat.mul_div_cancel _ c1] at k
    omega
theorem gr_good {c r : Nat} {dx dy : Int} (c1 : 1 ≤ c) (c2 : c ≤ 4) (r1 : 1 ≤ r) (r2 : r ≤ 4) (hx : 1 ≤ dx) (hx2 : dx ≤ 100) (hy : 1 ≤ dy) (hy2 : dy ≤ 100) (hn : n = c * r) : goodP n (grL c dx dy n) := by
  have hp : 0 < n := by rw [hn]; exact Nat.mul_pos c1 r1
  have n16 : n ≤ 16 := by rw [hn]; exact Nat.mul_le_mul c2 r2
  refine ⟨hp, n16, fun i hi => ?_, fun i k hi hk => ?_⟩
  · obtain ⟨e1, e2⟩ := grL_at (c := c) (dx := dx) (dy := dy) hi
    have a1 : i % c ≤ 3 := by have := Nat.mod_lt i c1; omega
    have a2 : i / c ≤ 3 := by
      have q : i / c < r := Nat.div_lt_of_lt_mul (by rw [← hn]; exact hi)
      omega
    have b1 := gr_mono (d := dx) (by omega) a1
    have b2 := gr_mono (d := dy) (by omega) a2
    have d1 := gr_nn (i := i % c) (d := dx) (by omega)
    have d2 := gr_nn (i := i / c) (d := dy) (by omega)
    unfold plB cdB
    rw [e1, e2]
    simp only [Bool.and_eq_true, decide_eq_true_eq]
    omega
  · obtain ⟨e1, e2⟩ := grL_at (c := c) (dx := dx) (dy := dy) hi
    obtain ⟨e3, e4⟩ := grL_at (c := c) (dx := dx) (dy := dy) (show k < n by omega)
    unfold samB
    rw [e1, e2, e3, e4]
    refine Bool.eq_false_iff.2 fun q => ?_
    simp only [Bool.and_eq_true, decide_eq_true_eq] at q
    have g1 : i % c = k % c := by first | exact gr_inj hx q.1 | exact (gr_inj hx q.1).symm
    have g2 : i / c = k / c := by first | exact gr_inj hy q.2 | exact (gr_inj hy q.2).symm
    have f1 := Nat.div_add_mod i c
    have f2 := Nat.div_add_mod k c
    rw [g1, g2] at f1
    omega
/-! ### Least distances -/
def dqF (l : List Int) (i k : Nat) : Int := (nth l (i * 2) - nth l (k * 2)) * (nth l (i * 2) - nth l (k * 2)) + (nth l (i * 2 + 1) - nth l (k * 2 + 1)) * (nth l (i * 2 + 1) - nth l (k * 2 + 1))
def lsIn (l : List Int) (i : Nat) (m : Int) : Nat → Int
  | 0 => m
  | k + 1 => min (lsIn l i m k) (dqF l i k)
def lsOut (l : List Int) : Nat → Int
  | 0 => 9223372036854775807
  | i + 1 => lsIn l i (lsOut l i) i
theorem lsIn_le {i : Nat} {m : Int} : ∀ {a : Nat}, lsIn l i m a ≤ m ∧ ∀ k, k < a → lsIn l i m a ≤ dqF l i k
  | 0 => ⟨Int.le_refl _, fun k h => by omega⟩
  | a + 1 => by
    have ih := lsIn_le (i := i) (m := m) (a := a)
    have e : lsIn l i m (a + 1) = min (lsIn l i m a) (dqF l i a) := rfl
    refine ⟨by rw [e]; omega, fun k h => ?_⟩
    by_cases q : k = a
    · subst q; rw [e]; omega
    · have := ih.2 k (by omega); rw [e]; omega
theorem lsOut_le : ∀ {a : Nat} (i k : Nat), i < a → k < i → lsOut l a ≤ dqF l i k
  | 0, i, k, h, _ => by omega
  | a + 1, i, k, h, hk => by
    have e : lsOut l (a + 1) = lsIn l a (lsOut l a) a := rfl
    have q := lsIn_le (l := l) (i := a) (m := lsOut l a) (a := a)
    rw [e]
    by_cases g : i = a
    · subst g; exact q.2 k hk
    · have := lsOut_le (a := a) i k (by omega) hk
      exact Int.le_trans q.1 this
theorem lsIn_in {i : Nat} {m : Int} : ∀ {a : Nat}, lsIn l i m a = m ∨ ∃ k, k < a ∧ lsIn l i m a = dqF l i k
  | 0 => .inl rfl
  | a + 1 => by
    have e : lsIn l i m (a + 1) = min (lsIn l i m a) (dqF l i a) := rfl
    rcases Int.le_total (lsIn l i m a) (dqF l i a) with q | q
    · rw [e, Int.min_eq_left q]
      rcases lsIn_in (i := i) (m := m) (a := a) with g | ⟨k, hk, g⟩
      · exact .inl g
      · exact .inr ⟨k, by omega, g⟩
    · rw [e, Int.min_eq_right q]
      exact .inr ⟨a, by omega, rfl⟩
theorem lsOut_in : ∀ {a : Nat}, lsOut l a = 9223372036854775807 ∨ ∃ i k, i < a ∧ k < i ∧ lsOut l a = dqF l i k
  | 0 => .inl rfl
  | a + 1 => by
    have e : lsOut l (a + 1) = lsIn l a (lsOut l a) a := rfl
    rw [e]
    rcases lsIn_in (l := l) (i := a) (m := lsOut l a) (a := a) with g | ⟨k, hk, g⟩
    · rw [g]
      rcases lsOut_in (a := a) with f | ⟨i, k, h1, h2, f⟩
      · exact .inl f
      · exact .inr ⟨i, k, by omega, h2, f⟩
    · exact .inr ⟨a, k, by omega, hk, g⟩
/-- Whether a distance is met. -/
def fdIn (l : List Int) (L : Int) (i : Nat) (b : Bool) : Nat → Bool
  | 0 => b
  | k + 1 => fdIn l L i b k || decide (dqF l i k = L)
def fdOut (l : List Int) (L : Int) : Nat → Bool
  | 0 => false
  | i + 1 => fdIn l L i (fdOut l L i) i
theorem fdIn_keep {L : Int} {i : Nat} : ∀ {a : Nat}, fdIn l L i true a = true
  | 0 => rfl
  | a + 1 => by simp only [fdIn, fdIn_keep (a := a), Bool.true_or]
theorem fdIn_hit {L : Int} {i : Nat} {b : Bool} : ∀ {a : Nat} (k : Nat), k < a → dqF l i k = L → fdIn l L i b a = true
  | 0, k, h, _ => by omega
  | a + 1, k, h, e => by
    by_cases q : k = a
    · subst q; simp only [fdIn, e, decide_true, Bool.or_true]
    · simp only [fdIn, fdIn_hit (a := a) k (by omega) e, Bool.true_or]
theorem fdOut_hit {L : Int} : ∀ {a : Nat} (i k : Nat), i < a → k < i → dqF l i k = L → fdOut l L a = true
  | 0, i, k, h, _, _ => by omega
  | a + 1, i, k, h, hk, e => by
    by_cases q : i = a
    · subst q; exact fdIn_hit k hk e
    · simp only [fdOut, fdOut_hit (a := a) i k (by omega) hk e, fdIn_keep]
theorem sq_rng {a b : Int} (h1 : -1024 ≤ a) (h2 : a ≤ 1024) (h3 : -1024 ≤ b) (h4 : b ≤ 1024) : 0 ≤ a * a ∧ a * a ≤ 1048576 ∧ 0 ≤ b * b ∧ b * b ≤ 1048576 := by
  have e1 : (a * a).natAbs ≤ 1024 * 1024 := by rw [Int.natAbs_mul]; exact Nat.mul_le_mul (by omega) (by omega)
  have e2 : (b * b).natAbs ≤ 1024 * 1024 := by rw [Int.natAbs_mul]; exact Nat.mul_le_mul (by omega) (by omega)
  have n1 : 0 ≤ a * a := by rw [← Int.natAbs_mul_self]; exact Int.natCast_nonneg _
  have n2 : 0 ≤ b * b := by rw [← Int.natAbs_mul_self]; exact Int.natCast_nonneg _
  omega
theorem dq_rng (hr : ∀ j, -512 ≤ nth l j ∧ nth l j ≤ 512) (i k : Nat) : 0 ≤ dqF l i k ∧ dqF l i k ≤ 2097152 := by
  have a := hr (i * 2)
  have b := hr (i * 2 + 1)
  have c := hr (k * 2)
  have d := hr (k * 2 + 1)
  have := sq_rng (a := nth l (i * 2) - nth l (k * 2)) (b := nth l (i * 2 + 1) - nth l (k * 2 + 1)) (by omega) (by omega) (by omega) (by omega)
  unfold dqF
  omega
theorem fd_yes (hr : ∀ j, -512 ≤ nth l j ∧ nth l j ≤ 512) (hn : 2 ≤ n) : fdOut l (lsOut l n) n = true := by
  rcases lsOut_in (l := l) (a := n) with g | ⟨i, k, h1, h2, g⟩
  · have a := lsOut_le (l := l) (a := n) 1 0 (by omega) (by omega)
    have b := dq_rng hr 1 0
    omega
  · exact fdOut_hit i k h1 h2 g.symm
end Go.Proofs.Ytelogajobjflfaa.Sim

/- Rounding to whole numbers; rings. Lemmas only; no condition. -/
set_option linter.unusedSimpArgs false
set_option linter.unusedVariables false
set_option maxRecDepth 8000
namespace Go.Proofs.Ytelogajobjflfaa.Sim
open Go Go.RowKit Fl
variable {ro lo hi n : Nat} {X : Ext} {h : Heap} {x y : Value} {l : List Int}
def rgx (c k : Nat) : Nat := farith .quo .f64 (nf64 (k : Int)) (nf64 (c : Int))
def rgP (c k : Nat) : CB := phG (rgx c k) (4 * k / c)
def wR (b : Nat) : Nat := if b = 0 then 0 else (4503599627370496 + b % 4503599627370496) * 2 ^ (b / 4503599627370496 - 1011)
def zW (b : Nat) : Int := if b < 9223372036854775808 then ((wR b : Nat) : Int) else -((wR (b - 9223372036854775808) : Nat) : Int)
def zOk (b : Nat) : Bool := b == 0 || (decide (b < 18446744073709551616) && decide (1011 ≤ b % 9223372036854775808 / 4503599627370496) && decide (b % 9223372036854775808 / 4503599627370496 < 2047))
theorem wR_fin {b : Nat} (h1 : 1011 ≤ b / 4503599627370496) (h2 : b / 4503599627370496 < 2047) : Fl.fin .f64 b ((wR b : Nat) * 2 ^ 1010) ∧ Fl.fin .f64 (b + 9223372036854775808) (-((wR b : Nat) : Int) * 2 ^ 1010) := by
  have hb0 : b ≠ 0 := by rintro rfl; simp at h1
  have hB : FloatKind.f64.format.binade = 4503599627370496 := by decide
  have hS : FloatKind.f64.format.signWeight = 9223372036854775808 := by decide
  have hI : FloatKind.f64.format.infRung = 9218868437227405312 := by decide
  have hlt : b < 9218868437227405312 := by omega
  have hd : FloatKind.f64.decode b = .number false (4503599627370496 + b % 4503599627370496) (lp .f64 + (b / 4503599627370496 - 1 : Nat)) := by
    unfold FloatKind.decode Ieee.Format.read
    have e1 : b / 9223372036854775808 = 0 := Nat.div_eq_of_lt (by omega)
    have e2 : b % 9223372036854775808 = b := Nat.mod_eq_of_lt (by omega)
    simp only [hS, e1, e2, hB, hI]
    rw [if_neg (by omega), if_pos hlt]
    rfl
  have hd' : FloatKind.f64.decode (b + 9223372036854775808) = .number true (4503599627370496 + b % 4503599627370496) (lp .f64 + (b / 4503599627370496 - 1 : Nat)) := by
    unfold FloatKind.decode Ieee.Format.read
    have e1 : (b + 9223372036854775808) / 9223372036854775808 = 1 := by omega
    have e2 : (b + 9223372036854775808) % 9223372036854775808 = b := by omega
    simp only [hS, e1, e2, hB, hI]
    rw [if_neg (by omega), if_pos hlt]
    rfl
  have e : b / 4503599627370496 - 1 = (b / 4503599627370496 - 1011) + 1010 := by omega
  unfold wR
  rw [if_neg hb0]
  refine ⟨⟨false, _, _, hd, ?_⟩, ⟨true, _, _, hd', ?_⟩⟩
  · rw [e]
    generalize b / 4503599627370496 - 1011 = q
    generalize 4503599627370496 + b % 4503599627370496 = m
    simp only [sg, Bool.false_eq_true, if_false]
    rw [Int.natCast_mul, Int.natCast_pow, Int.pow_add, Int.mul_assoc]
    rfl
  · rw [e]
    generalize b / 4503599627370496 - 1011 = q
    generalize 4503599627370496 + b % 4503599627370496 = m
    simp only [sg, if_true]
    rw [Int.natCast_mul, Int.natCast_pow, Int.pow_add, ← Int.mul_assoc, Int.neg_mul, Int.neg_mul, Int.neg_mul]
    rfl
theorem zW_fin {b : Nat} (h : zOk b = true) : Fl.fin .f64 b (zW b * 2 ^ 1010) := by
  unfold zOk at h
  simp only [Bool.or_eq_true, Bool.and_eq_true, decide_eq_true_eq, beq_iff_eq] at h
  rcases h with rfl | ⟨⟨h0, h1⟩, h2⟩
  · have : zW 0 = 0 := rfl
    rw [this, Int.zero_mul]; exact zero_fin64
  · unfold zW
    by_cases q : b < 9223372036854775808
    · rw [if_pos q]
      rw [Nat.mod_eq_of_lt q] at h1 h2
      exact (wR_fin h1 h2).1
    · rw [if_neg q]
      have e : b % 9223372036854775808 = b - 9223372036854775808 := by omega
      rw [e] at h1 h2
      have := (wR_fin h1 h2).2
      rw [show b - 9223372036854775808 + 9223372036854775808 = b by omega] at this
      exact this
/-! ### Rounding -/
def rdF (a R : Nat) : Nat := farith .mul .f64 a (nf64 (R : Int))
def rvF (b : Nat) : Nat := cf .f64 (FloatKind.f64.encode ((FloatKind.f64.decode b).integral .even))
def rgI (b : Nat) : Int := (floatToIntVal .f64 (rvF b) .i64).getD 0
theorem cut_zero (s : Bool) (M d : Nat) : Ieee.Toward.zero.cut s (M * 2 ^ d) d = M := by
  unfold Ieee.Toward.cut
  rw [Nat.one_shiftLeft]
  simp only [Bool.toNat_false, Nat.add_zero]
  rcases Nat.le_total d ((M * 2 ^ d).log2 + 2) with q | q
  · rw [Nat.min_eq_left q, Nat.mul_div_cancel _ (Nat.two_pow_pos d)]
  · by_cases hM : M = 0
    · subst hM; simp
    · exfalso
      have g1 : M * 2 ^ d ≠ 0 := Nat.mul_ne_zero hM (Nat.ne_of_gt (Nat.two_pow_pos d))
      have g2 := (Nat.log2_lt g1).1 (Nat.lt_succ_self (M * 2 ^ d).log2)
      have g3 : 2 ^ ((M * 2 ^ d).log2 + 1) ≤ 2 ^ d := Nat.pow_le_pow_right (by decide) (by omega)
      have g4 : 2 ^ d ≤ M * 2 ^ d := Nat.le_mul_of_pos_left _ (by omega)
      omega
theorem sg_mul (s : Bool) (m e : Nat) : sg s m * 2 ^ e = sg s (m * 2 ^ e) := by
  unfold sg
  split
  · rw [Int.neg_mul, Int.natCast_mul, Int.natCast_pow]; rfl
  · rw [Int.natCast_mul, Int.natCast_pow]; rfl
theorem round_ok {p c w : Nat} {v : Int} (hc : c = 1074) (hw : w = 10 + c) (hp : Fl.fin .f64 p v) (hv : v.natAbs ≤ 2 ^ w) : (FloatKind.f64.decode p).isNaN = false ∧ floatToIntVal .f64 (rvF p) .i64 = some (rgI p) ∧ (2 * (rgI p * 2 ^ c - v)).natAbs ≤ 2 ^ c ∧ (rgI p).natAbs ≤ 1024 := by
  have hn := hp.notNaN
  obtain ⟨s, m, e, hd, rfl⟩ := hp
  have hl : lp .f64 = -(c : Int) := by rw [hc]; rfl
  obtain ⟨A, hA⟩ : ∃ A, A = (lp .f64 + (e : Int)).toNat := ⟨_, rfl⟩
  obtain ⟨d, hdd⟩ : ∃ d, d = (-(lp .f64 + (e : Int))).toNat := ⟨_, rfl⟩
  obtain ⟨K, hK⟩ : ∃ K, K = Ieee.Toward.even.cut s (m <<< A) d := ⟨_, rfl⟩
  have hdc : d ≤ c := by omega
  have hAd : A + (c - d) = e := by omega
  obtain ⟨n1, n2⟩ := cut_near s (m <<< A) d
  rw [← hK, Nat.shiftLeft_eq] at n1 n2
  have e1 : K * 2 ^ d * 2 ^ (c - d) = K * 2 ^ c := by rw [Nat.mul_assoc, ← Nat.pow_add, show d + (c - d) = c by omega]
  have e2 : m * 2 ^ A * 2 ^ (c - d) = m * 2 ^ e := by rw [Nat.mul_assoc, ← Nat.pow_add, hAd]
  have e3 : 2 ^ d * 2 ^ (c - d) = 2 ^ c := by rw [← Nat.pow_add, show d + (c - d) = c by omega]
  have m1 := Nat.mul_le_mul_right (2 ^ (c - d)) n1
  have m2 := Nat.mul_le_mul_right (2 ^ (c - d)) n2
  rw [Nat.add_mul, e3, Nat.mul_assoc 2, Nat.mul_assoc 2, e1, e2] at m1 m2
  rw [abs_mul_pow, sg_abs, hw, Nat.pow_add] at hv
  have hK10 : K ≤ 1024 := by
    have q : 2 * K * 2 ^ c ≤ (2 * 2 ^ 10 + 1) * 2 ^ c := by
      rw [Nat.add_mul, Nat.mul_assoc, Nat.mul_assoc, Nat.one_mul]
      generalize K * 2 ^ c = a at *
      generalize 2 ^ 10 * 2 ^ c = b at *
      generalize 2 ^ c = z at *
      generalize m * 2 ^ e = y at *
      omega
    have := Nat.le_of_mul_le_mul_right q (Nat.two_pow_pos c)
    omega
  have hI : (FloatKind.f64.decode p).integral .even = .number s K 0 := by rw [hd, hK, hA, hdd]; rfl
  have hlt : ∀ {z : Nat}, z ≤ 1024 → z < 2 ^ dig .f64 ∧ z * 2 ^ c < 2 ^ top .f64 := fun {z} hz => by
    refine ⟨Nat.lt_of_le_of_lt hz (by decide), ?_⟩
    have e : top .f64 = (top .f64 - c) + c := by rw [hc]; rfl
    rw [e, Nat.pow_add]
    refine Nat.mul_lt_mul_of_pos_right (Nat.lt_of_le_of_lt hz (Nat.lt_of_lt_of_le (show 1024 < 2 ^ 21 by decide) (Nat.pow_le_pow_right (by decide) ?_))) (Nat.two_pow_pos c)
    rw [hc]; decide
  have hF := write_exact .f64 s (mag := K) (N := K) (a := 0) (b := 0) (t := c) (place := 0) rfl (by omega) (hlt hK10).1 (hlt hK10).2
  have hr : rvF p = FloatKind.f64.encode (.number s K 0) := by unfold rvF; rw [hI, hF.cf]
  rw [← hr] at hF
  obtain ⟨s', m', e', hd', hv'⟩ := hF
  obtain ⟨A', hA'⟩ : ∃ A, A = (lp .f64 + (e' : Int)).toNat := ⟨_, rfl⟩
  obtain ⟨d', hdd'⟩ : ∃ d, d = (-(lp .f64 + (e' : Int))).toNat := ⟨_, rfl⟩
  have hdc' : d' ≤ c := by omega
  have hAd' : A' + (c - d') = e' := by omega
  have ab : K * 2 ^ c = m' * 2 ^ e' := by
    have := congrArg Int.natAbs hv'
    rw [abs_mul_pow, abs_mul_pow, sg_abs, sg_abs] at this
    exact this
  have hcut : m' * 2 ^ A' = K * 2 ^ d' := by
    refine Nat.eq_of_mul_eq_mul_right (Nat.two_pow_pos (c - d')) ?_
    rw [Nat.mul_assoc, Nat.mul_assoc, ← Nat.pow_add, ← Nat.pow_add, hAd', show d' + (c - d') = c by omega, ab]
  have hsg : sg s' K = sg s K := by
    have q : sg s' K * 2 ^ c = sg s K * 2 ^ c := by rw [hv', sg_mul, sg_mul, ab]
    exact Int.eq_of_mul_eq_mul_right (Int.ne_of_gt (Fl.pow_pos c)) q
  have hT : (FloatKind.f64.decode (rvF p)).toInt .zero = some (sg s K) := by
    have h0 : (FloatKind.f64.decode (rvF p)).integral .zero = .number s' K 0 := by
      rw [hd']
      show Ieee.Datum.number s' (Ieee.Toward.zero.cut s' (m' <<< (lp .f64 + (e' : Int)).toNat) (-(lp .f64 + (e' : Int))).toNat) 0 = _
      rw [← hA', ← hdd', Nat.shiftLeft_eq, hcut, cut_zero]
    unfold Ieee.Datum.toInt
    rw [h0]
    simp only [signed_eq]
    rw [hsg]; simp
  have ha : (sg s K).natAbs ≤ 1024 := by rw [sg_abs]; exact hK10
  have i1 : IntKind.i64.min = -9223372036854775808 := by decide
  have i2 : IntKind.i64.max = 9223372036854775807 := by decide
  have hfl : floatToIntVal .f64 (rvF p) .i64 = some (sg s K) := by
    unfold floatToIntVal
    rw [hT]
    simp only
    rw [if_pos ⟨by rw [i1]; omega, by rw [i2]; omega⟩]
  have hrg : rgI p = sg s K := by unfold rgI; rw [hfl]; rfl
  rw [hrg]
  refine ⟨hn, hfl, ?_, ha⟩
  rw [sg_mul, sg_mul]
  generalize K * 2 ^ c = a at *
  generalize 2 ^ c = z at *
  generalize m * 2 ^ e = y at *
  unfold sg
  split <;> omega
theorem nf_fin {z : Int} {c : Nat} (hc : c = 1074) (h : z.natAbs ≤ 1073741824) : Fl.fin .f64 (nf64 z) (z * 2 ^ c) := by
  have e : (-lp .f64).toNat = c := by rw [hc]; rfl
  have := nearest_fx .f64 (n := z) (Nat.lt_of_le_of_lt h (by decide))
  rw [e] at this
  exact this
/-- A coordinate of a ring, rounded. -/
theorem ring_ok {a R : Nat} (hz : zOk a = true) (hA : (zW a).natAbs ≤ 18446748471785619456) (hR : R < 264) : (FloatKind.f64.decode (rdF a R)).isNaN = false ∧ floatToIntVal .f64 (rvF (rdF a R)) .i64 = some (rgI (rdF a R)) ∧ (2 * (18446744073709551616 * rgI (rdF a R) - zW a * R)).natAbs ≤ 18446744073713745920 ∧ (rgI (rdF a R)).natAbs ≤ 1024 := by
  obtain ⟨c, hc⟩ : ∃ c, c = 1074 := ⟨_, rfl⟩
  obtain ⟨D, hD⟩ : ∃ D, D = 1010 := ⟨_, rfl⟩
  obtain ⟨w, hw⟩ : ∃ w, w = 10 + c := ⟨_, rfl⟩
  have f1 := zW_fin hz
  rw [← hD] at f1
  have f2 := nf_fin hc (z := (R : Int)) (by rw [Int.natAbs_natCast]; omega)
  have hlp : (-lp .f64).toNat = c := by rw [hc]; rfl
  have hAR : (zW a * R).natAbs ≤ 2 ^ 74 := by
    rw [Int.natAbs_mul, Int.natAbs_natCast]
    exact Nat.le_trans (Nat.mul_le_mul hA (show R ≤ 264 by omega)) (by decide)
  have eP : zW a * 2 ^ D * ((R : Int) * 2 ^ c) = zW a * R * 2 ^ D * 2 ^ c := by
    generalize (2 : Int) ^ D = p
    generalize (2 : Int) ^ c = q
    grind
  obtain ⟨v, g1, g2, g3⟩ := mul_err (u := w) f1 f2 (by
    rw [eP, abs_mul_pow, hlp, Nat.pow_add]
    refine Nat.mul_le_mul_right _ ?_
    rw [abs_mul_pow, show w = 74 + D by omega, Nat.pow_add]
    exact Nat.mul_le_mul_right _ hAR) (by rw [mx64]; omega)
  have hf : FloatKind.f64.format.fractionBits = 52 := rfl
  rw [hlp, eP, hf, ← Int.sub_mul, ← Int.mul_assoc, abs_mul_pow, Nat.pow_add, Nat.mul_comm (2 ^ c)] at g3
  have g4 := Nat.le_of_mul_le_mul_right g3 (Nat.two_pow_pos c)
  obtain ⟨k1, k2, k3, k4⟩ := round_ok hc hw g1 g2
  refine ⟨k1, k2, ?_, k4⟩
  show (2 * (18446744073709551616 * rgI (farith .mul .f64 a (nf64 (R : Int))) - zW a * R)).natAbs ≤ 18446744073713745920
  generalize rgI (farith .mul .f64 a (nf64 (R : Int))) = M at *
  have k3 : (2 * (M * 2 ^ c - v)).natAbs ≤ 2 ^ c := k3
  have hs : (2 * (M * 2 ^ c - zW a * R * 2 ^ D)).natAbs ≤ 2 ^ c + 2 ^ (w - 52) := by
    generalize M * 2 ^ c = p at *
    generalize zW a * (R : Int) * 2 ^ D = q at *
    generalize 2 ^ c = y at *
    generalize 2 ^ (w - 52) = z at *
    omega
  have e1 : (2 : Int) ^ c = 18446744073709551616 * 2 ^ D := by rw [show c = 64 + D by omega, Int.pow_add]; rfl
  have e2 : 2 ^ c + 2 ^ (w - 52) = 18446744073713745920 * 2 ^ D := by
    rw [show w - 52 = 22 + D by omega, show c = 64 + D by omega, Nat.pow_add, Nat.pow_add, ← Nat.add_mul]
  have e3 : 2 * (M * 2 ^ c - zW a * R * 2 ^ D) = 2 * (18446744073709551616 * M - zW a * R) * 2 ^ D := by
    rw [e1]
    generalize (2 : Int) ^ D = p
    grind
  rw [e3, abs_mul_pow, e2] at hs
  exact Nat.le_of_mul_le_mul_right hs (Nat.two_pow_pos D)
theorem ring_gap {A B U V : Int} {R : Nat} (h1 : (2 * (18446744073709551616 * U - A * R)).natAbs ≤ 18446744073713745920) (h2 : (2 * (18446744073709551616 * V - B * R)).natAbs ≤ 18446744073713745920) (hA : A.natAbs ≤ 18446748471785619456) (hB : B.natAbs ≤ 18446748471785619456) (hS : (A * A + B * B - 18446744073709551616 * 18446744073709551616).natAbs ≤ 2 ^ 106) (hR1 : 64 ≤ R) (hR2 : R < 264) : (U * U + V * V - (R : Int) * R).natAbs ≤ 3 * R := by
  obtain ⟨Q, hQ⟩ : ∃ Q : Int, Q = 18446744073709551616 := ⟨_, rfl⟩
  rw [← hQ] at h1 h2 hS
  obtain ⟨r1, e1⟩ : ∃ r, r = Q * U - A * R := ⟨_, rfl⟩
  obtain ⟨r2, e2⟩ : ∃ r, r = Q * V - B * R := ⟨_, rfl⟩
  rw [← e1] at h1
  rw [← e2] at h2
  have id : (U * U + V * V - (R : Int) * R) * (Q * Q) = (R : Int) * R * (A * A + B * B - Q * Q) + ((R : Int) * (A * (2 * r1)) + (R : Int) * (B * (2 * r2))) + (r1 * r1 + r2 * r2) := by
    rw [e1, e2]
    generalize (R : Int) = S
    grind
  have mul2 : ∀ {a b : Int} {p q : Nat}, a.natAbs ≤ p → b.natAbs ≤ q → (a * b).natAbs ≤ p * q := fun {a b p q} h1 h2 => by
    rw [Int.natAbs_mul]; exact Nat.mul_le_mul h1 h2
  have hRa : ((R : Nat) : Int).natAbs ≤ R := by rw [Int.natAbs_natCast]; exact Nat.le_refl _
  have hR3 : ((R : Nat) : Int).natAbs ≤ 264 := by rw [Int.natAbs_natCast]; omega
  have t1 := mul2 (mul2 hRa hR3) hS
  have t2 := mul2 hRa (mul2 hA h1)
  have t3 := mul2 hRa (mul2 hB h2)
  have r1a : r1.natAbs ≤ 18446744073713745920 := by omega
  have r2a : r2.natAbs ≤ 18446744073713745920 := by omega
  have t4 := mul2 r1a r1a
  have t5 := mul2 r2a r2a
  have tot : ((U * U + V * V - (R : Int) * R) * (Q * Q)).natAbs ≤ 3 * R * (18446744073709551616 * 18446744073709551616) := by
    rw [id]
    have e106 : (2 : Nat) ^ 106 = 81129638414606681695789005144064 := by decide
    rw [e106] at t1
    generalize (R : Int) * R * (A * A + B * B - Q * Q) = a1 at *
    generalize (R : Int) * (A * (2 * r1)) = a2 at *
    generalize (R : Int) * (B * (2 * r2)) = a3 at *
    generalize r1 * r1 = a4 at *
    generalize r2 * r2 = a5 at *
    omega
  have eQ : (Q * Q).natAbs = 18446744073709551616 * 18446744073709551616 := by rw [hQ]; rfl
  rw [Int.natAbs_mul, eQ] at tot
  exact Nat.le_of_mul_le_mul_right tot (by decide)
end Go.Proofs.Ytelogajobjflfaa.Sim

/- Rings: the table of their phasors, checked. Lemmas only; no condition. Printed by gensh.py. -/
set_option linter.unusedSimpArgs false
set_option linter.unusedVariables false
set_option maxRecDepth 8000
namespace Go.Proofs.Ytelogajobjflfaa.Sim
open Go Go.RowKit Fl
def rgT : List (List (Nat × Nat)) := [[],
  [(4607182418800017408, 0)],
  [(4607182418800017408, 0), (13830554455654793216, 0)],
  [(4607182418800017408, 0), (13826050856027422720, 4605975682776825856), (13826050856027422720, 13829347719631601664)],
  [(4607182418800017408, 0), (0, 4607182418800017408), (13830554455654793216, 0), (0, 13830554455654793216)],
  [(4607182418800017408, 0), (4599238375348633600, 4606741575303692288), (13828834233742786560, 4603469518356873216), (13828834233742786560, 13826841555211649024), (4599238375348633600, 13830113612158468096)],
  [(4607182418800017408, 0), (4602678819172646912, 4605975682776825856), (13826050856027422720, 4605975682776825856), (13830554455654793216, 0), (13826050856027422720, 13829347719631601664), (4602678819172646912, 13829347719631601664)],
  [(4607182418800017408, 0), (4603791116381192192, 4605217331675660288), (13820557218656813056, 4606956589419593728), (13829662462351245312, 4601487774275600384), (13829662462351245312, 13824859811130376192), (13820557218656813056, 13830328626274369536), (4603791116381192192, 13828589368530436096)],
  [(4607182418800017408, 0), (4604544271108800512, 4604544271108800512), (0, 4607182418800017408), (13827916307963576320, 4604544271108800512), (13830554455654793216, 0), (13827916307963576320, 13827916307963576320), (0, 13830554455654793216), (4604544271108800512, 13827916307963576320)],
  [(4607182418800017408, 0), (4605075134435295232, 4603964935855144960), (4595424355269214208, 4607045578994483200), (13826050856027422720, 4605975682776825856), (13830011255034740736, 4599832907270324224), (13830011255034740736, 13823204944125100032), (13826050856027422720, 13829347719631601664), (4595424355269214208, 13830417615849259008), (4605075134435295232, 13827336972709920768)],
  [(4607182418800017408, 0), (4605462196888010752, 4603469518356873216), (4599238375348633600, 4606741575303692288), (13822610412203409408, 4606741575303692288), (13828834233742786560, 4603469518356873216), (13830554455654793216, 0), (13828834233742786560, 13826841555211649024), (13822610412203409408, 13830113612158468096), (4599238375348633600, 13830113612158468096), (4605462196888010752, 13826841555211649024)],
  [(4607182418800017408, 0), (4605752557615185920, 4603044879235284992), (4601155071613337600, 4606368455925432320), (13817667489498136576, 4607090738428116992), (13827445717523759104, 4604982406628245504), (13830189600867352576, 4598746862512504832), (13830189600867352576, 13822118899367280640), (13827445717523759104, 13828354443483021312), (13817667489498136576, 13830462775282892800), (4601155071613337600, 13829740492780208128), (4605752557615185920, 13826416916090060800)],
  [(4607182418800017408, 0), (4605975682776825856, 4602678819172646912), (4602678819172646912, 4605975682776825856), (0, 4607182418800017408), (13826050856027422720, 4605975682776825856), (13829347719631601664, 4602678819172646912), (13830554455654793216, 0), (13829347719631601664, 13826050856027422720), (13826050856027422720, 13829347719631601664), (0, 13830554455654793216), (4602678819172646912, 13829347719631601664), (4605975682776825856, 13826050856027422720)]]
def rgL (c k : Nat) : Nat × Nat := (rgT.getD c []).getD k (0, 0)
def okWt (b : Nat) : Bool := decide (fconv .f32 b .f64 = some (wd b))
def rgEq (c k : Nat) : Bool := phOk (rgx c k) (4 * k / c) && wd (rgP c k).a == (rgL c k).1 && wd (rgP c k).b == (rgL c k).2 && okWt (rgP c k).a && okWt (rgP c k).b
def rgNum (a b : Nat) : Bool := zOk a && zOk b && decide ((zW a).natAbs ≤ 18446748471785619456) && decide ((zW b).natAbs ≤ 18446748471785619456) && decide ((zW a * zW a + zW b * zW b - 18446744073709551616 * 18446744073709551616).natAbs ≤ 2 ^ 106)
def rgFar (c i k : Nat) : Bool := decide (576460752303423488 ≤ (zW (rgL c i).1 - zW (rgL c k).1).natAbs) || decide (576460752303423488 ≤ (zW (rgL c i).2 - zW (rgL c k).2).natAbs)
theorem far_all : (List.range 13).all (fun c => (List.range c).all fun i => (List.range i).all fun k => rgFar c i k) = true := by kernel_rfl
def rgAll (c k : Nat) : Bool := rgEq c k && rgNum (rgL c k).1 (rgL c k).2
theorem rq1 : (List.range 1).all (rgAll 1) = true := by kernel_rfl
theorem rq2 : (List.range 2).all (rgAll 2) = true := by kernel_rfl
theorem rq3 : (List.range 3).all (rgAll 3) = true := by kernel_rfl
theorem rq4 : (List.range 4).all (rgAll 4) = true := by kernel_rfl
theorem rq5 : (List.range 5).all (rgAll 5) = true := by kernel_rfl
theorem rq6 : (List.range 6).all (rgAll 6) = true := by kernel_rfl
theorem rq7 : (List.range 7).all (rgAll 7) = true := by kernel_rfl
theorem rq8 : (List.range 8).all (rgAll 8) = true := by kernel_rfl
theorem rq9 : (List.range 9).all (rgAll 9) = true := by kernel_rfl
theorem rq10 : (List.range 10).all (rgAll 10) = true := by kernel_rfl
theorem rq11 : (List.range 11).all (rgAll 11) = true := by kernel_rfl
theorem rq12 : (List.range 12).all (rgAll 12) = true := by kernel_rfl
theorem rg_all {c k : Nat} (hc : c ≤ 12) (hk : k < c) : rgAll c k = true := by
  have q : c = 1 ∨ c = 2 ∨ c = 3 ∨ c = 4 ∨ c = 5 ∨ c = 6 ∨ c = 7 ∨ c = 8 ∨ c = 9 ∨ c = 10 ∨ c = 11 ∨ c = 12 := by omega
  rcases q with rfl | rfl | rfl | rfl | rfl | rfl | rfl | rfl | rfl | rfl | rfl | rfl
  · exact (List.all_eq_true.1 rq1) k (List.mem_range.2 hk)
  · exact (List.all_eq_true.1 rq2) k (List.mem_range.2 hk)
  · exact (List.all_eq_true.1 rq3) k (List.mem_range.2 hk)
  · exact (List.all_eq_true.1 rq4) k (List.mem_range.2 hk)
  · exact (List.all_eq_true.1 rq5) k (List.mem_range.2 hk)
  · exact (List.all_eq_true.1 rq6) k (List.mem_range.2 hk)
  · exact (List.all_eq_true.1 rq7) k (List.mem_range.2 hk)
  · exact (List.all_eq_true.1 rq8) k (List.mem_range.2 hk)
  · exact (List.all_eq_true.1 rq9) k (List.mem_range.2 hk)
  · exact (List.all_eq_true.1 rq10) k (List.mem_range.2 hk)
  · exact (List.all_eq_true.1 rq11) k (List.mem_range.2 hk)
  · exact (List.all_eq_true.1 rq12) k (List.mem_range.2 hk)
end Go.Proofs.Ytelogajobjflfaa.Sim

/- Rings: what follows from the checks. Lemmas only; no condition. -/
set_option linter.unusedSimpArgs false
set_option linter.unusedVariables false
set_option maxRecDepth 8000
namespace Go.Proofs.Ytelogajobjflfaa.Sim
open Go Go.RowKit Fl
variable {ro lo hi n : Nat} {X : Ext} {h : Heap} {x y : Value} {l : List Int}
theorem rg_at {c k R : Nat} (hc : c ≤ 12) (hk : k < c) (h1 : 64 ≤ R) (h2 : R < 264) : rgEq c k = true ∧ ((FloatKind.f64.decode (rdF (rgL c k).1 R)).isNaN = false ∧ floatToIntVal .f64 (rvF (rdF (rgL c k).1 R)) .i64 = some (rgI (rdF (rgL c k).1 R)) ∧ (2 * (18446744073709551616 * rgI (rdF (rgL c k).1 R) - zW (rgL c k).1 * R)).natAbs ≤ 18446744073713745920 ∧ (rgI (rdF (rgL c k).1 R)).natAbs ≤ 1024) ∧ ((FloatKind.f64.decode (rdF (rgL c k).2 R)).isNaN = false ∧ floatToIntVal .f64 (rvF (rdF (rgL c k).2 R)) .i64 = some (rgI (rdF (rgL c k).2 R)) ∧ (2 * (18446744073709551616 * rgI (rdF (rgL c k).2 R) - zW (rgL c k).2 * R)).natAbs ≤ 18446744073713745920 ∧ (rgI (rdF (rgL c k).2 R)).natAbs ≤ 1024) ∧ (rgI (rdF (rgL c k).1 R) * rgI (rdF (rgL c k).1 R) + rgI (rdF (rgL c k).2 R) * rgI (rdF (rgL c k).2 R) - (R : Int) * R).natAbs ≤ 3 * R := by
  have q := rg_all hc hk
  unfold rgAll rgNum at q
  simp only [Bool.and_eq_true, decide_eq_true_eq] at q
  obtain ⟨e, ⟨⟨⟨a, b⟩, c⟩, d⟩, f⟩ := q
  have A := ring_ok a c h2
  have B := ring_ok b d h2
  exact ⟨e, A, B, ring_gap A.2.2.1 B.2.2.1 c d f h1 h2⟩
theorem rgEq_at {c k : Nat} (h : rgEq c k = true) : phOk (rgx c k) (4 * k / c) = true ∧ wd (rgP c k).a = (rgL c k).1 ∧ wd (rgP c k).b = (rgL c k).2 ∧ okW (rgP c k).a ∧ okW (rgP c k).b := by
  unfold rgEq at h
  simp only [Bool.and_eq_true, beq_iff_eq] at h
  refine ⟨h.1.1.1.1, h.1.1.1.2, h.1.1.2, ?_, ?_⟩
  · have q := h.1.2
    unfold okWt at q
    show fconv .f32 (rgP c k).a .f64 = some (wd (rgP c k).a)
    exact of_decide_eq_true q
  · have q := h.2
    unfold okWt at q
    show fconv .f32 (rgP c k).b .f64 = some (wd (rgP c k).b)
    exact of_decide_eq_true q
/-- Coordinates of a ring. -/
def rgX (c R k : Nat) : Int := rgI (rdF (rgL c k).1 R)
def rgY (c R k : Nat) : Int := rgI (rdF (rgL c k).2 R)
def rgZ (c R m : Nat) : List Int := (List.range m).flatMap fun k => [rgX c R k, rgY c R k]
theorem rgZ_succ {c R m : Nat} : rgZ c R (m + 1) = rgZ c R m ++ [rgX c R m, rgY c R m] := by simp [rgZ, List.range_succ]
theorem rgZ_len {c R : Nat} : ∀ m, (rgZ c R m).length = m * 2
  | 0 => rfl
  | m + 1 => by rw [rgZ_succ, List.length_append, rgZ_len m]; simp; omega
theorem rgZ_at {c R : Nat} : ∀ {m i : Nat}, i < m → nth (rgZ c R m) (i * 2) = rgX c R i ∧ nth (rgZ c R m) (i * 2 + 1) = rgY c R i
  | 0, i, h => by omega
  | m + 1, i, h => by
    have hl := rgZ_len (c := c) (R := R) m
    rw [rgZ_succ]
    by_cases e : i = m
    · subst e
      rw [nth_app_r (by omega), nth_app_r (by omega), hl]
      have e1 : i * 2 - i * 2 = 0 := by omega
      have e2 : i * 2 + 1 - i * 2 = 1 := by omega
      rw [e1, e2]
      exact ⟨rfl, rfl⟩
    · rw [nth_app_l (by omega), nth_app_l (by omega)]
      exact rgZ_at (by omega)
theorem far_ne {U V A B : Int} {R : Nat} (h1 : (2 * (18446744073709551616 * U - A * R)).natAbs ≤ 18446744073713745920) (h2 : (2 * (18446744073709551616 * V - B * R)).natAbs ≤ 18446744073713745920) (hd : 576460752303423488 ≤ (A - B).natAbs) (hR : 64 ≤ R) : U ≠ V := by
  rintro rfl
  have e : (A - B) * (R : Int) = A * R - B * R := Int.sub_mul _ _ _
  have k : 576460752303423488 * 64 ≤ ((A - B) * (R : Int)).natAbs := by
    rw [Int.natAbs_mul, Int.natAbs_natCast]
    exact Nat.mul_le_mul hd hR
  rw [e] at k
  generalize A * (R : Int) = a at *
  generalize B * (R : Int) = b at *
  omega
theorem rg_good {c R : Nat} (c1 : 1 ≤ c) (hc : c ≤ 12) (h1 : 64 ≤ R) (h2 : R < 264) : goodP c (rgZ c R c) := by
  refine ⟨c1, by omega, fun i hi => ?_, fun i k hi hk => ?_⟩
  · obtain ⟨e1, e2⟩ := rgZ_at (c := c) (R := R) hi
    obtain ⟨_, a, b, _⟩ := rg_at hc hi h1 h2
    have a4 := a.2.2.2
    have b4 := b.2.2.2
    unfold plB cdB
    rw [e1, e2]
    unfold rgX rgY
    simp only [Bool.and_eq_true, decide_eq_true_eq]
    omega
  · have hkc : k < c := by omega
    obtain ⟨e1, e2⟩ := rgZ_at (c := c) (R := R) hi
    obtain ⟨e3, e4⟩ := rgZ_at (c := c) (R := R) hkc
    obtain ⟨_, a, b, _⟩ := rg_at hc hi h1 h2
    obtain ⟨_, a', b', _⟩ := rg_at hc hkc h1 h2
    have a3 := a.2.2.1
    have b3 := b.2.2.1
    have a3' := a'.2.2.1
    have b3' := b'.2.2.1
    have f := (List.all_eq_true.1 ((List.all_eq_true.1 ((List.all_eq_true.1 far_all) c (List.mem_range.2 (by omega)))) i (List.mem_range.2 hi))) k (List.mem_range.2 hk)
    unfold rgFar at f
    simp only [Bool.or_eq_true, decide_eq_true_eq] at f
    unfold samB
    rw [e1, e2, e3, e4]
    refine Bool.eq_false_iff.2 fun q => ?_
    simp only [Bool.and_eq_true, decide_eq_true_eq] at q
    unfold rgX rgY at q
    rcases f with f | f
    · exact far_ne a3 a3' f h1 q.1.symm
    · exact far_ne b3 b3' f h1 q.2.symm
/-! ### Gaps of whole numbers -/
theorem mul3_all : (List.range 264).all (fun R => farith .mul .f64 4613937818241073152 (nf64 (R : Int)) == nf64 (((3 * R : Nat) : Int))) = true := by kernel_rfl
theorem gap_le {P Q : Int} {R : Nat} (hP : P.natAbs ≤ 1000000) (hQ : Q.natAbs ≤ 1000000) (h : (P - Q).natAbs ≤ 3 * R) (hR : R < 264) : fcmp .lss .f64 (farith .mul .f64 4613937818241073152 (nf64 (R : Int))) (gpF (nf64 P) (nf64 Q)) = false := by
  obtain ⟨c, hc⟩ : ∃ c, c = 1074 := ⟨_, rfl⟩
  have m := eq_of_beq ((List.all_eq_true.1 mul3_all) R (List.mem_range.2 hR))
  rw [m]
  have f1 := nf_fin hc (z := P) (by omega)
  have f2 := nf_fin hc (z := Q) (by omega)
  have f3 := nf_fin hc (z := ((3 * R : Nat) : Int)) (by omega)
  have sm : ∀ {z : Int}, z.natAbs ≤ 2000000 → z.natAbs < 2 ^ dig .f64 ∧ z.natAbs * 2 ^ c < 2 ^ top .f64 := fun {z} hz => by
    refine ⟨Nat.lt_of_le_of_lt hz (by decide), ?_⟩
    have e : top .f64 = (top .f64 - c) + c := by rw [hc]; rfl
    rw [e, Nat.pow_add]
    refine Nat.mul_lt_mul_of_pos_right (Nat.lt_of_le_of_lt hz (Nat.lt_of_lt_of_le (show 2000000 < 2 ^ 21 by decide) (Nat.pow_le_pow_right (by decide) ?_))) (Nat.two_pow_pos c)
    rw [hc]; decide
  have s1 := sub_fx f1 f2 (sm (by omega)).1 (sm (by omega)).2
  have s2 := sub_fx f2 f1 (sm (by omega)).1 (sm (by omega)).2
  have hp := Fl.pow_pos c
  unfold gpF
  rcases fmax_or s1 s2 with q | q <;> rw [q]
  · rw [cmp_lt f3 s1]
    exact decide_eq_false (fun k => by have := Int.lt_of_mul_lt_mul_right k (Int.le_of_lt hp); omega)
  · rw [cmp_lt f3 s2]
    exact decide_eq_false (fun k => by have := Int.lt_of_mul_lt_mul_right k (Int.le_of_lt hp); omega)
theorem rg_gap {c k R : Nat} (hc : c ≤ 12) (hk : k < c) (h1 : 64 ≤ R) (h2 : R < 264) : fcmp .lss .f64 (farith .mul .f64 4613937818241073152 (nf64 (R : Int))) (gpF (nf64 (rgX c R k * rgX c R k + rgY c R k * rgY c R k)) (nf64 ((R : Int) * R))) = false := by
  obtain ⟨_, _, _, g⟩ := rg_at hc hk h1 h2
  have hRR : ((R : Int) * R).natAbs ≤ 264 * 264 := by
    rw [Int.natAbs_mul, Int.natAbs_natCast]; exact Nat.mul_le_mul (by omega) (by omega)
  unfold rgX rgY
  exact gap_le (by omega) (by omega) g h2
theorem rg_zero : (List.range 13).all (fun c => c == 0 || (rgL c 0 == (4607182418800017408, 0))) = true := by kernel_rfl
theorem zW_one : zW 4607182418800017408 = 18446744073709551616 := by decide +kernel
theorem zW_zero : zW 0 = 0 := by decide +kernel
theorem rg_first {c R : Nat} (c1 : 1 ≤ c) (hc : c ≤ 12) (h1 : 64 ≤ R) (h2 : R < 264) : rgX c R 0 = R ∧ rgY c R 0 = 0 := by
  obtain ⟨_, a, b, _⟩ := rg_at hc (show 0 < c by omega) h1 h2
  have z := (List.all_eq_true.1 rg_zero) c (List.mem_range.2 (by omega))
  have c0 : (c == 0) = false := by rw [beq_eq_false_iff_ne]; omega
  rw [c0, Bool.false_or] at z
  have z := eq_of_beq z
  have a3 := a.2.2.1
  have b3 := b.2.2.1
  unfold rgX rgY
  rw [z] at a3 b3 ⊢
  simp only [zW_one, zW_zero, Int.zero_mul] at a3 b3 ⊢
  omega
end Go.Proofs.Ytelogajobjflfaa.Sim

/- Least distances and rings, walked. Lemmas only; no condition. -/
set_option linter.unusedSimpArgs false
set_option linter.unusedVariables false
set_option maxRecDepth 8000
namespace Go.Proofs.Ytelogajobjflfaa.Sim
open Go Go.RowKit Fl
variable {ro lo hi n : Nat} {X : Ext} {h : Heap} {x y : Value} {l : List Int} {u v : Int}
/-- The first places. -/
theorem take_is {i : Nat} (hI : IS lo hi 2 h x n l) (ht : tyP ro h x) (hi : i < n) : ∃ y, slc Try.prog ro h 54 x none (some (.int .i64 i)) none = some y ∧ (∀ h', ablt Try.prog ro .len [54] [y] h' = some (.int .i64 i, h')) ∧ (∀ j : Nat, j < i → iadr Try.prog 54 y (.int .i64 j) = some (ea x (j * 2))) := by
  rcases hI.2 with ⟨rfl, rfl⟩ | ⟨b, o, cap, Bk, rfl, h1, h2, h3, h4, h5⟩
  · omega
  · refine ⟨.slice (some ⟨b, o, none⟩) i (i + 1), ?_, fun h' => len_slc Try.underlying54, fun j hj => ?_⟩
    · have ty : ro ≤ b → (h[b]?).map (·.ty) = some 126 := ht
      unfold slc
      simp only [Try.underlying54, bnd, Option.bind_some, tsz126]
      rw [if_pos ⟨Int.le_refl _, by omega, by omega, by omega, ty, by simp⟩]
      rw [if_neg (by simp; omega)]
      simp
    · have := iadr_slc (P := Try.prog) (b := b) (o := o) (len := i) (cap := i + 1) (k := .i64) (n := (j : Int)) Try.underlying54 tsz126 (by omega) (by omega)
      exact this
set_option maxHeartbeats 4000000 in
theorem Least_r (hX : XN X) (hI : IS lo hi 2 h x n l) (ht : tyP ro h x) (hg : goodP n l) (hr : ∀ j, -512 ≤ nth l j ∧ nth l j ≤ 512) (hro : ro ≤ h.length) : Ret Try.prog ro X 99 [x] h (.tuple ⟨[.int .i64 (if n < 2 then 0 else lsOut l n), .bool (decide (2 ≤ n))]⟩) := by
  have n1 := hg.n1
  have n16 := hg.n16
  have hll : l.length = n * 2 := hI.1
  have vp := vPlaces_r (ro := ro) hX hI ht hg hro
  by_cases hn : n < 2
  · have hn' : (n : Int) < 2 := by omega
    have hn2 : ¬ 2 ≤ n := by omega
    rw [if_pos hn, decide_eq_false hn2]
    refine ret_of (callR_of (hX _ rfl) Try.func99 rfl (by kernel_rfl) (Nat.le_of_ble_eq_true rfl) ?_)
    (repeat' first | simp -dsimp (disch := first | omega | assumption | (refine OkS.sto ?_ (by omega); first | assumption | (refine OkS.sto ?_ (by omega); first | assumption | (refine OkS.sto ?_ (by omega); first | assumption | (refine OkS.sto ?_ (by omega); first | assumption | (refine OkS.sto ?_ (by omega); first | assumption | (refine OkS.sto ?_ (by omega); first | assumption)))))) | exact Pfx.refl _ | (apply Pfx.snoc; repeat (first | exact Pfx.refl _ | assumption | apply Pfx.snoc)) | with_unfolding_all exact of_eq_true (eq_true rfl) | (simp only [List.length_append, List.length_cons, List.length_nil]; omega)) only [↓wpre0, ↓wpre1, ↓reduceIte, Int.reduceToNat, Nat.reduceAdd, Nat.reduceMul, Nat.reduceEqDiff, wpost0, wpost1, wpost2, wpost3, wpost4, ite_self, ite_true, ite_false, if_true, if_false, un_not, xlen54, bin_lss, xiad54, xld126, tze126, xst126, xfad126_0, xld2, bin_sub, bin_mul, xfad126_1, bin_add, blt_minI, fr99, wrap_int, wrap_u8, iteP_yes, iteP_no, vp, hI.len Try.underlying54, hn'] | refine iteP_two (fun hc hd => ?_) (fun hc hd => ?_) | refine iteP_intro (fun hc => ?_) (fun hc => ?_))
  · have hn' : ¬ (n : Int) < 2 := by omega
    have hn2 : 2 ≤ n := by omega
    rw [if_neg hn, decide_eq_true hn2]
    refine ret_of (callR_of (hX _ rfl) Try.func99 rfl (by kernel_rfl) (Nat.le_of_ble_eq_true rfl) ?_)
    (repeat' first | simp -dsimp (disch := first | omega | assumption | (refine OkS.sto ?_ (by omega); first | assumption | (refine OkS.sto ?_ (by omega); first | assumption | (refine OkS.sto ?_ (by omega); first | assumption | (refine OkS.sto ?_ (by omega); first | assumption | (refine OkS.sto ?_ (by omega); first | assumption | (refine OkS.sto ?_ (by omega); first | assumption)))))) | exact Pfx.refl _ | (apply Pfx.snoc; repeat (first | exact Pfx.refl _ | assumption | apply Pfx.snoc)) | with_unfolding_all exact of_eq_true (eq_true rfl) | (simp only [List.length_append, List.length_cons, List.length_nil]; omega)) only [↓wpre0, ↓wpre1, ↓reduceIte, Int.reduceToNat, Nat.reduceAdd, Nat.reduceMul, Nat.reduceEqDiff, wpost0, wpost1, wpost2, wpost3, wpost4, ite_self, ite_true, ite_false, if_true, if_false, un_not, xlen54, bin_lss, xiad54, xld126, tze126, xst126, xfad126_0, xld2, bin_sub, bin_mul, xfad126_1, bin_add, blt_minI, fr99, wrap_int, wrap_u8, iteP_yes, iteP_no, vp, hI.len Try.underlying54, hn'] | refine iteP_two (fun hc hd => ?_) (fun hc hd => ?_) | refine iteP_intro (fun hc => ?_) (fun hc => ?_))
    refine loop_rounds (fun mm e h' => ∃ i : Nat, mm = n - i ∧ i ≤ n ∧ Pfx h h' ∧ e 0 = x ∧ e 4 = .int .i64 (lsOut l i) ∧ e 17 = x ∧ e 18 = .int .i64 n ∧ e 19 = .int .i64 i) _ ⟨0, rfl, ?_⟩ ?_
    · simp only [updO_at, updO_not, entry_at, List.getD_cons_zero, List.getD_cons_succ, ↓reduceIte, Nat.reduceEqDiff, true_and, and_true]
      have q1 : Pfx h h := Pfx.refl h
      (repeat' (first | assumption | rfl | omega | exact q1 | exact Nat.zero_le _ | refine And.intro ?_ ?_))
    · rintro mm e h' ⟨i, hmm, hle, hp, g0, g4, g17, g18, g19⟩
      have hks : (i : Int) + 1 = ((i + 1 : Nat) : Int) := by omega
      have hlp := hp.len
      have hI' := hI.pre hp
      have ht' := ht.pre hI (by omega) hp
      by_cases hin : i < n
      · have p1 : Pfx h' (h' ++ [(⟨126, [.int .i64 (nth l (i * 2)), .int .i64 (nth l (i * 2 + 1))]⟩ : Blk)]) := (Pfx.refl h').snoc
        obtain ⟨y, ty, tl, ta⟩ := take_is (ro := ro) (i := i) (hI'.pre p1) (ht'.pre hI' (by omega) p1) hin
        (repeat' first | simp -dsimp (disch := first | omega | assumption | (refine OkS.sto ?_ (by omega); first | assumption | (refine OkS.sto ?_ (by omega); first | assumption | (refine OkS.sto ?_ (by omega); first | assumption | (refine OkS.sto ?_ (by omega); first | assumption | (refine OkS.sto ?_ (by omega); first | assumption | (refine OkS.sto ?_ (by omega); first | assumption)))))) | exact Pfx.refl _ | (apply Pfx.snoc; repeat (first | exact Pfx.refl _ | assumption | apply Pfx.snoc)) | with_unfolding_all exact of_eq_true (eq_true rfl) | (simp only [List.length_append, List.length_cons, List.length_nil]; omega)) only [↓wpre0, ↓wpre1, ↓reduceIte, Int.reduceToNat, Nat.reduceAdd, Nat.reduceMul, Nat.reduceEqDiff, wpost0, wpost1, wpost2, wpost3, wpost4, ite_self, ite_true, ite_false, if_true, if_false, un_not, xlen54, bin_lss, xiad54, xld126, tze126, xst126, xfad126_0, xld2, bin_sub, bin_mul, xfad126_1, bin_add, blt_minI, fr99, wrap_int, wrap_u8, iteP_yes, iteP_no, g0, g4, g17, g18, g19, hI'.iad Try.underlying54 tsz126, IS.ldm hI' tsz126 tag126, ints_2, ty, tl] | refine iteP_two (fun hc hd => ?_) (fun hc hd => ?_) | refine iteP_intro (fun hc => ?_) (fun hc => ?_))
        obtain ⟨H1, hH1⟩ : ∃ H, H = h' ++ [(⟨126, [.int .i64 (nth l (i * 2)), .int .i64 (nth l (i * 2 + 1))]⟩ : Blk)] := ⟨_, rfl⟩
        have lH1 : H1.length = h'.length + 1 := by rw [hH1]; simp
        have D1 : H1[h'.length]? = some ⟨126, [.int .i64 (nth l (i * 2)), .int .i64 (nth l (i * 2 + 1))]⟩ := by rw [hH1]; exact get_last rfl
        rw [← hH1] at p1 ⊢
        have a1 := hr (i * 2)
        have a2 := hr (i * 2 + 1)
        refine loop_rounds (fun mm e h2 => ∃ k : Nat, mm = i - k ∧ k ≤ i ∧ Pfx H1 h2 ∧ e 0 = x ∧ e 4 = .int .i64 (lsIn l i (lsOut l i) k) ∧ e 6 = .pointer (some ⟨h'.length, 0, none⟩) ∧ e 17 = x ∧ e 18 = .int .i64 n ∧ e 19 = .int .i64 i ∧ e 26 = y ∧ e 27 = .int .i64 i ∧ e 28 = .int .i64 k) _ ⟨0, rfl, ?_⟩ ?_
        · simp only [updO_at, updO_not, entry_at, List.getD_cons_zero, List.getD_cons_succ, ↓reduceIte, Nat.reduceEqDiff, true_and, and_true]
          have q1 : Pfx H1 H1 := Pfx.refl H1
          (repeat' (first | assumption | rfl | omega | exact q1 | exact Nat.zero_le _ | (show lsOut l i = lsOut l i) | refine And.intro ?_ ?_))
        · clear g0 g4 g17 g18 g19
          rintro mm e h2 ⟨k, hmm, hke, hp2, g0, g4, g6, g17, g18, g19, g26, g27, g28⟩
          have hks' : (k : Int) + 1 = ((k + 1 : Nat) : Int) := by omega
          have hlp2 := hp2.len
          by_cases hk : k < i
          · have hI2 := hI'.pre (p1.trans hp2)
            have b1 := hr (k * 2)
            have b2 := hr (k * 2 + 1)
            have e6 : (h2 ++ [(⟨126, [.int .i64 (nth l (k * 2)), .int .i64 (nth l (k * 2 + 1))]⟩ : Blk)])[h'.length]? = some ⟨126, [.int .i64 (nth l (i * 2)), .int .i64 (nth l (i * 2 + 1))]⟩ := by rw [get_skip (by omega), hp2.get (by omega)]; exact D1
            have e8 : (h2 ++ [(⟨126, [.int .i64 (nth l (k * 2)), .int .i64 (nth l (k * 2 + 1))]⟩ : Blk)])[h2.length]? = some ⟨126, [.int .i64 (nth l (k * 2)), .int .i64 (nth l (k * 2 + 1))]⟩ := get_last rfl
            have c60 := (cellb (o := 0) e6).trans (show _ = some (Value.int .i64 (nth l (i * 2))) from rfl)
            have c61 := (cellb (o := 1) e6).trans (show _ = some (Value.int .i64 (nth l (i * 2 + 1))) from rfl)
            have c80 := (cellb (o := 0) e8).trans (show _ = some (Value.int .i64 (nth l (k * 2))) from rfl)
            have c81 := (cellb (o := 1) e8).trans (show _ = some (Value.int .i64 (nth l (k * 2 + 1))) from rfl)
            obtain ⟨dx, hdx⟩ : ∃ d, d = nth l (i * 2) - nth l (k * 2) := ⟨_, rfl⟩
            obtain ⟨dy, hdy⟩ : ∃ d, d = nth l (i * 2 + 1) - nth l (k * 2 + 1) := ⟨_, rfl⟩
            have sq := sq_rng (a := dx) (b := dy) (by omega) (by omega) (by omega) (by omega)
            have em : min (lsIn l i (lsOut l i) k) (dx * dx + dy * dy) = lsIn l i (lsOut l i) (k + 1) := by
              rw [hdx, hdy]; rfl
            (repeat' first | simp -dsimp (disch := first | omega | assumption | (refine OkS.sto ?_ (by omega); first | assumption | (refine OkS.sto ?_ (by omega); first | assumption | (refine OkS.sto ?_ (by omega); first | assumption | (refine OkS.sto ?_ (by omega); first | assumption | (refine OkS.sto ?_ (by omega); first | assumption | (refine OkS.sto ?_ (by omega); first | assumption)))))) | exact Pfx.refl _ | (apply Pfx.snoc; repeat (first | exact Pfx.refl _ | assumption | apply Pfx.snoc)) | with_unfolding_all exact of_eq_true (eq_true rfl) | (simp only [List.length_append, List.length_cons, List.length_nil]; omega)) only [↓wpre0, ↓wpre1, ↓reduceIte, Int.reduceToNat, Nat.reduceAdd, Nat.reduceMul, Nat.reduceEqDiff, wpost0, wpost1, wpost2, wpost3, wpost4, ite_self, ite_true, ite_false, if_true, if_false, un_not, xlen54, bin_lss, xiad54, xld126, tze126, xst126, xfad126_0, xld2, bin_sub, bin_mul, xfad126_1, bin_add, blt_minI, fr99, wrap_int, wrap_u8, iteP_yes, iteP_no, g0, g4, g6, g17, g18, g19, g26, g27, g28, ta k hk, IS.ldm hI2 tsz126 tag126, ints_2, c60, c61, c80, c81, ← hdx, ← hdy, blt_minI, em] | refine iteP_two (fun hc hd => ?_) (fun hc hd => ?_) | refine iteP_intro (fun hc => ?_) (fun hc => ?_))
            exact ⟨i - (k + 1), by omega, k + 1, rfl, by omega, hp2.snoc, rfl, by rw [hks']⟩
          · have ek : k = i := by omega
            subst ek
            (repeat' first | simp -dsimp (disch := first | omega | assumption | (refine OkS.sto ?_ (by omega); first | assumption | (refine OkS.sto ?_ (by omega); first | assumption | (refine OkS.sto ?_ (by omega); first | assumption | (refine OkS.sto ?_ (by omega); first | assumption | (refine OkS.sto ?_ (by omega); first | assumption | (refine OkS.sto ?_ (by omega); first | assumption)))))) | exact Pfx.refl _ | (apply Pfx.snoc; repeat (first | exact Pfx.refl _ | assumption | apply Pfx.snoc)) | with_unfolding_all exact of_eq_true (eq_true rfl) | (simp only [List.length_append, List.length_cons, List.length_nil]; omega)) only [↓wpre0, ↓wpre1, ↓reduceIte, Int.reduceToNat, Nat.reduceAdd, Nat.reduceMul, Nat.reduceEqDiff, wpost0, wpost1, wpost2, wpost3, wpost4, ite_self, ite_true, ite_false, if_true, if_false, un_not, xlen54, bin_lss, xiad54, xld126, tze126, xst126, xfad126_0, xld2, bin_sub, bin_mul, xfad126_1, bin_add, blt_minI, fr99, wrap_int, wrap_u8, iteP_yes, iteP_no, g0, g4, g6, g17, g18, g19, g26, g27, g28] | refine iteP_two (fun hc hd => ?_) (fun hc hd => ?_) | refine iteP_intro (fun hc => ?_) (fun hc => ?_))
            exact ⟨n - (k + 1), by omega, k + 1, rfl, by omega, hp.trans (p1.trans hp2), rfl, by rw [hks]⟩
      · have ei : i = n := by omega
        subst ei
        (repeat' first | simp -dsimp (disch := first | omega | assumption | (refine OkS.sto ?_ (by omega); first | assumption | (refine OkS.sto ?_ (by omega); first | assumption | (refine OkS.sto ?_ (by omega); first | assumption | (refine OkS.sto ?_ (by omega); first | assumption | (refine OkS.sto ?_ (by omega); first | assumption | (refine OkS.sto ?_ (by omega); first | assumption)))))) | exact Pfx.refl _ | (apply Pfx.snoc; repeat (first | exact Pfx.refl _ | assumption | apply Pfx.snoc)) | with_unfolding_all exact of_eq_true (eq_true rfl) | (simp only [List.length_append, List.length_cons, List.length_nil]; omega)) only [↓wpre0, ↓wpre1, ↓reduceIte, Int.reduceToNat, Nat.reduceAdd, Nat.reduceMul, Nat.reduceEqDiff, wpost0, wpost1, wpost2, wpost3, wpost4, ite_self, ite_true, ite_false, if_true, if_false, un_not, xlen54, bin_lss, xiad54, xld126, tze126, xst126, xfad126_0, xld2, bin_sub, bin_mul, xfad126_1, bin_add, blt_minI, fr99, wrap_int, wrap_u8, iteP_yes, iteP_no, g0, g4, g17, g18, g19, endH_flat, hp] | refine iteP_two (fun hc hd => ?_) (fun hc hd => ?_) | refine iteP_intro (fun hc => ?_) (fun hc => ?_))
theorem even_r (hE : X 186 = some (ext1 (gInt .even))) {p : Nat} (hn : (FloatKind.f64.decode p).isNaN = false) (h : Heap) : Ret Try.prog ro X 186 [.float .f64 p] h (.float .f64 (rvF p)) :=
  fun _ _ => cf_eq (call_ext hE (by simp only [ext1, gInt, hn, Bool.false_eq_true, if_false]; rfl))
set_option maxHeartbeats 4000000 in
theorem Ring_c {c R : Nat} (hX : XN X) (hA : XAbs X) (hE : X 186 = some (ext1 (gInt .even))) (c1 : 1 ≤ c) (hc : c ≤ 12) (h1 : 64 ≤ R) (h2 : R < 264) (hro : ro ≤ h.length) :
    CallR Try.prog ro X 100 [.int .i64 c, .int .i64 R] h (fun r h' => ∃ z, r = .tuple ⟨[z, .bool true]⟩ ∧ Pfx h h' ∧ VG h.length 126 2 h' z c (vints (rgZ c R c))) := by
  have hg := rg_good c1 hc h1 h2
  have hR : cdB (R : Int) = true := by unfold cdB; simp only [Bool.and_eq_true, decide_eq_true_eq]; omega
  have kr := isCoord_r (ro := ro) hX (R : Int)
  rw [hR] at kr
  have kc := isCnt_r (ro := ro) hX (c : Int)
  have wc : (decide ((1 : Int) ≤ (c : Int)) && decide ((c : Int) ≤ 16)) = true := by simp; omega
  rw [wc] at kc
  refine callR_of (hX _ rfl) Try.func100 rfl (by kernel_rfl) (Nat.le_of_ble_eq_true rfl) ?_
  (repeat' first | simp -dsimp (disch := first | omega | assumption | (refine OkS.sto ?_ (by omega); first | assumption | (refine OkS.sto ?_ (by omega); first | assumption | (refine OkS.sto ?_ (by omega); first | assumption | (refine OkS.sto ?_ (by omega); first | assumption | (refine OkS.sto ?_ (by omega); first | assumption | (refine OkS.sto ?_ (by omega); first | assumption)))))) | exact Pfx.refl _ | (apply Pfx.snoc; repeat (first | exact Pfx.refl _ | assumption | apply Pfx.snoc)) | with_unfolding_all exact of_eq_true (eq_true rfl) | (simp only [List.length_append, List.length_cons, List.length_nil]; omega)) only [↓wpre0, ↓wpre1, ↓reduceIte, Int.reduceToNat, Nat.reduceAdd, Nat.reduceMul, Nat.reduceEqDiff, wpost0, wpost1, wpost2, wpost3, wpost4, ite_self, ite_true, ite_false, if_true, if_false, un_not, xbls54_0, xbls54_1, bin_lss, xcv2_59, bin_fquo, bin_fmul, xcv59_2, xbld126_0_1, bin_add, fr100, wrap_int, wrap_u8, iteP_yes, iteP_no, kc, kr] | refine iteP_two (fun hc hd => ?_) (fun hc hd => ?_) | refine iteP_intro (fun hc => ?_) (fun hc => ?_))
  refine loop_rounds (fun mm e h' => ∃ (i : Nat) (z : Value), mm = c - i ∧ i ≤ c ∧ Pfx h h' ∧ e 0 = .int .i64 c ∧ e 1 = .int .i64 R ∧ e 6 = z ∧ e 19 = .int .i64 c ∧ e 20 = .int .i64 i ∧ VG h.length 126 2 h' z i (vints (rgZ c R i))) _ ⟨0, .slice (some ⟨h.length, 0, none⟩) 0 0, rfl, ?_⟩ ?_
  · simp only [updO_at, updO_not, entry_at, List.getD_cons_zero, List.getD_cons_succ, ↓reduceIte, Nat.reduceEqDiff, true_and, and_true]
    have q1 : Pfx h (h ++ [(⟨126, []⟩ : Blk)]) := (Pfx.refl h).snoc
    have q2 : VG h.length 126 2 (h ++ [(⟨126, []⟩ : Blk)]) (.slice (some ⟨h.length, 0, none⟩) 0 0) 0 (vints (rgZ c R 0)) := vg_new h (Nat.le_refl _)
    (repeat' (first | assumption | rfl | omega | exact q1 | exact q2 | exact Nat.zero_le _ | refine And.intro ?_ ?_))
  · rintro mm e h' ⟨i, z, hmm, hle, hp, g0, g1, g6, g19, g20, hZ⟩
    have hks : (i : Int) + 1 = ((i + 1 : Nat) : Int) := by omega
    have hlp := hp.len
    by_cases hin : i < c
    · obtain ⟨q, a, b, _⟩ := rg_at hc hin h1 h2
      obtain ⟨q1, q2, q3, q4, q5⟩ := rgEq_at q
      obtain ⟨a1, a2, _, a4⟩ := a
      obtain ⟨b1, b2, _, b4⟩ := b
      have hP := PhasorG_r (ro := ro) hX hA (q := 4 * i / c) (Nat.div_lt_of_lt_mul (by omega)) q1 h'
      have hP : Ret Try.prog ro X 94 [.float .f64 (farith .quo .f64 (cf .f64 (FloatKind.f64.nearest (i : Int))) (cf .f64 (FloatKind.f64.nearest (c : Int))))] h' (toV (rgP c i)) := hP
      have hpt := parts_r (ro := ro) hX (u := rgP c i) ⟨q4, q5⟩ h'
      rw [q2, q3] at hpt
      have ha := even_r (ro := ro) hE a1 h'
      have hb := even_r (ro := ro) hE b1 h'
      have eX : rgI (rdF (rgL c i).1 R) = rgX c R i := rfl
      have eY : rgI (rdF (rgL c i).2 R) = rgY c R i := rfl
      have ea : rdF (rgL c i).1 R = farith .mul .f64 (rgL c i).1 (cf .f64 (FloatKind.f64.nearest (R : Int))) := rfl
      have eb : rdF (rgL c i).2 R = farith .mul .f64 (rgL c i).2 (cf .f64 (FloatKind.f64.nearest (R : Int))) := rfl
      rw [eX] at a2 a4
      rw [eY] at b2 b4
      rw [ea] at a2 ha
      rw [eb] at b2 hb
      generalize rgP c i = P at *
      obtain ⟨H, ap, vg, old, hlen⟩ := accP (P := Try.prog) (ro := ro) (T := 54) (h := h') (k := 2) (M := [.int .i64 (rgX c R i), .int .i64 (rgY c R i)]) tel54 tsz126 tby126 tze126 (by decide) (.inl hZ) hro (by omega) rfl rfl (by omega) (by omega)
      have eV : vints (rgZ c R i) ++ [.int .i64 (rgX c R i), .int .i64 (rgY c R i)] = vints (rgZ c R (i + 1)) := by rw [rgZ_succ, vints_app]; rfl
      rw [eV] at vg
      have pH := old.1 h hp (Nat.le_refl _)
      (repeat' first | simp -dsimp (disch := first | omega | assumption | (refine OkS.sto ?_ (by omega); first | assumption | (refine OkS.sto ?_ (by omega); first | assumption | (refine OkS.sto ?_ (by omega); first | assumption | (refine OkS.sto ?_ (by omega); first | assumption | (refine OkS.sto ?_ (by omega); first | assumption | (refine OkS.sto ?_ (by omega); first | assumption)))))) | exact Pfx.refl _ | (apply Pfx.snoc; repeat (first | exact Pfx.refl _ | assumption | apply Pfx.snoc)) | with_unfolding_all exact of_eq_true (eq_true rfl) | (simp only [List.length_append, List.length_cons, List.length_nil]; omega)) only [↓wpre0, ↓wpre1, ↓reduceIte, Int.reduceToNat, Nat.reduceAdd, Nat.reduceMul, Nat.reduceEqDiff, wpost0, wpost1, wpost2, wpost3, wpost4, ite_self, ite_true, ite_false, if_true, if_false, un_not, xbls54_0, xbls54_1, bin_lss, xcv2_59, bin_fquo, bin_fmul, xcv59_2, xbld126_0_1, bin_add, fr100, wrap_int, wrap_u8, iteP_yes, iteP_no, g0, g1, g6, g19, g20, conv_if Try.underlying2 Try.underlying59, hP, hpt, ha, hb, conv_fi Try.underlying59 Try.underlying2, a2, b2, Option.map_some, ap] | refine iteP_two (fun hc hd => ?_) (fun hc hd => ?_) | refine iteP_intro (fun hc => ?_) (fun hc => ?_))
      exact ⟨c - (i + 1), by omega, i + 1, _, rfl, by omega, pH, rfl, by rw [hks], vg⟩
    · have ei : i = c := by omega
      subst ei
      have hIz := hZ.vs.is
      have htz : tyP ro h' z := fun _ => by
        obtain ⟨_, b, cap, rfl, _, hb2, _⟩ := hZ
        show (h'[b]?).map Blk.ty = _
        rw [hb2]; rfl
      have hnf : Sim.flat (.tuple ⟨[z, .bool true]⟩) = false := by obtain ⟨_, b, cap, rfl, _⟩ := hZ; rfl
      (repeat' first | simp -dsimp (disch := first | omega | assumption | (refine OkS.sto ?_ (by omega); first | assumption | (refine OkS.sto ?_ (by omega); first | assumption | (refine OkS.sto ?_ (by omega); first | assumption | (refine OkS.sto ?_ (by omega); first | assumption | (refine OkS.sto ?_ (by omega); first | assumption | (refine OkS.sto ?_ (by omega); first | assumption)))))) | exact Pfx.refl _ | (apply Pfx.snoc; repeat (first | exact Pfx.refl _ | assumption | apply Pfx.snoc)) | with_unfolding_all exact of_eq_true (eq_true rfl) | (simp only [List.length_append, List.length_cons, List.length_nil]; omega)) only [↓wpre0, ↓wpre1, ↓reduceIte, Int.reduceToNat, Nat.reduceAdd, Nat.reduceMul, Nat.reduceEqDiff, wpost0, wpost1, wpost2, wpost3, wpost4, ite_self, ite_true, ite_false, if_true, if_false, un_not, xbls54_0, xbls54_1, bin_lss, xcv2_59, bin_fquo, bin_fmul, xcv59_2, xbld126_0_1, bin_add, fr100, wrap_int, wrap_u8, iteP_yes, iteP_no, g0, g1, g6, g19, g20] | refine iteP_two (fun hc hd => ?_) (fun hc hd => ?_) | refine iteP_intro (fun hc => ?_) (fun hc => ?_))
      refine cf_rel (valP_c hX hIz htz hg (by omega)) (fun q => by cases q) ?_
      rintro r h2 ⟨rfl, rfl⟩
      (repeat' first | simp -dsimp (disch := first | omega | assumption | (refine OkS.sto ?_ (by omega); first | assumption | (refine OkS.sto ?_ (by omega); first | assumption | (refine OkS.sto ?_ (by omega); first | assumption | (refine OkS.sto ?_ (by omega); first | assumption | (refine OkS.sto ?_ (by omega); first | assumption | (refine OkS.sto ?_ (by omega); first | assumption)))))) | exact Pfx.refl _ | (apply Pfx.snoc; repeat (first | exact Pfx.refl _ | assumption | apply Pfx.snoc)) | with_unfolding_all exact of_eq_true (eq_true rfl) | (simp only [List.length_append, List.length_cons, List.length_nil]; omega)) only [↓wpre0, ↓wpre1, ↓reduceIte, Int.reduceToNat, Nat.reduceAdd, Nat.reduceMul, Nat.reduceEqDiff, wpost0, wpost1, wpost2, wpost3, wpost4, ite_self, ite_true, ite_false, if_true, if_false, un_not, xbls54_0, xbls54_1, bin_lss, xcv2_59, bin_fquo, bin_fmul, xcv59_2, xbld126_0_1, bin_add, fr100, wrap_int, wrap_u8, iteP_yes, iteP_no, endH_not hnf] | refine iteP_two (fun hc hd => ?_) (fun hc hd => ?_) | refine iteP_intro (fun hc => ?_) (fun hc => ?_))
      exact ⟨z, rfl, hp, hZ⟩
end Go.Proofs.Ytelogajobjflfaa.Sim

/- Boxes of places, walked. Lemmas only; no condition. -/
set_option linter.unusedSimpArgs false
set_option linter.unusedVariables false
set_option maxRecDepth 8000
namespace Go.Proofs.Ytelogajobjflfaa.Sim
open Go Go.RowKit Fl
variable {ro lo hi n : Nat} {X : Ext} {h : Heap} {x y : Value} {l : List Int} {u v : Int}
/-- A region in which a load need not wait for a store that leaves its block alone. -/
theorem WG_ex {P : Program} {Q : Ex → Env → Heap → Prop} {e : Env} {id : Nat} {ops : List Oper} {ex : Nat → Nat → Bool} (hB : strictG P ops.toArray ex = true) (hw : WO P ro X false ops.toArray ops (Q .normal) e h)
    (hx : ∀ (C : Fns) (q : Env × Heap), Sim.aops P ro C ops.toArray ops e h = some q → ∀ i j p, ops.toArray[j]? = some p → i < ops.length → ex i j = true → aop P ro C p.op (rn P ro C ops.toArray e h j).1 (rn P ro C ops.toArray e h i).2 = some ((stp P ro C ops.toArray p (rn P ro C ops.toArray e h j).1 (rn P ro C ops.toArray e h j).2).1, (rn P ro C ops.toArray e h i).2) ∧ aop P ro C p.op (rn P ro C ops.toArray e h j).1 (rn P ro C ops.toArray e h (i + 1)).2 = some ((stp P ro C ops.toArray p (rn P ro C ops.toArray e h j).1 (rn P ro C ops.toArray e h j).2).1, (rn P ro C ops.toArray e h (i + 1)).2)) : WG P ro X (.region id ops.toArray true) Q e h := by
  obtain ⟨n, e', h', h1, h2⟩ := hw
  have d := dynRun_gen (P := P) (ro := ro) (C := callN P ro X n) hB h1 (fun i j p hj hi he _ => hx _ _ h1 i j p hj (by simpa using hi) he)
  have h1 : Sim.aops P ro (callN P ro X n) ops.toArray ops.toArray.toList e h = some (e', h') := h1
  exact ⟨n, .normal, e', h', by simp only [evG]; rw [rgG_dyn d]; rfl, h2⟩
/-! ### All orders, by what holds all along -/
theorem getD_set {A : Array Bool} {i : Nat} (hi : i < A.size) (j : Nat) : (A.setIfInBounds i true).getD j false = if j = i then true else A.getD j false := by
  rw [Array.getD_eq_getD_getElem?, Array.getD_eq_getD_getElem?, Array.getElem?_setIfInBounds]
  by_cases q : i = j
  · subst q; simp [hi]
  · rw [if_neg q, if_neg (fun w => q w.symm)]
theorem extsEnd_of {ops : Array Oper} (hd : EdgeFacts ops) : ∀ (f : Nat) (A : Array Bool), A.size = ops.size → A.toList.countP (fun b => !b) ≤ f → extsEnd ops f A = true := by
  have lt : ∀ {A : Array Bool} {i : Nat}, A.size = ops.size → i ∈ Region.ready .any ops A → i < A.size ∧ A.getD i false = false := fun {A i} hs hi => by
    obtain ⟨o, ho, h1, _⟩ := ready_iffE hs hi hd
    exact ⟨by rw [hs]; exact (Array.getElem?_eq_some_iff.1 ho).1, h1⟩
  have gt : ∀ {A : Array Bool} {i : Nat} (h : i < A.size), A.getD i false = false → A.toList[i]'(by simpa using h) = false := fun {A i} h q => by
    rw [Array.getD_eq_getD_getElem?, Array.getElem?_eq_getElem h] at q
    simpa using q
  intro f
  induction f with
  | zero =>
    intro A hs hc
    unfold extsEnd
    rw [List.isEmpty_iff]
    refine List.eq_nil_iff_forall_not_mem.2 fun i hi => ?_
    obtain ⟨h1, h2⟩ := lt hs hi
    have : 0 < A.toList.countP (fun b => !b) := List.countP_pos_iff.2 ⟨_, List.getElem_mem (by simpa using h1), by rw [gt h1 h2]; rfl⟩
    omega
  | succ f ih =>
    intro A hs hc
    unfold extsEnd
    rw [List.all_eq_true]
    intro i hi
    obtain ⟨h1, h2⟩ := lt hs hi
    refine ih _ (by simpa using hs) ?_
    rw [Array.toList_setIfInBounds, List.countP_set (by simpa using h1)]
    rw [gt h1 h2]
    simp only [Bool.not_false, Bool.not_true, if_true]
    simp at hc ⊢
    omega
theorem perm_inv {P : Program} {C : Fns} {ops : Array Oper} (hd : EdgeFacts ops) {I : (Nat → Bool) → Env → Heap → Prop} {K : Env → Heap → Prop}
    (step : ∀ (D D' : Nat → Bool) (e : Env) (h : Heap) (i : Nat) (o : Oper), I D e h → ops[i]? = some o → D i = false → (∀ d ∈ edgesOf o, D d.on = true) → (∀ j, D' j = if j = i then true else D j) → ∃ v h', wants ops e o = true ∧ aop P ro C o.op e h = some (v, h') ∧ I D' (updO e o.dst v) h')
    (fin : ∀ (D : Nat → Bool) (e : Env) (h : Heap), I D e h → (∀ i, i < ops.size → D i = true) → K e h) :
    ∀ (f : Nat) (A : Array Bool) (e : Env) (h : Heap), A.size = ops.size → extsEnd ops f A = true → I (fun j => A.getD j false) e h → ∀ σ ∈ exts ops f A, ∃ q', Sim.aops P ro C ops (opsAt ops σ) e h = some q' ∧ K q'.1 q'.2 := by
  have nil : ∀ (A : Array Bool) (e : Env) (h : Heap), A.size = ops.size → I (fun j => A.getD j false) e h → Region.ready .any ops A = [] → ∃ q', Sim.aops P ro C ops (opsAt ops []) e h = some q' ∧ K q'.1 q'.2 := fun A e h hs hI hr => ⟨(e, h), rfl, fin _ e h hI (ready_nilE hs hr hd)⟩
  intro f
  induction f with
  | zero =>
    intro A e h hs hE hI σ hσ
    unfold exts at hσ
    unfold extsEnd at hE
    rw [List.mem_singleton.1 hσ]
    exact nil A e h hs hI (List.isEmpty_iff.1 hE)
  | succ f ih =>
    intro A e h hs hE hI σ hσ
    unfold exts at hσ
    split at hσ
    · rename_i hr
      rw [List.mem_singleton.1 hσ]
      exact nil A e h hs hI hr
    · obtain ⟨i, hi, hσ⟩ := List.mem_flatMap.1 hσ
      obtain ⟨τ, hτ, rfl⟩ := List.mem_map.1 hσ
      obtain ⟨o, ho, h1, h2⟩ := ready_iffE hs hi hd
      have hlt : i < A.size := by rw [hs]; exact (Array.getElem?_eq_some_iff.1 ho).1
      unfold extsEnd at hE
      have hE' := List.all_eq_true.1 hE i hi
      obtain ⟨v, h', w1, w2, w3⟩ := step _ (fun j => (A.setIfInBounds i true).getD j false) e h i o hI ho h1 h2 (fun j => getD_set hlt j)
      obtain ⟨q', k1, k2⟩ := ih (A.setIfInBounds i true) (updO e o.dst v) h' (by simpa using hs) hE' w3 τ hτ
      refine ⟨q', ?_, k2⟩
      have eo : opsAt ops (i :: τ) = o :: opsAt ops τ := by simp only [opsAt, List.filterMap_cons, ho]
      rw [eo]
      simp only [Sim.aops]
      rw [if_pos w1, w2, Option.bind_some]
      exact k1
theorem text_inv {P : Program} {C : Fns} {ops : Array Oper} (hd : EdgeFacts ops) {I : (Nat → Bool) → Env → Heap → Prop}
    (step : ∀ (D D' : Nat → Bool) (e : Env) (h : Heap) (i : Nat) (o : Oper), I D e h → ops[i]? = some o → D i = false → (∀ d ∈ edgesOf o, D d.on = true) → (∀ j, D' j = if j = i then true else D j) → ∃ v h', wants ops e o = true ∧ aop P ro C o.op e h = some (v, h') ∧ I D' (updO e o.dst v) h') :
    ∀ (m k : Nat) (e : Env) (h : Heap), k + m = ops.size → I (fun j => decide (j < k)) e h → ∃ q, Sim.aops P ro C ops (ops.toList.drop k) e h = some q ∧ I (fun j => decide (j < ops.size)) q.1 q.2 := by
  intro m
  induction m with
  | zero =>
    intro k e h hk hI
    have e0 : ops.toList.drop k = [] := List.drop_eq_nil_of_le (by simp; omega)
    rw [e0]
    have ek : k = ops.size := by omega
    subst ek
    exact ⟨(e, h), rfl, hI⟩
  | succ m ih =>
    intro k e h hk hI
    have hlt : k < ops.size := by omega
    have ho : ops[k]? = some ops[k] := Array.getElem?_eq_getElem hlt
    obtain ⟨v, h', w1, w2, w3⟩ := step _ (fun j => decide (j < k + 1)) e h k _ hI ho (by simp) (fun d hdd => by have := (hd k _ d ho hdd).2; simpa using this) (fun j => by
      by_cases q : j = k
      · rw [if_pos q]; simp; omega
      · rw [if_neg q]; exact decide_eq_decide.2 (by omega))
    obtain ⟨q, k1, k2⟩ := ih (k + 1) _ h' (by omega) w3
    refine ⟨q, ?_, k2⟩
    have hl : k < ops.toList.length := by simpa using hlt
    rw [List.drop_eq_getElem_cons hl]
    have e1 : ops.toList[k] = ops[k] := by simp
    rw [e1]
    simp only [Sim.aops]
    rw [if_pos w1, w2, Option.bind_some]
    exact k1
/-! ### Two places, drawn in any order -/
def pl2 (b : Bool) (v0 v1 : Int) : Blk := ⟨126, if b then [.int .i64 v0, .int .i64 v1] else [.int .i64 0, .int .i64 0]⟩
def stH (D : Nat → Bool) (p : Bool) (v0 v1 : Int) : List Blk :=
  match D 6, D 7 with
  | true, true => if p then [pl2 (D 8) v0 v1, pl2 (D 9) v0 v1] else [pl2 (D 9) v0 v1, pl2 (D 8) v0 v1]
  | true, false => [pl2 (D 8) v0 v1]
  | false, true => [pl2 (D 9) v0 v1]
  | false, false => []
structure J3 (e : Env) (H : Heap) (x : Value) (v0 v1 : Int) (p : Bool) (D : Nat → Bool) (e' : Env) (h' : Heap) : Prop where
  f0 : D 0 = true → e' 14 = x
  f1 : D 1 = true → e' 15 = ea x 0
  f2 : D 2 = true → e' 16 = .agg ⟨[.int .i64 v0, .int .i64 v1]⟩
  f3 : D 3 = true → e' 17 = x
  f4 : D 4 = true → e' 18 = ea x 0
  f5 : D 5 = true → e' 19 = .agg ⟨[.int .i64 v0, .int .i64 v1]⟩
  f6 : D 6 = true → e' 5 = .pointer (some ⟨H.length + (if p then 0 else 1), 0, none⟩)
  f7 : D 7 = true → e' 6 = .pointer (some ⟨H.length + (if p then 1 else 0), 0, none⟩)
  fo : ∀ t, t ≠ 14 → t ≠ 15 → t ≠ 16 → t ≠ 17 → t ≠ 18 → t ≠ 19 → t ≠ 5 → t ≠ 6 → e' t = e t
  c6 : D 6 = true → D 7 = false → p = true
  c7 : D 7 = true → D 6 = false → p = false
  c8 : D 8 = true → D 6 = true
  c9 : D 9 = true → D 7 = true
  hp : h' = H ++ stH D p v0 v1
def depB (ops : Array Oper) (i j : Nat) : Bool := match ops[i]? with | some o => (edgesOf o).any fun d => d.on == j | none => false
theorem op_is {ops : Array Oper} {i : Nat} {o : Oper} {op : Op} {d : Option Nat} (ho : ops[i]? = some o) (h : (ops[i]?).map (fun o => (o.op, o.dst, o.guard)) = some (op, d, none)) : o.op = op ∧ o.dst = d ∧ ∀ e : Env, wants ops e o = true := by
  rw [ho] at h
  simp only [Option.map_some, Option.some.injEq, Prod.mk.injEq] at h
  refine ⟨h.1, h.2.1, fun e => ?_⟩
  unfold wants
  rw [h.2.2]
theorem depB_at {ops : Array Oper} {i j : Nat} {o : Oper} (h : depB ops i j = true) (ho : ops[i]? = some o) {D : Nat → Bool} (hD : ∀ d ∈ edgesOf o, D d.on = true) : D j = true := by
  unfold depB at h
  rw [ho] at h
  obtain ⟨d, hd, hj⟩ := List.any_eq_true.1 h
  have := hD d hd
  rw [← eq_of_beq hj]
  exact this
def edgeB (ops : Array Oper) : Bool := (List.range ops.size).all fun i => match ops[i]? with | none => true | some o => (edgesOf o).all fun e => Region.binds .any e && decide (e.on < i)
theorem edgeB_at {ops : Array Oper} (h : edgeB ops = true) : EdgeFacts ops := by
  intro i o e ho he
  have hlt := (Array.getElem?_eq_some_iff.1 ho).1
  have q := List.all_eq_true.1 h i (List.mem_range.2 hlt)
  rw [ho] at q
  have := List.all_eq_true.1 q e he
  simp only [Bool.and_eq_true, decide_eq_true_eq] at this
  exact this
set_option maxHeartbeats 4000000 in
theorem r3_box {ops : Array Oper} {c : Code} (hc : Try.f98.body = some c) (hr : findR 3 c = some ops) {e : Env} {H : Heap} {Q : Ex → Env → Heap → Prop} {x : Value} {v0 v1 : Int} (hro : ro ≤ H.length)
    (g0 : e 0 = x) (hx : ∃ b o m q, x = .slice (some ⟨b, o, none⟩) m q ∧ b < H.length) (hia : iadr Try.prog 54 x (.int .i64 0) = some (ea x 0)) (hld : ∀ G, Pfx H G → ld Try.prog G 126 (ea x 0) = some (.agg ⟨[.int .i64 v0, .int .i64 v1]⟩))
    (k : ∀ (e' : Env) (p : Bool), (∀ t, t ≠ 14 → t ≠ 15 → t ≠ 16 → t ≠ 17 → t ≠ 18 → t ≠ 19 → t ≠ 5 → t ≠ 6 → e' t = e t) → e' 5 = .pointer (some ⟨H.length + (if p then 0 else 1), 0, none⟩) → e' 6 = .pointer (some ⟨H.length + (if p then 1 else 0), 0, none⟩) → Q .normal e' (H ++ [pl2 true v0 v1, pl2 true v0 v1])) :
    WG Try.prog ro X (.region 3 ops true) Q e H := by
  cases hc
  have hx' : findR 3 _ = some _ := hr
  simp only [findR, Nat.reduceEqDiff, if_false, if_true] at hx'
  have hops := (Option.some.inj hx').symm
  clear hx' hr
  have hE : EdgeFacts ops := edgeB_at (by rw [hops]; kernel_rfl)
  have hsz : ops.size = 10 := by rw [hops]; rfl
  have d10 : depB ops 1 0 = true := by rw [hops]; kernel_rfl
  have d21 : depB ops 2 1 = true := by rw [hops]; kernel_rfl
  have d43 : depB ops 4 3 = true := by rw [hops]; kernel_rfl
  have d54 : depB ops 5 4 = true := by rw [hops]; kernel_rfl
  have d82 : depB ops 8 2 = true := by rw [hops]; kernel_rfl
  have d86 : depB ops 8 6 = true := by rw [hops]; kernel_rfl
  have d95 : depB ops 9 5 = true := by rw [hops]; kernel_rfl
  have d97 : depB ops 9 7 = true := by rw [hops]; kernel_rfl
  have hI0 : ∀ D : Nat → Bool, (∀ j, D j = false) → J3 e H x v0 v1 true D e H := fun D hD => by
    refine ⟨?_, ?_, ?_, ?_, ?_, ?_, ?_, ?_, ?_, ?_, ?_, ?_, ?_, ?_⟩
    all_goals first
      | (intro q; rw [hD] at q; cases q; done)
      | (intros; rfl)
      | (unfold stH; rw [hD 6, hD 7]; simp)
  have hpf : ∀ {D : Nat → Bool} {p : Bool} {e' : Env} {h' : Heap}, J3 e H x v0 v1 p D e' h' → Pfx H h' := fun J => by
    rw [J.hp]; exact (List.take_left : (H ++ _).take H.length = H)
  have step : ∀ (C : Fns) (D D' : Nat → Bool) (e1 : Env) (h1 : Heap) (i : Nat) (o : Oper), (∃ p, J3 e H x v0 v1 p D e1 h1) → ops[i]? = some o → D i = false → (∀ d ∈ edgesOf o, D d.on = true) → (∀ j, D' j = if j = i then true else D j) → ∃ v h', wants ops e1 o = true ∧ aop Try.prog ro C o.op e1 h1 = some (v, h') ∧ ∃ p, J3 e H x v0 v1 p D' (updO e1 o.dst v) h' := by
    intro C D D' e1 h1 i o hI ho hDi hdep hD'
    obtain ⟨p, J⟩ := hI
    have hi : i < 10 := by rw [← hsz]; exact (Array.getElem?_eq_some_iff.1 ho).1
    have hPf := hpf J
    have h0' : e1 0 = x := by rw [J.fo 0 (by decide) (by decide) (by decide) (by decide) (by decide) (by decide) (by decide) (by decide), g0]
    have hc : i = 0 ∨ i = 1 ∨ i = 2 ∨ i = 3 ∨ i = 4 ∨ i = 5 ∨ i = 6 ∨ i = 7 ∨ i = 8 ∨ i = 9 := by omega
    have same : i ≠ 6 → i ≠ 7 → i ≠ 8 → i ≠ 9 → stH D' p v0 v1 = stH D p v0 v1 := fun q6 q7 q8 q9 => by
      unfold stH
      rw [hD' 6, hD' 7, hD' 8, hD' 9, if_neg (Ne.symm q6), if_neg (Ne.symm q7), if_neg (Ne.symm q8), if_neg (Ne.symm q9)]
    rcases hc with rfl | rfl | rfl | rfl | rfl | rfl | rfl | rfl | rfl | rfl
    · obtain ⟨q1, q2, q3⟩ := op_is ho (op := .move (.tmp 0)) (d := some 14) (by rw [hops]; rfl)
      refine ⟨x, h1, q3 _, by rw [q1]; simp only [aop, ov, h0'], p, ?_⟩
      rw [q2]
      refine ⟨?_, ?_, ?_, ?_, ?_, ?_, ?_, ?_, ?_, ?_, ?_, ?_, ?_, ?_⟩
      all_goals try simp only [hD', updO_some, upd_at, Nat.reduceEqDiff, ↓reduceIte]
      all_goals first
        | (intros; trivial)
        | (intros; rfl)
        | exact J.f0
        | exact J.f1
        | exact J.f2
        | exact J.f3
        | exact J.f4
        | exact J.f5
        | exact J.f6
        | exact J.f7
        | exact J.c6
        | exact J.c7
        | exact J.c8
        | exact J.c9
        | (intro t n1 n2 n3 n4 n5 n6 n7 n8; rw [if_neg (by assumption)]; exact J.fo t n1 n2 n3 n4 n5 n6 n7 n8)
        | (rw [same (by decide) (by decide) (by decide) (by decide)]; exact J.hp)
    · obtain ⟨q1, q2, q3⟩ := op_is ho (op := .indexAddr 54 (.tmp 14) (.const (.int .i64 0))) (d := some 15) (by rw [hops]; rfl)
      have k0 := J.f0 (depB_at d10 ho hdep)
      refine ⟨ea x 0, h1, q3 _, by rw [q1]; simp only [aop, ov, k0, hia, Option.map_some], p, ?_⟩
      rw [q2]
      refine ⟨?_, ?_, ?_, ?_, ?_, ?_, ?_, ?_, ?_, ?_, ?_, ?_, ?_, ?_⟩
      all_goals try simp only [hD', updO_some, upd_at, Nat.reduceEqDiff, ↓reduceIte]
      all_goals first
        | (intros; trivial)
        | (intros; rfl)
        | exact J.f0
        | exact J.f1
        | exact J.f2
        | exact J.f3
        | exact J.f4
        | exact J.f5
        | exact J.f6
        | exact J.f7
        | exact J.c6
        | exact J.c7
        | exact J.c8
        | exact J.c9
        | (intro t n1 n2 n3 n4 n5 n6 n7 n8; rw [if_neg (by assumption)]; exact J.fo t n1 n2 n3 n4 n5 n6 n7 n8)
        | (rw [same (by decide) (by decide) (by decide) (by decide)]; exact J.hp)
    · obtain ⟨q1, q2, q3⟩ := op_is ho (op := .load 126 (.tmp 15)) (d := some 16) (by rw [hops]; rfl)
      have k0 := J.f1 (depB_at d21 ho hdep)
      refine ⟨.agg ⟨[.int .i64 v0, .int .i64 v1]⟩, h1, q3 _, by rw [q1]; simp only [aop, ov, k0, hld _ hPf, Option.map_some], p, ?_⟩
      rw [q2]
      refine ⟨?_, ?_, ?_, ?_, ?_, ?_, ?_, ?_, ?_, ?_, ?_, ?_, ?_, ?_⟩
      all_goals try simp only [hD', updO_some, upd_at, Nat.reduceEqDiff, ↓reduceIte]
      all_goals first
        | (intros; trivial)
        | (intros; rfl)
        | exact J.f0
        | exact J.f1
        | exact J.f2
        | exact J.f3
        | exact J.f4
        | exact J.f5
        | exact J.f6
        | exact J.f7
        | exact J.c6
        | exact J.c7
        | exact J.c8
        | exact J.c9
        | (intro t n1 n2 n3 n4 n5 n6 n7 n8; rw [if_neg (by assumption)]; exact J.fo t n1 n2 n3 n4 n5 n6 n7 n8)
        | (rw [same (by decide) (by decide) (by decide) (by decide)]; exact J.hp)
    · obtain ⟨q1, q2, q3⟩ := op_is ho (op := .move (.tmp 0)) (d := some 17) (by rw [hops]; rfl)
      refine ⟨x, h1, q3 _, by rw [q1]; simp only [aop, ov, h0'], p, ?_⟩
      rw [q2]
      refine ⟨?_, ?_, ?_, ?_, ?_, ?_, ?_, ?_, ?_, ?_, ?_, ?_, ?_, ?_⟩
      all_goals try simp only [hD', updO_some, upd_at, Nat.reduceEqDiff, ↓reduceIte]
      all_goals first
        | (intros; trivial)
        | (intros; rfl)
        | exact J.f0
        | exact J.f1
        | exact J.f2
        | exact J.f3
        | exact J.f4
        | exact J.f5
        | exact J.f6
        | exact J.f7
        | exact J.c6
        | exact J.c7
        | exact J.c8
        | exact J.c9
        | (intro t n1 n2 n3 n4 n5 n6 n7 n8; rw [if_neg (by assumption)]; exact J.fo t n1 n2 n3 n4 n5 n6 n7 n8)
        | (rw [same (by decide) (by decide) (by decide) (by decide)]; exact J.hp)
    · obtain ⟨q1, q2, q3⟩ := op_is ho (op := .indexAddr 54 (.tmp 17) (.const (.int .i64 0))) (d := some 18) (by rw [hops]; rfl)
      have k0 := J.f3 (depB_at d43 ho hdep)
      refine ⟨ea x 0, h1, q3 _, by rw [q1]; simp only [aop, ov, k0, hia, Option.map_some], p, ?_⟩
      rw [q2]
      refine ⟨?_, ?_, ?_, ?_, ?_, ?_, ?_, ?_, ?_, ?_, ?_, ?_, ?_, ?_⟩
      all_goals try simp only [hD', updO_some, upd_at, Nat.reduceEqDiff, ↓reduceIte]
      all_goals first
        | (intros; trivial)
        | (intros; rfl)
        | exact J.f0
        | exact J.f1
        | exact J.f2
        | exact J.f3
        | exact J.f4
        | exact J.f5
        | exact J.f6
        | exact J.f7
        | exact J.c6
        | exact J.c7
        | exact J.c8
        | exact J.c9
        | (intro t n1 n2 n3 n4 n5 n6 n7 n8; rw [if_neg (by assumption)]; exact J.fo t n1 n2 n3 n4 n5 n6 n7 n8)
        | (rw [same (by decide) (by decide) (by decide) (by decide)]; exact J.hp)
    · obtain ⟨q1, q2, q3⟩ := op_is ho (op := .load 126 (.tmp 18)) (d := some 19) (by rw [hops]; rfl)
      have k0 := J.f4 (depB_at d54 ho hdep)
      refine ⟨.agg ⟨[.int .i64 v0, .int .i64 v1]⟩, h1, q3 _, by rw [q1]; simp only [aop, ov, k0, hld _ hPf, Option.map_some], p, ?_⟩
      rw [q2]
      refine ⟨?_, ?_, ?_, ?_, ?_, ?_, ?_, ?_, ?_, ?_, ?_, ?_, ?_, ?_⟩
      all_goals try simp only [hD', updO_some, upd_at, Nat.reduceEqDiff, ↓reduceIte]
      all_goals first
        | (intros; trivial)
        | (intros; rfl)
        | exact J.f0
        | exact J.f1
        | exact J.f2
        | exact J.f3
        | exact J.f4
        | exact J.f5
        | exact J.f6
        | exact J.f7
        | exact J.c6
        | exact J.c7
        | exact J.c8
        | exact J.c9
        | (intro t n1 n2 n3 n4 n5 n6 n7 n8; rw [if_neg (by assumption)]; exact J.fo t n1 n2 n3 n4 n5 n6 n7 n8)
        | (rw [same (by decide) (by decide) (by decide) (by decide)]; exact J.hp)
    · obtain ⟨q1, q2, q3⟩ := op_is ho (op := .alloc 126) (d := some 5) (by rw [hops]; rfl)
      have h8 : D 8 = false := by
        cases q : D 8 with
        | false => rfl
        | true => have := J.c8 q; rw [hDi] at this; cases this
      have al : aop Try.prog ro C o.op e1 h1 = some (.pointer (some ⟨h1.length, 0, none⟩), h1 ++ [pl2 false v0 v1]) := by
        rw [q1]
        simp only [aop, tze126, Option.bind_some]
        rw [box_go (by rfl)]
        rfl
      cases h7 : D 7 with
      | false =>
        have hh := J.hp
        have hs : stH D p v0 v1 = [] := by unfold stH; rw [hDi, h7]
        rw [hs] at hh
        have hs' : stH D' true v0 v1 = [pl2 false v0 v1] := by unfold stH; rw [hD' 6, hD' 7, hD' 8, hD' 9]; simp only [Nat.reduceEqDiff, ↓reduceIte]; rw [h7, h8] <;> rfl
        refine ⟨_, _, q3 _, al, true, ?_⟩
        rw [q2]
        refine ⟨?_, ?_, ?_, ?_, ?_, ?_, ?_, ?_, ?_, ?_, ?_, ?_, ?_, ?_⟩
        all_goals try simp only [hD', updO_some, upd_at, Nat.reduceEqDiff, ↓reduceIte]
        all_goals first
          | (intros; trivial)
          | (intros; rfl)
          | exact J.f0
          | exact J.f1
          | exact J.f2
          | exact J.f3
          | exact J.f4
          | exact J.f5
          | exact J.c8
          | exact J.c9
          | (intro q; rw [h7] at q; cases q; done)
          | (intro t n1 n2 n3 n4 n5 n6 n7 n8; rw [if_neg (by assumption)]; exact J.fo t n1 n2 n3 n4 n5 n6 n7 n8)
          | (intro _ q; rw [h7] at q; cases q; done)
          | (intro _; rw [hh]; simp; done)
          | (intro q; exact J.f7 q)
          | (rw [hs', hh]; simp; done)
          | (intro _; exact h7)
          | skip
        trace_state
      | true =>
        have hp1 := J.c7 h7 hDi
        subst hp1
        have hh := J.hp
        have hs : stH D false v0 v1 = [pl2 (D 9) v0 v1] := by unfold stH; rw [hDi, h7]
        rw [hs] at hh
        have hs' : stH D' false v0 v1 = [pl2 (D 9) v0 v1, pl2 false v0 v1] := by unfold stH; rw [hD' 6, hD' 7, hD' 8, hD' 9]; simp only [Nat.reduceEqDiff, ↓reduceIte]; rw [h7, h8] <;> rfl
        refine ⟨_, _, q3 _, al, false, ?_⟩
        rw [q2]
        refine ⟨?_, ?_, ?_, ?_, ?_, ?_, ?_, ?_, ?_, ?_, ?_, ?_, ?_, ?_⟩
        all_goals try simp only [hD', updO_some, upd_at, Nat.reduceEqDiff, ↓reduceIte]
        all_goals first
          | (intros; trivial)
          | (intros; rfl)
          | exact J.f0
          | exact J.f1
          | exact J.f2
          | exact J.f3
          | exact J.f4
          | exact J.f5
          | exact J.f7
          | exact J.c8
          | exact J.c9
          | (intro q; rw [h7] at q; cases q; done)
          | (intro t n1 n2 n3 n4 n5 n6 n7 n8; rw [if_neg (by assumption)]; exact J.fo t n1 n2 n3 n4 n5 n6 n7 n8)
          | (intro _ q; rw [h7] at q; cases q; done)
          | (intro _; rw [hh]; simp; done)
          | (intro q; exact J.f7 q)
          | (rw [hs', hh]; simp; done)
          | (intro _; exact h7)
          | skip
        trace_state
    · obtain ⟨q1, q2, q3⟩ := op_is ho (op := .alloc 126) (d := some 6) (by rw [hops]; rfl)
      have h8 : D 9 = false := by
        cases q : D 9 with
        | false => rfl
        | true => have := J.c9 q; rw [hDi] at this; cases this
      have al : aop Try.prog ro C o.op e1 h1 = some (.pointer (some ⟨h1.length, 0, none⟩), h1 ++ [pl2 false v0 v1]) := by
        rw [q1]
        simp only [aop, tze126, Option.bind_some]
        rw [box_go (by rfl)]
        rfl
      cases h7 : D 6 with
      | false =>
        have hh := J.hp
        have hs : stH D p v0 v1 = [] := by unfold stH; rw [hDi, h7]
        rw [hs] at hh
        have hs' : stH D' false v0 v1 = [pl2 false v0 v1] := by unfold stH; rw [hD' 6, hD' 7, hD' 8, hD' 9]; simp only [Nat.reduceEqDiff, ↓reduceIte]; rw [h7, h8] <;> rfl
        refine ⟨_, _, q3 _, al, false, ?_⟩
        rw [q2]
        refine ⟨?_, ?_, ?_, ?_, ?_, ?_, ?_, ?_, ?_, ?_, ?_, ?_, ?_, ?_⟩
        all_goals try simp only [hD', updO_some, upd_at, Nat.reduceEqDiff, ↓reduceIte]
        all_goals first
          | (intros; trivial)
          | (intros; rfl)
          | exact J.f0
          | exact J.f1
          | exact J.f2
          | exact J.f3
          | exact J.f4
          | exact J.f5
          | exact J.c8
          | exact J.c9
          | (intro q; rw [h7] at q; cases q; done)
          | (intro t n1 n2 n3 n4 n5 n6 n7 n8; rw [if_neg (by assumption)]; exact J.fo t n1 n2 n3 n4 n5 n6 n7 n8)
          | (intro _ q; rw [h7] at q; cases q; done)
          | (intro _; rw [hh]; simp; done)
          | (intro q; exact J.f6 q)
          | (rw [hs', hh]; simp; done)
          | (intro _; exact h7)
          | skip
        trace_state
      | true =>
        have hp1 := J.c6 h7 hDi
        subst hp1
        have hh := J.hp
        have hs : stH D true v0 v1 = [pl2 (D 8) v0 v1] := by unfold stH; rw [hDi, h7]
        rw [hs] at hh
        have hs' : stH D' true v0 v1 = [pl2 (D 8) v0 v1, pl2 false v0 v1] := by unfold stH; rw [hD' 6, hD' 7, hD' 8, hD' 9]; simp only [Nat.reduceEqDiff, ↓reduceIte]; rw [h7, h8] <;> rfl
        refine ⟨_, _, q3 _, al, true, ?_⟩
        rw [q2]
        refine ⟨?_, ?_, ?_, ?_, ?_, ?_, ?_, ?_, ?_, ?_, ?_, ?_, ?_, ?_⟩
        all_goals try simp only [hD', updO_some, upd_at, Nat.reduceEqDiff, ↓reduceIte]
        all_goals first
          | (intros; trivial)
          | (intros; rfl)
          | exact J.f0
          | exact J.f1
          | exact J.f2
          | exact J.f3
          | exact J.f4
          | exact J.f5
          | exact J.f6
          | exact J.c8
          | exact J.c9
          | (intro q; rw [h7] at q; cases q; done)
          | (intro t n1 n2 n3 n4 n5 n6 n7 n8; rw [if_neg (by assumption)]; exact J.fo t n1 n2 n3 n4 n5 n6 n7 n8)
          | (intro _ q; rw [h7] at q; cases q; done)
          | (intro _; rw [hh]; simp; done)
          | (intro q; exact J.f6 q)
          | (rw [hs', hh]; simp; done)
          | (intro _; exact h7)
          | skip
        trace_state
    · obtain ⟨q1, q2, q3⟩ := op_is ho (op := .store 126 (.tmp 5) (.tmp 16)) (d := none) (by rw [hops]; rfl)
      have ka := J.f6 (depB_at d86 ho hdep)
      have kv := J.f2 (depB_at d82 ho hdep)
      have kD := depB_at d86 ho hdep
      have hh := J.hp
      have main : ∀ (b : Nat), e1 5 = .pointer (some ⟨b, 0, none⟩) → H.length ≤ b → h1[b]? = some (pl2 false v0 v1) → h1.set b (pl2 true v0 v1) = H ++ stH D' p v0 v1 → ∃ v h', wants ops e1 o = true ∧ aop Try.prog ro C o.op e1 h1 = some (v, h') ∧ ∃ p, J3 e H x v0 v1 p D' (updO e1 o.dst v) h' := by
        intro b kb hb hg hset
        have pt : put ro h1 b 0 2 (.agg ⟨[.int .i64 v0, .int .i64 v1]⟩) = some (h1.set b (pl2 true v0 v1)) := put2 (u := .int .i64 0) (v := .int .i64 0) hg (by omega) rfl rfl
        refine ⟨undef, H ++ stH D' p v0 v1, q3 _, ?_, p, ?_⟩
        · rw [q1]
          simp only [aop, ov, kb, kv]
          rw [stv_put tsz126, pt, hset]
          rfl
        · rw [q2]
          refine ⟨?_, ?_, ?_, ?_, ?_, ?_, ?_, ?_, ?_, ?_, ?_, ?_, ?_, ?_⟩
          all_goals try simp only [hD', updO_none, Nat.reduceEqDiff, ↓reduceIte]
          all_goals first
            | (intros; trivial)
            | exact J.f0
            | exact J.f1
            | exact J.f2
            | exact J.f3
            | exact J.f4
            | exact J.f5
            | exact J.f6
            | exact J.f7
            | exact J.fo
            | exact J.c6
            | exact J.c7
            | exact J.c8
            | exact J.c9
            | (intro _; exact kD)
            | rfl
      have hset' : ∀ (d : Bool), stH D' d v0 v1 = (match D 7 with | true => if d then [pl2 true v0 v1, pl2 (D 9) v0 v1] else [pl2 (D 9) v0 v1, pl2 true v0 v1] | false => [pl2 true v0 v1]) := fun d => by
        unfold stH
        rw [hD' 6, hD' 7, hD' 8, hD' 9]
        simp only [Nat.reduceEqDiff, ↓reduceIte]
        rw [kD]
        cases D 7 <;> rfl
      have hold : stH D p v0 v1 = (match D 7 with | true => if p then [pl2 false v0 v1, pl2 (D 9) v0 v1] else [pl2 (D 9) v0 v1, pl2 false v0 v1] | false => [pl2 false v0 v1]) := by
        unfold stH
        rw [kD, hDi]
        cases D 7 <;> rfl
      rw [hold] at hh
      cases h7 : D 7 with
      | false =>
        have hp1 := J.c6 kD h7
        subst hp1
        rw [h7] at hh
        refine main H.length ka (Nat.le_refl _) ?_ ?_
        · rw [hh]; simp
        · rw [hset', h7, hh]; simp
      | true =>
        rw [h7] at hh
        cases p with
        | true =>
          refine main (H.length + 0) ka (by omega) ?_ ?_
          · rw [hh]; simp
          · rw [hset', h7, hh]; simp
        | false =>
          refine main (H.length + 1) ka (by omega) ?_ ?_
          · rw [hh]; simp
          · rw [hset', h7, hh]; simp
    · obtain ⟨q1, q2, q3⟩ := op_is ho (op := .store 126 (.tmp 6) (.tmp 19)) (d := none) (by rw [hops]; rfl)
      have ka := J.f7 (depB_at d97 ho hdep)
      have kv := J.f5 (depB_at d95 ho hdep)
      have kD := depB_at d97 ho hdep
      have hh := J.hp
      have main : ∀ (b : Nat), e1 6 = .pointer (some ⟨b, 0, none⟩) → H.length ≤ b → h1[b]? = some (pl2 false v0 v1) → h1.set b (pl2 true v0 v1) = H ++ stH D' p v0 v1 → ∃ v h', wants ops e1 o = true ∧ aop Try.prog ro C o.op e1 h1 = some (v, h') ∧ ∃ p, J3 e H x v0 v1 p D' (updO e1 o.dst v) h' := by
        intro b kb hb hg hset
        have pt : put ro h1 b 0 2 (.agg ⟨[.int .i64 v0, .int .i64 v1]⟩) = some (h1.set b (pl2 true v0 v1)) := put2 (u := .int .i64 0) (v := .int .i64 0) hg (by omega) rfl rfl
        refine ⟨undef, H ++ stH D' p v0 v1, q3 _, ?_, p, ?_⟩
        · rw [q1]
          simp only [aop, ov, kb, kv]
          rw [stv_put tsz126, pt, hset]
          rfl
        · rw [q2]
          refine ⟨?_, ?_, ?_, ?_, ?_, ?_, ?_, ?_, ?_, ?_, ?_, ?_, ?_, ?_⟩
          all_goals try simp only [hD', updO_none, Nat.reduceEqDiff, ↓reduceIte]
          all_goals first
            | (intros; trivial)
            | exact J.f0
            | exact J.f1
            | exact J.f2
            | exact J.f3
            | exact J.f4
            | exact J.f5
            | exact J.f6
            | exact J.f7
            | exact J.fo
            | exact J.c6
            | exact J.c7
            | exact J.c8
            | exact J.c9
            | (intro _; exact kD)
            | rfl
      have hset' : ∀ (d : Bool), stH D' d v0 v1 = (match D 6 with | true => if d then [pl2 (D 8) v0 v1, pl2 true v0 v1] else [pl2 true v0 v1, pl2 (D 8) v0 v1] | false => [pl2 true v0 v1]) := fun d => by
        unfold stH
        rw [hD' 6, hD' 7, hD' 8, hD' 9]
        simp only [Nat.reduceEqDiff, ↓reduceIte]
        rw [kD]
        cases D 6 <;> rfl
      have hold : stH D p v0 v1 = (match D 6 with | true => if p then [pl2 (D 8) v0 v1, pl2 false v0 v1] else [pl2 false v0 v1, pl2 (D 8) v0 v1] | false => [pl2 false v0 v1]) := by
        unfold stH
        rw [kD, hDi]
        cases D 6 <;> rfl
      rw [hold] at hh
      cases h7 : D 6 with
      | false =>
        have hp1 := J.c7 kD h7
        subst hp1
        rw [h7] at hh
        refine main H.length ka (Nat.le_refl _) ?_ ?_
        · rw [hh]; simp
        · rw [hset', h7, hh]; simp
      | true =>
        rw [h7] at hh
        cases p with
        | true =>
          refine main (H.length + 1) ka (by omega) ?_ ?_
          · rw [hh]; simp
          · rw [hset', h7, hh]; simp
        | false =>
          refine main (H.length + 0) ka (by omega) ?_ ?_
          · rw [hh]; simp
          · rw [hset', h7, hh]; simp
  obtain ⟨C, hC⟩ : ∃ C, C = callN Try.prog ro X 0 := ⟨_, rfl⟩
  have hI : ∃ p, J3 e H x v0 v1 p (fun j => decide (j < 0)) e H := ⟨true, hI0 _ (fun j => by simp)⟩
  obtain ⟨⟨e2, h2⟩, t1, p, J⟩ := text_inv (P := Try.prog) (ro := ro) (C := C) hE (I := fun D e' h' => ∃ p, J3 e H x v0 v1 p D e' h') (step C) 10 0 e H (by omega) hI
  rw [List.drop_zero] at t1
  have J : J3 e H x v0 v1 p (fun j => decide (j < ops.size)) e2 h2 := J
  have all : ∀ {q' : Env × Heap} {p' : Bool} {D : Nat → Bool}, (∀ i, i < 10 → D i = true) → J3 e H x v0 v1 p' D q'.1 q'.2 → q'.2 = H ++ [pl2 true v0 v1, pl2 true v0 v1] := fun {q' p' D} hD J' => by
    rw [J'.hp]
    unfold stH
    rw [hD 6 (by decide), hD 7 (by decide), hD 8 (by decide), hD 9 (by decide)]
    cases p' <;> rfl
  have dT : ∀ i, i < 10 → (fun j => decide (j < ops.size)) i = true := fun i hi => by rw [hsz]; exact decide_eq_true hi
  have hh2 := all (q' := (e2, h2)) dT J
  refine WG_perm (e' := e2) (h' := h2) ⟨0, extsEnd_of hE _ _ (by simp) (by rw [Array.toList_replicate, List.countP_replicate]; split <;> omega), by rw [← hC]; exact t1, fun σ hσ => ?_⟩ ?_
  · rw [← hC]
    obtain ⟨q', k1, k2⟩ := perm_inv (P := Try.prog) (ro := ro) (C := C) hE (I := fun D e' h' => ∃ p, J3 e H x v0 v1 p D e' h') (K := fun e' h' => Equ Try.prog ro e H (e', h') (e2, h2)) (step C) (fun D e' h' hI' hD => by
      obtain ⟨p', J'⟩ := hI'
      have hh' := all (q' := (e', h')) (fun i hi => hD i (by omega)) J'
      simp only at hh' hh2
      rw [hh', hh2]
      obtain ⟨b, o, m, q, rfl, hb⟩ := hx
      refine Swap.equ (N := 0) (π := fun k => if p = p' then k else 1 - k) (σ := fun k => if p = p' then k else 1 - k) ⟨rfl, ?_, ?_, ?_, fun t => ?_⟩ hro
      · intro k hk
        have hk : k < 2 := hk
        cases p <;> cases p' <;> simp <;> omega
      · intro k hk
        have hk : k < 2 := hk
        cases p <;> cases p' <;> simp <;> omega
      · intro k A hk hA
        have hk : k < 2 := hk
        have hA' : A = pl2 true v0 v1 := by
          have : k = 0 ∨ k = 1 := by omega
          rcases this with rfl | rfl <;> simpa using hA.symm
        subst hA'
        refine ⟨pl2 true v0 v1, ?_, rfl, Rens.ints [v0, v1]⟩
        have : k = 0 ∨ k = 1 := by omega
        rcases this with rfl | rfl <;> cases p <;> cases p' <;> rfl
      · have old : ∀ {oo len cap}, Ren (fun b => if b < H.length then b else H.length + (if p = p' then (b - H.length) else 1 - (b - H.length))) (.slice (some ⟨b, oo, none⟩) len cap) (.slice (some ⟨b, oo, none⟩) len cap) := .slc _ _ _ _ _ (by show b = if b < H.length then _ else _; rw [if_pos hb])
        have oldp : ∀ {oo}, Ren (fun b => if b < H.length then b else H.length + (if p = p' then (b - H.length) else 1 - (b - H.length))) (.pointer (some ⟨b, oo, none⟩)) (.pointer (some ⟨b, oo, none⟩)) := .ptr _ _ _ (by show b = if b < H.length then _ else _; rw [if_pos hb])
        have D' : ∀ i, i < 10 → D i = true := fun i hi => hD i (by omega)
        by_cases n1 : t = 14
        · subst n1; rw [J'.f0 (D' 0 (by decide)), J.f0 (dT 0 (by decide))]; exact .inr old
        by_cases n2 : t = 15
        · subst n2; rw [J'.f1 (D' 1 (by decide)), J.f1 (dT 1 (by decide))]; exact .inr oldp
        by_cases n3 : t = 16
        · subst n3; rw [J'.f2 (D' 2 (by decide)), J.f2 (dT 2 (by decide))]; exact .inr (.agg _ _ (Rens.ints [v0, v1]))
        by_cases n4 : t = 17
        · subst n4; rw [J'.f3 (D' 3 (by decide)), J.f3 (dT 3 (by decide))]; exact .inr old
        by_cases n5 : t = 18
        · subst n5; rw [J'.f4 (D' 4 (by decide)), J.f4 (dT 4 (by decide))]; exact .inr oldp
        by_cases n6 : t = 19
        · subst n6; rw [J'.f5 (D' 5 (by decide)), J.f5 (dT 5 (by decide))]; exact .inr (.agg _ _ (Rens.ints [v0, v1]))
        by_cases n7 : t = 5
        · subst n7; rw [J'.f6 (D' 6 (by decide)), J.f6 (dT 6 (by decide))]
          refine .inr (.ptr _ _ _ ?_)
          cases p <;> cases p' <;> simp
        by_cases n8 : t = 6
        · subst n8; rw [J'.f7 (D' 7 (by decide)), J.f7 (dT 7 (by decide))]
          refine .inr (.ptr _ _ _ ?_)
          cases p <;> cases p' <;> simp
        exact .inl ⟨J'.fo t n1 n2 n3 n4 n5 n6 n7 n8, J.fo t n1 n2 n3 n4 n5 n6 n7 n8⟩) ops.size (Array.replicate ops.size false) e H (by simp) (extsEnd_of hE _ _ (by simp) (by rw [Array.toList_replicate, List.countP_replicate]; split <;> omega)) ⟨true, hI0 _ (fun j => by
          rw [Array.getD_eq_getD_getElem?, Array.getElem?_replicate]
          split <;> rfl)⟩ σ hσ
    exact ⟨q', k1, k2⟩
  · simp only at hh2
    subst hh2
    exact k e2 p (fun t n1 n2 n3 n4 n5 n6 n7 n8 => J.fo t n1 n2 n3 n4 n5 n6 n7 n8) (J.f6 (dT 6 (by decide))) (J.f7 (dT 7 (by decide)))
theorem stv_set {P : Program} {h h' : Heap} {t : TypeId} {b o : Nat} {v : Value} (hs : stv P ro h t (.pointer (some ⟨b, o, none⟩)) v = some h') : ∃ C, h' = h.set b C := by
  unfold stv at hs
  simp only at hs
  split at hs
  · cases hb : h[b]? with
    | none => rw [hb] at hs; simp at hs
    | some B =>
      rw [hb] at hs
      simp only [Option.bind_some] at hs
      split at hs
      · exact ⟨_, (Option.some.inj hs).symm⟩
      · cases hs
  · cases hs
theorem ld_set_ne {P : Program} {h : Heap} {t : TypeId} {b b' o : Nat} {C : Blk} (hne : b ≠ b') : ld P (h.set b C) t (.pointer (some ⟨b', o, none⟩)) = ld P h t (.pointer (some ⟨b', o, none⟩)) := by
  unfold ld
  simp only
  rw [List.getElem?_set_ne hne]
theorem ex21 {P : Program} {C : Fns} {ops : Array Oper} {e : Env} {h : Heap} {q : Env × Heap} (hr : Sim.aops P ro C ops ops.toList e h = some q) (h0 : loudAt ops 0 = false) (h1 : loudAt ops 1 = false) {o0 o1 o2 : Oper} {d d1 s s2 b o b2 oo : Nat} {T T2 : TypeId} {y : Operand}
    (ho0 : ops[0]? = some o0) (q0 : o0.dst = some d) (ho1 : ops[1]? = some o1) (q1 : o1.op = .load T (.tmp s) ∧ o1.dst = some d1 ∧ ∀ e : Env, wants ops e o1 = true) (ho2 : ops[2]? = some o2) (q2 : o2.op = .store T2 (.tmp s2) y ∧ o2.dst = none ∧ ∀ e : Env, wants ops e o2 = true)
    (n1 : s ≠ d) (n2 : s2 ≠ d) (n3 : s2 ≠ d1) (es : e s = .pointer (some ⟨b, o, none⟩)) (es2 : e s2 = .pointer (some ⟨b2, oo, none⟩)) (hne : b2 ≠ b) :
    aop P ro C o1.op (rn P ro C ops e h 1).1 (rn P ro C ops e h 2).2 = some ((stp P ro C ops o1 (rn P ro C ops e h 1).1 (rn P ro C ops e h 1).2).1, (rn P ro C ops e h 2).2) ∧ aop P ro C o1.op (rn P ro C ops e h 1).1 (rn P ro C ops e h 3).2 = some ((stp P ro C ops o1 (rn P ro C ops e h 1).1 (rn P ro C ops e h 1).2).1, (rn P ro C ops e h 3).2) := by
  have s0 := rn_still hr 0 h0
  have s1 := rn_still hr 1 h1
  have e1 : (rn P ro C ops e h 1).1 = updO (rn P ro C ops e h 0).1 o0.dst (stp P ro C ops o0 (rn P ro C ops e h 0).1 (rn P ro C ops e h 0).2).1 := rn_succ ho0
  have e2 : (rn P ro C ops e h 2).1 = updO (rn P ro C ops e h 1).1 o1.dst (stp P ro C ops o1 (rn P ro C ops e h 1).1 (rn P ro C ops e h 1).2).1 := rn_succ ho1
  have r1 : aop P ro C o1.op (rn P ro C ops e h 1).1 (rn P ro C ops e h 1).2 = some ((stp P ro C ops o1 (rn P ro C ops e h 1).1 (rn P ro C ops e h 1).2).1, (rn P ro C ops e h 2).2) := by
    rcases (run_steps hr).1 1 o1 ho1 with ⟨_, k⟩ | ⟨k, _⟩
    · exact k
    · rw [q1.2.2] at k; cases k
  have r2 : aop P ro C o2.op (rn P ro C ops e h 2).1 (rn P ro C ops e h 2).2 = some ((stp P ro C ops o2 (rn P ro C ops e h 2).1 (rn P ro C ops e h 2).2).1, (rn P ro C ops e h 3).2) := by
    rcases (run_steps hr).1 2 o2 ho2 with ⟨_, k⟩ | ⟨k, _⟩
    · exact k
    · rw [q2.2.2] at k; cases k
  have s1 : (rn P ro C ops e h 2).2 = (rn P ro C ops e h 1).2 := s1
  have z0 : (rn P ro C ops e h 0).1 = e := rfl
  have v1 : (rn P ro C ops e h 1).1 s = .pointer (some ⟨b, o, none⟩) := by rw [e1, q0, updO_some, upd_at, if_neg n1, z0]; exact es
  have v2 : (rn P ro C ops e h 2).1 s2 = .pointer (some ⟨b2, oo, none⟩) := by rw [e2, q1.2.1, updO_some, upd_at, if_neg n3, e1, q0, updO_some, upd_at, if_neg n2, z0]; exact es2
  generalize (stp P ro C ops o1 (rn P ro C ops e h 1).1 (rn P ro C ops e h 1).2).1 = V at *
  generalize (stp P ro C ops o2 (rn P ro C ops e h 2).1 (rn P ro C ops e h 2).2).1 = V2 at *
  rw [s1] at r1 r2 ⊢
  refine ⟨r1, ?_⟩
  generalize (rn P ro C ops e h 3).2 = H3 at *
  rw [q1.1] at r1 ⊢
  rw [q2.1] at r2
  simp only [aop, ov, v1] at r1 ⊢
  simp only [aop, ov, v2, Option.map_eq_some_iff, Prod.mk.injEq] at r2
  obtain ⟨H', k1, _, rfl⟩ := r2
  obtain ⟨B, hB⟩ := stv_set k1
  rw [hB, ld_set_ne hne]
  simp only [Option.map_eq_some_iff, Prod.mk.injEq] at r1 ⊢
  obtain ⟨w, k2, k3, _⟩ := r1
  exact ⟨w, k2, k3, trivial⟩
set_option maxHeartbeats 8000000 in
theorem Box_w (hX : XN X) {c : Code} (hc : Try.f98.body = some c) (hI : IS lo hi 2 h x n l) (ht : tyP ro h x) (hg : goodP n l) (hro : ro ≤ h.length) (hlo : hi ≤ h.length) :
    WG Try.prog ro X c (EndP Try.prog Try.f98 h fun r h' => r = .tuple ⟨[.agg ⟨[.int .i64 (mnJ l 0 n), .int .i64 (mnJ l 1 n)]⟩, .agg ⟨[.int .i64 (mxJ l 0 n), .int .i64 (mxJ l 1 n)]⟩, .bool true]⟩ ∧ Pfx h h') (entry [x]) h := by
  cases hc
  have n1 := hg.n1
  have n16 := hg.n16
  obtain ⟨H0, hH0⟩ : ∃ H0, H0 = h ++ [(⟨126, [.int .i64 0, .int .i64 0]⟩ : Blk)] ++ [(⟨126, [.int .i64 0, .int .i64 0]⟩ : Blk)] := ⟨_, rfl⟩
  have p0 : Pfx h H0 := by rw [hH0]; exact (Pfx.refl h).snoc.snoc
  have l0 : H0.length = h.length + 2 := by rw [hH0]; simp
  have D0 : H0[h.length]? = some ⟨126, [.int .i64 0, .int .i64 0]⟩ := by rw [hH0, get_skip (by simp)]; exact get_last rfl
  have D1 : H0[h.length + 1]? = some ⟨126, [.int .i64 0, .int .i64 0]⟩ := by rw [hH0]; exact get_last (by simp)
  have hI0 := hI.pre p0
  have vp := vPlaces_r (ro := ro) hX hI0 (ht.pre hI (by omega) p0) hg (by omega)
  rw [hH0] at vp
  (repeat' first | simp -dsimp (disch := first | omega | assumption | (refine OkS.sto ?_ (by omega); first | assumption | (refine OkS.sto ?_ (by omega); first | assumption | (refine OkS.sto ?_ (by omega); first | assumption | (refine OkS.sto ?_ (by omega); first | assumption | (refine OkS.sto ?_ (by omega); first | assumption | (refine OkS.sto ?_ (by omega); first | assumption)))))) | exact Pfx.refl _ | (apply Pfx.snoc; repeat (first | exact Pfx.refl _ | assumption | apply Pfx.snoc)) | with_unfolding_all exact of_eq_true (eq_true rfl) | (simp only [List.length_append, List.length_cons, List.length_nil]; omega)) only [↓gpre0, ↓wpre1, ↓reduceIte, Int.reduceToNat, Nat.reduceAdd, Nat.reduceMul, Nat.reduceEqDiff, wpost0, wpost1, wpost2, wpost3, wpost4, ite_self, ite_true, ite_false, if_true, if_false, tze126, un_not, xbld126, xst126, xiad54, xld126, xlen54, bin_lss, xfad126_0, xld2, blt_minI, xfad126_1, xbld126_0_1, blt_maxI, bin_add, fr98, wrap_int, wrap_u8, iteP_yes, iteP_no, vp] | refine iteP_two (fun hc hd => ?_) (fun hc hd => ?_) | refine iteP_intro (fun hc => ?_) (fun hc => ?_))
  rw [← hH0]
  have hxs : ∃ b o m q, x = .slice (some ⟨b, o, none⟩) m q ∧ b < H0.length := by
    rcases hI.2 with ⟨rfl, rfl⟩ | ⟨b, o, cap, Bk, rfl, h1, h2, _⟩
    · omega
    · exact ⟨b, o, n, cap, rfl, by omega⟩
  have hia : iadr Try.prog 54 x (.int .i64 0) = some (ea x 0) := hI.iad Try.underlying54 tsz126 .i64 (i := 0) (by omega) (by omega)
  have hld : ∀ G, Pfx H0 G → ld Try.prog G 126 (ea x 0) = some (.agg ⟨[.int .i64 (nth l 0), .int .i64 (nth l 1)]⟩) := fun G pG => by
    have := IS.ldm (hI0.pre pG) tsz126 tag126 (c := 0) (m := 2) (by omega) (by omega)
    rw [this]; rfl
  refine r3_box (c := _) rfl (by kernel_rfl) (x := x) (v0 := nth l 0) (v1 := nth l 1) (by omega) (by simp only [updO_some, updO_none, upd_at, Nat.reduceEqDiff, ↓reduceIte, entry_at, List.getD_cons_zero]) hxs hia hld ?_
  intro e1 p fo f5 f6
  have g0 : e1 0 = x := by rw [fo 0 (by decide) (by decide) (by decide) (by decide) (by decide) (by decide) (by decide) (by decide)]; simp only [updO_some, updO_none, upd_at, Nat.reduceEqDiff, ↓reduceIte, entry_at, List.getD_cons_zero]
  have g2 : e1 2 = .pointer (some ⟨h.length, 0, none⟩) := by rw [fo 2 (by decide) (by decide) (by decide) (by decide) (by decide) (by decide) (by decide) (by decide)]; simp only [updO_some, updO_none, upd_at, Nat.reduceEqDiff, ↓reduceIte]
  have g3 : e1 3 = .pointer (some ⟨h.length + 1, 0, none⟩) := by rw [fo 3 (by decide) (by decide) (by decide) (by decide) (by decide) (by decide) (by decide) (by decide)]; simp only [updO_some, updO_none, upd_at, Nat.reduceEqDiff, ↓reduceIte]; simp
  obtain ⟨G0, hG0⟩ : ∃ G, G = H0 ++ [pl2 true (nth l 0) (nth l 1), pl2 true (nth l 0) (nth l 1)] := ⟨_, rfl⟩
  have pG : Pfx H0 G0 := by rw [hG0]; exact (List.take_left : (H0 ++ _).take H0.length = H0)
  have lG : G0.length = H0.length + 2 := by rw [hG0]; simp
  obtain ⟨a, ha⟩ : ∃ a, a = H0.length + (if p then 0 else 1) := ⟨_, rfl⟩
  obtain ⟨b, hb⟩ : ∃ b, b = H0.length + (if p then 1 else 0) := ⟨_, rfl⟩
  have ab : a ≠ b ∧ H0.length ≤ a ∧ H0.length ≤ b ∧ a < H0.length + 2 ∧ b < H0.length + 2 := by cases p <;> simp at ha hb <;> omega
  have Da : G0[a]? = some ⟨126, [.int .i64 (nth l 0), .int .i64 (nth l 1)]⟩ := by rw [hG0, ha]; cases p <;> simp <;> rfl
  have Db : G0[b]? = some ⟨126, [.int .i64 (nth l 0), .int .i64 (nth l 1)]⟩ := by rw [hG0, hb]; cases p <;> simp <;> rfl
  rw [← ha] at f5
  rw [← hb] at f6
  rw [← hG0]
  clear fo ha hb hG0 hH0 vp hxs hia hld
  obtain ⟨ab1, ab2, ab3, ab4, ab5⟩ := ab
  (repeat' first | simp -dsimp (disch := first | omega | assumption | (refine OkS.sto ?_ (by omega); first | assumption | (refine OkS.sto ?_ (by omega); first | assumption | (refine OkS.sto ?_ (by omega); first | assumption | (refine OkS.sto ?_ (by omega); first | assumption | (refine OkS.sto ?_ (by omega); first | assumption | (refine OkS.sto ?_ (by omega); first | assumption)))))) | exact Pfx.refl _ | (apply Pfx.snoc; repeat (first | exact Pfx.refl _ | assumption | apply Pfx.snoc)) | with_unfolding_all exact of_eq_true (eq_true rfl) | (simp only [List.length_append, List.length_cons, List.length_nil]; omega)) only [↓gpre0, ↓wpre1, ↓reduceIte, Int.reduceToNat, Nat.reduceAdd, Nat.reduceMul, Nat.reduceEqDiff, wpost0, wpost1, wpost2, wpost3, wpost4, ite_self, ite_true, ite_false, if_true, if_false, tze126, un_not, xbld126, xst126, xiad54, xld126, xlen54, bin_lss, xfad126_0, xld2, blt_minI, xfad126_1, xbld126_0_1, blt_maxI, bin_add, fr98, wrap_int, wrap_u8, iteP_yes, iteP_no, g0, g2, g3, f5, f6, hI.len Try.underlying54] | refine iteP_two (fun hc hd => ?_) (fun hc hd => ?_) | refine iteP_intro (fun hc => ?_) (fun hc => ?_))
  refine loopG_exit 0 (fun e h2 => Pfx H0 h2 ∧ H0.length + 2 ≤ h2.length ∧ h2[a]? = some ⟨126, [.int .i64 (mnJ l 0 n), .int .i64 (mnJ l 1 n)]⟩ ∧ h2[b]? = some ⟨126, [.int .i64 (mxJ l 0 n), .int .i64 (mxJ l 1 n)]⟩ ∧ e 2 = .pointer (some ⟨h.length, 0, none⟩) ∧ e 3 = .pointer (some ⟨h.length + 1, 0, none⟩) ∧ e 5 = .pointer (some ⟨a, 0, none⟩) ∧ e 6 = .pointer (some ⟨b, 0, none⟩)) ?_ ?_
  · refine loopG_rounds (fun mm e h2 => ∃ i : Nat, mm = n - i ∧ i ≤ n ∧ Pfx H0 h2 ∧ H0.length + 2 ≤ h2.length ∧ h2[a]? = some ⟨126, [.int .i64 (mnJ l 0 i), .int .i64 (mnJ l 1 i)]⟩ ∧ h2[b]? = some ⟨126, [.int .i64 (mxJ l 0 i), .int .i64 (mxJ l 1 i)]⟩ ∧ e 2 = .pointer (some ⟨h.length, 0, none⟩) ∧ e 3 = .pointer (some ⟨h.length + 1, 0, none⟩) ∧ e 5 = .pointer (some ⟨a, 0, none⟩) ∧ e 6 = .pointer (some ⟨b, 0, none⟩) ∧ e 20 = x ∧ e 21 = .int .i64 n ∧ e 22 = .int .i64 i) _ ⟨0, rfl, ?_⟩ ?_
    · simp only [updO_at, updO_not, entry_at, List.getD_cons_zero, List.getD_cons_succ, ↓reduceIte, Nat.reduceEqDiff, true_and, and_true]
      have q0 : H0.length + 2 ≤ G0.length := by omega
      (repeat' (first | assumption | rfl | omega | exact pG | exact q0 | exact Da | exact Db | exact Nat.zero_le _ | refine And.intro ?_ ?_))
    · clear g0 g2 g3 f5 f6
      rintro mm e h2 ⟨i, hmm, hle, hp, hlen, Ma, Mb, g2, g3, g5, g6, g20, g21, g22⟩
      have hks : (i : Int) + 1 = ((i + 1 : Nat) : Int) := by omega
      by_cases hin : i < n
      · have hI2 := hI0.pre hp
        obtain ⟨U, hU⟩ : ∃ u, u = nth l (i * 2) := ⟨_, rfl⟩
        obtain ⟨V, hV⟩ : ∃ u, u = nth l (i * 2 + 1) := ⟨_, rfl⟩
        obtain ⟨M0, hM0⟩ : ∃ m, m = mnJ l 0 (i + 1) := ⟨_, rfl⟩
        obtain ⟨M1, hM1⟩ : ∃ m, m = mnJ l 1 (i + 1) := ⟨_, rfl⟩
        obtain ⟨M2, hM2⟩ : ∃ m, m = mxJ l 0 (i + 1) := ⟨_, rfl⟩
        obtain ⟨M3, hM3⟩ : ∃ m, m = mxJ l 1 (i + 1) := ⟨_, rfl⟩
        have m0 : min (mnJ l 0 i) U = M0 := by rw [hU, hM0]; rfl
        have m1 : min (mnJ l 1 i) V = M1 := by rw [hV, hM1]; rfl
        have m2 : max (mxJ l 0 i) U = M2 := by rw [hU, hM2]; rfl
        have m3 : max (mxJ l 1 i) V = M3 := by rw [hV, hM3]; rfl
        have Ea : (h2 ++ [(⟨126, [.int .i64 U, .int .i64 V]⟩ : Blk)])[a]? = some ⟨126, [.int .i64 (mnJ l 0 i), .int .i64 (mnJ l 1 i)]⟩ := by rw [get_skip (by omega)]; exact Ma
        have Eb : (h2 ++ [(⟨126, [.int .i64 U, .int .i64 V]⟩ : Blk)])[b]? = some ⟨126, [.int .i64 (mxJ l 0 i), .int .i64 (mxJ l 1 i)]⟩ := by rw [get_skip (by omega)]; exact Mb
        have Et : (h2 ++ [(⟨126, [.int .i64 U, .int .i64 V]⟩ : Blk)])[h2.length]? = some ⟨126, [.int .i64 U, .int .i64 V]⟩ := get_last rfl
        have c1 := (cellb (o := 0) Ea).trans (show _ = some (Value.int .i64 (mnJ l 0 i)) from rfl)
        have c2 := (cellb (o := 1) Ea).trans (show _ = some (Value.int .i64 (mnJ l 1 i)) from rfl)
        have c3 := (cellb (o := 0) Et).trans (show _ = some (Value.int .i64 U) from rfl)
        have c4 := (cellb (o := 1) Et).trans (show _ = some (Value.int .i64 V) from rfl)
        have pt1 : put ro (h2 ++ [(⟨126, [.int .i64 U, .int .i64 V]⟩ : Blk)]) a 0 2 (.agg ⟨[.int .i64 M0, .int .i64 M1]⟩) = some _ := put2 Ea (by omega) rfl rfl
        have Fb := (List.getElem?_set_ne (a := (⟨126, [.int .i64 M0, .int .i64 M1]⟩ : Blk)) ab1).trans Eb
        have Ft := (List.getElem?_set_ne (a := (⟨126, [.int .i64 M0, .int .i64 M1]⟩ : Blk)) (show a ≠ h2.length by omega)).trans Et
        have c5 := (cellb (o := 0) Fb).trans (show _ = some (Value.int .i64 (mxJ l 0 i)) from rfl)
        have c6 := (cellb (o := 1) Fb).trans (show _ = some (Value.int .i64 (mxJ l 1 i)) from rfl)
        have c7 := (cellb (o := 0) Ft).trans (show _ = some (Value.int .i64 U) from rfl)
        have c8 := (cellb (o := 1) Ft).trans (show _ = some (Value.int .i64 V) from rfl)
        have pt2 : put ro ((h2 ++ [(⟨126, [.int .i64 U, .int .i64 V]⟩ : Blk)]).set a ⟨126, [.int .i64 M0, .int .i64 M1]⟩) b 0 2 (.agg ⟨[.int .i64 M2, .int .i64 M3]⟩) = some _ := put2 Fb (by omega) rfl rfl
        (repeat' first | simp -dsimp (disch := first | omega | assumption | (refine OkS.sto ?_ (by omega); first | assumption | (refine OkS.sto ?_ (by omega); first | assumption | (refine OkS.sto ?_ (by omega); first | assumption | (refine OkS.sto ?_ (by omega); first | assumption | (refine OkS.sto ?_ (by omega); first | assumption | (refine OkS.sto ?_ (by omega); first | assumption)))))) | exact Pfx.refl _ | (apply Pfx.snoc; repeat (first | exact Pfx.refl _ | assumption | apply Pfx.snoc)) | with_unfolding_all exact of_eq_true (eq_true rfl) | (simp only [List.length_append, List.length_cons, List.length_nil]; omega)) only [↓gpre0, ↓wpre1, ↓reduceIte, Int.reduceToNat, Nat.reduceAdd, Nat.reduceMul, Nat.reduceEqDiff, wpost0, wpost1, wpost2, wpost3, wpost4, ite_self, ite_true, ite_false, if_true, if_false, tze126, un_not, xbld126, xst126, xiad54, xld126, xlen54, bin_lss, xfad126_0, xld2, blt_minI, xfad126_1, xbld126_0_1, blt_maxI, bin_add, fr98, wrap_int, wrap_u8, iteP_yes, iteP_no, g2, g3, g5, g6, g20, g21, g22, hI2.iad Try.underlying54 tsz126, IS.ldm hI2 tsz126 tag126, ints_2, ← hU, ← hV, c1, c2, c3, c4, c5, c6, c7, c8, blt_minI, blt_maxI, m0, m1, m2, m3, pt1, pt2] | refine iteP_two (fun hc hd => ?_) (fun hc hd => ?_) | refine iteP_intro (fun hc => ?_) (fun hc => ?_))
        refine ⟨n - (i + 1), by omega, i + 1, rfl, by omega, (hp.snoc.set (by omega)).set (by omega), by simp only [List.length_set, List.length_append]; omega, ?_, ?_, ?_⟩
        · rw [List.getElem?_set_ne (Ne.symm ab1), List.getElem?_set_self (by simp; omega), hM0, hM1]
        · rw [List.getElem?_set_self (by simp; omega), hM2, hM3]
        · (repeat' (first | assumption | rfl | omega | (rw [hks]) | refine And.intro ?_ ?_))
      · have ei : i = n := by omega
        subst ei
        (repeat' first | simp -dsimp (disch := first | omega | assumption | (refine OkS.sto ?_ (by omega); first | assumption | (refine OkS.sto ?_ (by omega); first | assumption | (refine OkS.sto ?_ (by omega); first | assumption | (refine OkS.sto ?_ (by omega); first | assumption | (refine OkS.sto ?_ (by omega); first | assumption | (refine OkS.sto ?_ (by omega); first | assumption)))))) | exact Pfx.refl _ | (apply Pfx.snoc; repeat (first | exact Pfx.refl _ | assumption | apply Pfx.snoc)) | with_unfolding_all exact of_eq_true (eq_true rfl) | (simp only [List.length_append, List.length_cons, List.length_nil]; omega)) only [↓gpre0, ↓wpre1, ↓reduceIte, Int.reduceToNat, Nat.reduceAdd, Nat.reduceMul, Nat.reduceEqDiff, wpost0, wpost1, wpost2, wpost3, wpost4, ite_self, ite_true, ite_false, if_true, if_false, tze126, un_not, xbld126, xst126, xiad54, xld126, xlen54, bin_lss, xfad126_0, xld2, blt_minI, xfad126_1, xbld126_0_1, blt_maxI, bin_add, fr98, wrap_int, wrap_u8, iteP_yes, iteP_no, g2, g3, g5, g6, g20, g21, g22] | refine iteP_two (fun hc hd => ?_) (fun hc hd => ?_) | refine iteP_intro (fun hc => ?_) (fun hc => ?_))
        exact ⟨hp, hlen, Ma, Mb⟩
  rintro e h2 ⟨hp, hlen, Ma, Mb, g2, g3, g5, g6⟩
  clear Da Db f5 f6
  (repeat' first | simp -dsimp (disch := first | omega | assumption | (refine OkS.sto ?_ (by omega); first | assumption | (refine OkS.sto ?_ (by omega); first | assumption | (refine OkS.sto ?_ (by omega); first | assumption | (refine OkS.sto ?_ (by omega); first | assumption | (refine OkS.sto ?_ (by omega); first | assumption | (refine OkS.sto ?_ (by omega); first | assumption)))))) | exact Pfx.refl _ | (apply Pfx.snoc; repeat (first | exact Pfx.refl _ | assumption | apply Pfx.snoc)) | with_unfolding_all exact of_eq_true (eq_true rfl) | (simp only [List.length_append, List.length_cons, List.length_nil]; omega)) only [↓gpre0, ↓wpre1, ↓reduceIte, Int.reduceToNat, Nat.reduceAdd, Nat.reduceMul, Nat.reduceEqDiff, wpost0, wpost1, wpost2, wpost3, wpost4, ite_self, ite_true, ite_false, if_true, if_false, tze126, un_not, xbld126, xst126, xiad54, xld126, xlen54, bin_lss, xfad126_0, xld2, blt_minI, xfad126_1, xbld126_0_1, blt_maxI, bin_add, fr98, wrap_int, wrap_u8, iteP_yes, iteP_no, g2, g3, g5, g6] | refine iteP_two (fun hc hd => ?_) (fun hc hd => ?_) | refine iteP_intro (fun hc => ?_) (fun hc => ?_))
  have Z0 : h2[h.length]? = some ⟨126, [.int .i64 0, .int .i64 0]⟩ := (hp.get (by omega)).trans D0
  have Z1 : h2[h.length + 1]? = some ⟨126, [.int .i64 0, .int .i64 0]⟩ := (hp.get (by omega)).trans D1
  generalize mnJ l 0 n = M0 at *
  generalize mnJ l 1 n = M1 at *
  generalize mxJ l 0 n = M2 at *
  generalize mxJ l 1 n = M3 at *
  have L1 : cells h2 a 0 2 = some (.agg ⟨[.int .i64 M0, .int .i64 M1]⟩) := cellsb (o := 0) (n := 2) Ma (by simp)
  have L2 : cells h2 b 0 2 = some (.agg ⟨[.int .i64 M2, .int .i64 M3]⟩) := cellsb (o := 0) (n := 2) Mb (by simp)
  have pt1 : put ro h2 h.length 0 2 (.agg ⟨[.int .i64 M0, .int .i64 M1]⟩) = some _ := put2 Z0 (by omega) rfl rfl
  obtain ⟨h3, hh3⟩ : ∃ h3, h3 = h2.set h.length (⟨126, [.int .i64 M0, .int .i64 M1]⟩ : Blk) := ⟨_, rfl⟩
  rw [← hh3] at pt1
  have Z1' : h3[h.length + 1]? = some ⟨126, [.int .i64 0, .int .i64 0]⟩ := by rw [hh3, List.getElem?_set_ne (by omega)]; exact Z1
  have pt2 : put ro h3 (h.length + 1) 0 2 (.agg ⟨[.int .i64 M2, .int .i64 M3]⟩) = some _ := put2 Z1' (by omega) rfl rfl
  obtain ⟨h4, hh4⟩ : ∃ h4, h4 = h3.set (h.length + 1) (⟨126, [.int .i64 M2, .int .i64 M3]⟩ : Blk) := ⟨_, rfl⟩
  rw [← hh4] at pt2
  have l3 : h3.length = h2.length := by rw [hh3]; simp
  have E0 : h4[h.length]? = some ⟨126, [.int .i64 M0, .int .i64 M1]⟩ := by rw [hh4, List.getElem?_set_ne (by omega), hh3, List.getElem?_set_self (by omega)]
  have E1 : h4[h.length + 1]? = some ⟨126, [.int .i64 M2, .int .i64 M3]⟩ := by rw [hh4, List.getElem?_set_self (by omega)]
  have R0 : cells h4 h.length 0 2 = some (.agg ⟨[.int .i64 M0, .int .i64 M1]⟩) := cellsb (o := 0) (n := 2) E0 (by simp)
  have R1 : cells h4 (h.length + 1) 0 2 = some (.agg ⟨[.int .i64 M2, .int .i64 M3]⟩) := cellsb (o := 0) (n := 2) E1 (by simp)
  have p4 : Pfx h h4 := by rw [hh4, hh3]; exact ((p0.trans hp).set (Nat.le_refl _)).set (by omega)
  refine WG_ex (ex := fun i j => i == 2 && j == 1) (by kernel_rfl) ?_ ?_
  · (repeat' first | simp -dsimp (disch := first | omega | assumption | (refine OkS.sto ?_ (by omega); first | assumption | (refine OkS.sto ?_ (by omega); first | assumption | (refine OkS.sto ?_ (by omega); first | assumption | (refine OkS.sto ?_ (by omega); first | assumption | (refine OkS.sto ?_ (by omega); first | assumption | (refine OkS.sto ?_ (by omega); first | assumption)))))) | exact Pfx.refl _ | (apply Pfx.snoc; repeat (first | exact Pfx.refl _ | assumption | apply Pfx.snoc)) | with_unfolding_all exact of_eq_true (eq_true rfl) | (simp only [List.length_append, List.length_cons, List.length_nil]; omega)) only [↓gpre0, ↓wpre1, ↓reduceIte, Int.reduceToNat, Nat.reduceAdd, Nat.reduceMul, Nat.reduceEqDiff, wpost0, wpost1, wpost2, wpost3, wpost4, ite_self, ite_true, ite_false, if_true, if_false, tze126, un_not, xbld126, xst126, xiad54, xld126, xlen54, bin_lss, xfad126_0, xld2, blt_minI, xfad126_1, xbld126_0_1, blt_maxI, bin_add, fr98, wrap_int, wrap_u8, iteP_yes, iteP_no, g2, g3, g5, g6, L1, L2, pt1, pt2, R0, R1, endH_not (show Sim.flat (.tuple ⟨[.agg ⟨[.int .i64 M0, .int .i64 M1]⟩, .agg ⟨[.int .i64 M2, .int .i64 M3]⟩, .bool true]⟩) = false from rfl)] | refine iteP_two (fun hc hd => ?_) (fun hc hd => ?_) | refine iteP_intro (fun hc => ?_) (fun hc => ?_))
    exact p4
  · intro C q hq i j pp hpp hi hex
    simp only [Bool.and_eq_true, beq_iff_eq] at hex
    obtain ⟨rfl, rfl⟩ := hex
    refine ex21 (ro := ro) (s := 6) (s2 := 2) (d := 49) (d1 := 50) (T := 126) (T2 := 126) (y := .tmp 49) hq (by kernel_rfl) (by kernel_rfl) (o0 := _) rfl rfl hpp (op_is (op := .load 126 (.tmp 6)) (d := some 50) hpp (by rfl)) (o2 := _) rfl ⟨rfl, rfl, fun _ => rfl⟩ (by decide) (by decide) (by decide) g6 g2 (by omega)
/-! ### As an external function -/
structure BI where
  lo : Nat
  hi : Nat
  n : Nat
  l : List Int
  x : Value
def preBox (ro : Nat) (i : BI) (args : List Value) (h : Heap) : Prop := args = [i.x] ∧ IS i.lo i.hi 2 h i.x i.n i.l ∧ tyP ro h i.x ∧ goodP i.n i.l ∧ i.hi ≤ h.length
def rBox (i : BI) (args : List Value) (h : Heap) (q : Value × Heap) : Prop := q.1 = .tuple ⟨[.agg ⟨[.int .i64 (mnJ i.l 0 i.n), .int .i64 (mnJ i.l 1 i.n)]⟩, .agg ⟨[.int .i64 (mxJ i.l 0 i.n), .int .i64 (mxJ i.l 1 i.n)]⟩, .bool true]⟩ ∧ Pfx h q.2
noncomputable def cBox : Code := (Try.f98.body).get rfl
theorem cBox_body : Try.f98.body = some cBox := (Option.some_get _).symm
noncomputable def xBox (ro : Nat) (X : Ext) : Ext := fun g => if g = 98 then some (fG Try.prog ro X Try.f98 cBox (RA (preBox ro) rBox)) else none
theorem xBox_ok {B : Base} (hX : XOk Try.prog ro B X) : XOk Try.prog ro B (xBox ro X) := fGX_ok mixed hX Try.func98 cBox_body (by decide) (by kernel_rfl)
theorem Box_c {X' : Ext} (hX : XN X) (hx : X' 98 = xBox ro X 98) (hI : IS lo hi 2 h x n l) (ht : tyP ro h x) (hg : goodP n l) (hro : ro ≤ h.length) (hlo : hi ≤ h.length) :
    CallR Try.prog ro X' 98 [x] h (fun r h' => r = .tuple ⟨[.agg ⟨[.int .i64 (mnJ l 0 n), .int .i64 (mnJ l 1 n)]⟩, .agg ⟨[.int .i64 (mxJ l 0 n), .int .i64 (mxJ l 1 n)]⟩, .bool true]⟩ ∧ Pfx h h') := by
  refine fG_callA (pre := preBox ro) (R := rBox) (hx.trans (by unfold xBox; rw [if_pos rfl])) (Nat.le_of_ble_eq_true rfl) (fun i hi => ?_) (⟨lo, hi, n, l, x⟩) ⟨rfl, hI, ht, hg, hlo⟩
  obtain ⟨lo', hi', n', l', x'⟩ := i
  obtain ⟨h1, h2, h3, h4, h5⟩ := hi
  have e : x = x' := by
    injection h1
  subst e
  exact Box_w hX cBox_body h2 h3 h4 hro h5
end Go.Proofs.Ytelogajobjflfaa.Sim

/- The law FnShapes. Lemmas only; no condition. -/
set_option linter.unusedSimpArgs false
set_option linter.unusedVariables false
set_option maxRecDepth 8000
namespace Go.Proofs.Ytelogajobjflfaa.Sim
open Go Go.RowKit Fl
variable {ro lo hi lo' hi' n : Nat} {X : Ext} {h : Heap} {x y : Value} {l : List Int} {u v : Int} {cd md : List UInt8}
noncomputable def xR0 : Ext := orX (soloX 186 (gInt .even)) xS0
set_option maxHeartbeats 16000000 in
theorem lawShape_c (hX : XN X) (hX0 : XN xR0) (hW : XDW xR0) (hA : XAbs X) (hE : X 186 = some (ext1 (gInt .even))) (hx : X 127 = xPl ro xR0 127) (hb : ∀ {lo hi n : Nat} {h : Heap} {x : Value} {l : List Int}, IS lo hi 2 h x n l → tyP ro h x → goodP n l → ro ≤ h.length → hi ≤ h.length → CallR Try.prog ro X 98 [x] h (fun r h' => r = .tuple ⟨[.agg ⟨[.int .i64 (mnJ l 0 n), .int .i64 (mnJ l 1 n)]⟩, .agg ⟨[.int .i64 (mxJ l 0 n), .int .i64 (mxJ l 1 n)]⟩, .bool true]⟩ ∧ Pfx h h')) (hV : VS lo hi 1 h x cd.length (cd.map u8v)) (hU : VS lo' hi' 1 h y md.length (md.map u8v)) (hhi : hi ≤ h.length) (hhi' : hi' ≤ h.length) (hro : ro ≤ h.length) (hl : cd.length ≤ 140737488351232) (hl' : md.length ≤ 140737488351232) :
    CallR Try.prog ro X 13 [x, y] h (fun r h' => r = .bool true) := by
  refine callR_of (hX _ rfl) Try.func13 rfl (by kernel_rfl) (Nat.le_of_ble_eq_true rfl) ?_
  by_cases hlong : (decide (48 < cd.length) || decide (48 < md.length)) = true
  · (repeat' first | simp -dsimp (disch := first | omega | assumption | (refine OkS.sto ?_ (by omega); first | assumption | (refine OkS.sto ?_ (by omega); first | assumption | (refine OkS.sto ?_ (by omega); first | assumption | (refine OkS.sto ?_ (by omega); first | assumption | (refine OkS.sto ?_ (by omega); first | assumption | (refine OkS.sto ?_ (by omega); first | assumption)))))) | exact Pfx.refl _ | (apply Pfx.snoc; repeat (first | exact Pfx.refl _ | assumption | apply Pfx.snoc)) | with_unfolding_all exact of_eq_true (eq_true rfl) | (simp only [List.length_append, List.length_cons, List.length_nil]; omega)) only [↓wpre0, ↓wpre1, ↓reduceIte, Int.reduceToNat, Nat.reduceAdd, Nat.reduceMul, Nat.reduceEqDiff, wpost0, wpost1, wpost2, wpost3, wpost4, ite_self, ite_true, ite_false, if_true, if_false, bin_add, tze126, xst126, un_not, xlen54, bin_mul, bin_neq, xld126, xbld126, bin_sub, xbld126_0_1, bin_lss, xiad54, bin_rem, bin_quo, xfad126_0, xld2, xfad126_1, bin_eql, bin_gtr, xbneq4, xcv2_59, bin_fmul, bin_fgtr, xbld126_0, fr13, wrap_int, wrap_u8, iteP_yes, iteP_no, r8Long_r (hX _ rfl) hV hU (by omega) (by omega), hlong] | refine iteP_two (fun hc hd => ?_) (fun hc hd => ?_) | refine iteP_intro (fun hc => ?_) (fun hc => ?_))
  have hlong' : (decide (48 < cd.length) || decide (48 < md.length)) = false := by simpa using hlong
  have hc1 : cd.length ≤ 48 := by simp at hlong'; omega
  have hm1 : md.length ≤ 48 := by simp at hlong'; omega
  obtain ⟨c0, hc0, at0⟩ := r8At_r (ro := ro) (X := X) (hX _ rfl) hV (i := 0) (n := 4) (by omega) (by omega) (by omega) (by omega) (by omega)
  obtain ⟨r0, hr0, at1⟩ := r8At_r (ro := ro) (X := X) (hX _ rfl) hV (i := 1) (n := 4) (by omega) (by omega) (by omega) (by omega) (by omega)
  obtain ⟨a0, ha0, at2⟩ := r8At_r (ro := ro) (X := X) (hX _ rfl) hV (i := 2) (n := 100) (by omega) (by omega) (by omega) (by omega) (by omega)
  obtain ⟨b0, hb0, at3⟩ := r8At_r (ro := ro) (X := X) (hX _ rfl) hV (i := 3) (n := 100) (by omega) (by omega) (by omega) (by omega) (by omega)
  obtain ⟨c, hc⟩ : ∃ c : Nat, (c : Int) = 1 + (c0 : Int) := ⟨c0 + 1, by omega⟩
  obtain ⟨r, hr⟩ : ∃ r : Nat, (r : Int) = 1 + (r0 : Int) := ⟨r0 + 1, by omega⟩
  obtain ⟨dx, hdx⟩ : ∃ d : Int, d = 1 + (a0 : Int) := ⟨_, rfl⟩
  obtain ⟨dy, hdy⟩ : ∃ d : Int, d = 1 + (b0 : Int) := ⟨_, rfl⟩
  obtain ⟨N, hN⟩ : ∃ N : Nat, N = c * r := ⟨_, rfl⟩
  have hN16 : N ≤ 16 := by rw [hN]; exact Nat.mul_le_mul (show c ≤ 4 by omega) (show r ≤ 4 by omega)
  have hN1 : 1 ≤ N := by rw [hN]; exact Nat.mul_pos (by omega) (by omega)
  have hcr : (c : Int) * (r : Int) = (N : Int) := by rw [hN]; exact (Int.natCast_mul _ _).symm
  have gg := gr_good (n := N) (c := c) (r := r) (dx := dx) (dy := dy) (by omega) (by omega) (by omega) (by omega) (by omega) (by omega) (by omega) (by omega) hN
  obtain ⟨b1, b2, b3, b4⟩ := gr_box (n := N) (c := c) (r := r) (dx := dx) (dy := dy) (by omega) (by omega) (by omega) (by omega) hN
  have cdx : cdB dx = true := by unfold cdB; simp only [Bool.and_eq_true, decide_eq_true_eq]; omega
  have cdy : cdB dy = true := by unfold cdB; simp only [Bool.and_eq_true, decide_eq_true_eq]; omega
  (repeat' first | simp -dsimp (disch := first | omega | assumption | (refine OkS.sto ?_ (by omega); first | assumption | (refine OkS.sto ?_ (by omega); first | assumption | (refine OkS.sto ?_ (by omega); first | assumption | (refine OkS.sto ?_ (by omega); first | assumption | (refine OkS.sto ?_ (by omega); first | assumption | (refine OkS.sto ?_ (by omega); first | assumption)))))) | exact Pfx.refl _ | (apply Pfx.snoc; repeat (first | exact Pfx.refl _ | assumption | apply Pfx.snoc)) | with_unfolding_all exact of_eq_true (eq_true rfl) | (simp only [List.length_append, List.length_cons, List.length_nil]; omega)) only [↓wpre0, ↓wpre1, ↓reduceIte, Int.reduceToNat, Nat.reduceAdd, Nat.reduceMul, Nat.reduceEqDiff, wpost0, wpost1, wpost2, wpost3, wpost4, ite_self, ite_true, ite_false, if_true, if_false, bin_add, tze126, xst126, un_not, xlen54, bin_mul, bin_neq, xld126, xbld126, bin_sub, xbld126_0_1, bin_lss, xiad54, bin_rem, bin_quo, xfad126_0, xld2, xfad126_1, bin_eql, bin_gtr, xbneq4, xcv2_59, bin_fmul, bin_fgtr, xbld126_0, fr13, wrap_int, wrap_u8, iteP_yes, iteP_no, r8Long_r (hX _ rfl) hV hU (by omega) (by omega), hlong', at0, at1, at2, at3, ← hc, ← hr, ← hdx, ← hdy] | refine iteP_two (fun hc hd => ?_) (fun hc hd => ?_) | refine iteP_intro (fun hc => ?_) (fun hc => ?_))
  refine cf_rel (Grid_c (n := N) hX (by omega) (by omega) (by omega) (by omega) hN cdx cdy gg hro) (fun q => by cases q) ?_
  rintro _ G1 ⟨z1, rfl, p1, hz1⟩
  have l1 := p1.len
  have bz1 := hz1.bof
  have hIz := hz1.vs.is
  have htz : tyP ro G1 z1 := fun _ => by
    obtain ⟨_, b, cap, rfl, _, hb2, _⟩ := hz1
    show (G1[b]?).map Blk.ty = _
    rw [hb2]; rfl
  (repeat' first | simp -dsimp (disch := first | omega | assumption | (refine OkS.sto ?_ (by omega); first | assumption | (refine OkS.sto ?_ (by omega); first | assumption | (refine OkS.sto ?_ (by omega); first | assumption | (refine OkS.sto ?_ (by omega); first | assumption | (refine OkS.sto ?_ (by omega); first | assumption | (refine OkS.sto ?_ (by omega); first | assumption)))))) | exact Pfx.refl _ | (apply Pfx.snoc; repeat (first | exact Pfx.refl _ | assumption | apply Pfx.snoc)) | with_unfolding_all exact of_eq_true (eq_true rfl) | (simp only [List.length_append, List.length_cons, List.length_nil]; omega)) only [↓wpre0, ↓wpre1, ↓reduceIte, Int.reduceToNat, Nat.reduceAdd, Nat.reduceMul, Nat.reduceEqDiff, wpost0, wpost1, wpost2, wpost3, wpost4, ite_self, ite_true, ite_false, if_true, if_false, bin_add, tze126, xst126, un_not, xlen54, bin_mul, bin_neq, xld126, xbld126, bin_sub, xbld126_0_1, bin_lss, xiad54, bin_rem, bin_quo, xfad126_0, xld2, xfad126_1, bin_eql, bin_gtr, xbneq4, xcv2_59, bin_fmul, bin_fgtr, xbld126_0, fr13, wrap_int, wrap_u8, iteP_yes, iteP_no] | refine iteP_two (fun hc hd => ?_) (fun hc hd => ?_) | refine iteP_intro (fun hc => ?_) (fun hc => ?_))
  have hB := hb hIz htz gg (by omega) (by omega)
  rw [b1, b2, b3, b4] at hB
  refine cf_rel hB (fun q => by cases q) ?_
  rintro _ G0 ⟨rfl, pB⟩
  have lB := pB.len
  have hc1' : (c : Int) - 1 = ((c - 1 : Nat) : Int) := by omega
  have hr1' : (r : Int) - 1 = ((r - 1 : Nat) : Int) := by omega
  have k1 := gr_rng (i := c - 1) (d := dx) (by omega) (by omega) (by omega)
  have k2 := gr_rng (i := r - 1) (d := dy) (by omega) (by omega) (by omega)
  obtain ⟨K1, hK1⟩ : ∃ K : Int, K = ((c - 1 : Nat) : Int) * dx := ⟨_, rfl⟩
  obtain ⟨K2, hK2⟩ : ∃ K : Int, K = ((r - 1 : Nat) : Int) * dy := ⟨_, rfl⟩
  rw [← hK1] at k1
  rw [← hK2] at k2
  rw [← hK1, ← hK2]
  have n2 : ∀ a b c d : Int, abin Try.prog .neq 126 (.agg ⟨[.int .i64 a, .int .i64 b]⟩) (.agg ⟨[.int .i64 c, .int .i64 d]⟩) = some (.bool !(decide (a = c) && decide (b = d))) := fun a b c d => bin_neq2 (by decide +kernel)
  (repeat' first | simp -dsimp (disch := first | omega | assumption | (refine OkS.sto ?_ (by omega); first | assumption | (refine OkS.sto ?_ (by omega); first | assumption | (refine OkS.sto ?_ (by omega); first | assumption | (refine OkS.sto ?_ (by omega); first | assumption | (refine OkS.sto ?_ (by omega); first | assumption | (refine OkS.sto ?_ (by omega); first | assumption)))))) | exact Pfx.refl _ | (apply Pfx.snoc; repeat (first | exact Pfx.refl _ | assumption | apply Pfx.snoc)) | with_unfolding_all exact of_eq_true (eq_true rfl) | (simp only [List.length_append, List.length_cons, List.length_nil]; omega)) only [↓wpre0, ↓wpre1, ↓reduceIte, Int.reduceToNat, Nat.reduceAdd, Nat.reduceMul, Nat.reduceEqDiff, wpost0, wpost1, wpost2, wpost3, wpost4, ite_self, ite_true, ite_false, if_true, if_false, bin_add, tze126, xst126, un_not, xlen54, bin_mul, bin_neq, xld126, xbld126, bin_sub, xbld126_0_1, bin_lss, xiad54, bin_rem, bin_quo, xfad126_0, xld2, xfad126_1, bin_eql, bin_gtr, xbneq4, xcv2_59, bin_fmul, bin_fgtr, xbld126_0, fr13, wrap_int, wrap_u8, iteP_yes, iteP_no, hIz.len Try.underlying54, hcr, n2, hc1', hr1', ← hK1, ← hK2] | refine iteP_two (fun hc hd => ?_) (fun hc hd => ?_) | refine iteP_intro (fun hc => ?_) (fun hc => ?_))
  obtain ⟨G2, hG2⟩ : ∃ G, G = G0 ++ [(⟨126, [.int .i64 0, .int .i64 0]⟩ : Blk)] ++ [(⟨126, [.int .i64 K1, .int .i64 K2]⟩ : Blk)] := ⟨_, rfl⟩
  have p2 : Pfx G1 G2 := by rw [hG2]; exact pB.snoc.snoc
  have l2 := p2.len
  rw [← hG2]
  refine loop_exit 0 (fun e h2 => h2 = G2 ∧ e 1 = y) ?_ ?_
  · refine loop_rounds (fun mm e h2 => ∃ i : Nat, mm = N - i ∧ i ≤ N ∧ h2 = G2 ∧ e 1 = y ∧ e 5 = .int .i64 c ∧ e 6 = .int .i64 r ∧ e 7 = .int .i64 dx ∧ e 8 = .int .i64 dy ∧ e 9 = z1 ∧ e 14 = .int .i64 i) _ ⟨0, rfl, ?_⟩ ?_
    · simp only [updO_at, updO_not, entry_at, List.getD_cons_zero, List.getD_cons_succ, ↓reduceIte, Nat.reduceEqDiff, true_and, and_true]
      (repeat' (first | assumption | rfl | omega | exact Nat.zero_le _ | refine And.intro ?_ ?_))
    · rintro mm e h2 ⟨i, hmm, hle, rfl, g1, g5, g6, g7, g8, g9, g14⟩
      have hks : (i : Int) + 1 = ((i + 1 : Nat) : Int) := by omega
      by_cases hin : i < N
      · have hin' : (i : Int) < (N : Int) := by omega
        have hI' := hIz.pre p2
        obtain ⟨e1, e2⟩ := grL_at (c := c) (dx := dx) (dy := dy) hin
        have em : (i : Int).tmod (c : Int) = ((i % c : Nat) : Int) := rfl
        have ed : (i : Int).tdiv (c : Int) = ((i / c : Nat) : Int) := rfl
        have a1 : i % c < c := Nat.mod_lt _ (by omega)
        have a2 : i / c < r := Nat.div_lt_of_lt_mul (by rw [← hN]; exact hin)
        have m1 := gr_rng (i := i % c) (d := dx) (by omega) (by omega) (by omega)
        have m2 := gr_rng (i := i / c) (d := dy) (by omega) (by omega) (by omega)
        have hz : (c : Int) ≠ 0 := by omega
        generalize i % c = I at *
        generalize i / c = J at *
        (repeat' first | simp -dsimp (disch := first | omega | assumption | (refine OkS.sto ?_ (by omega); first | assumption | (refine OkS.sto ?_ (by omega); first | assumption | (refine OkS.sto ?_ (by omega); first | assumption | (refine OkS.sto ?_ (by omega); first | assumption | (refine OkS.sto ?_ (by omega); first | assumption | (refine OkS.sto ?_ (by omega); first | assumption)))))) | exact Pfx.refl _ | (apply Pfx.snoc; repeat (first | exact Pfx.refl _ | assumption | apply Pfx.snoc)) | with_unfolding_all exact of_eq_true (eq_true rfl) | (simp only [List.length_append, List.length_cons, List.length_nil]; omega)) only [↓wpre0, ↓wpre1, ↓reduceIte, Int.reduceToNat, Nat.reduceAdd, Nat.reduceMul, Nat.reduceEqDiff, wpost0, wpost1, wpost2, wpost3, wpost4, ite_self, ite_true, ite_false, if_true, if_false, bin_add, tze126, xst126, un_not, xlen54, bin_mul, bin_neq, xld126, xbld126, bin_sub, xbld126_0_1, bin_lss, xiad54, bin_rem, bin_quo, xfad126_0, xld2, xfad126_1, bin_eql, bin_gtr, xbneq4, xcv2_59, bin_fmul, bin_fgtr, xbld126_0, fr13, wrap_int, wrap_u8, iteP_yes, iteP_no, g1, g5, g6, g7, g8, g9, g14, hcr, hin', hI'.iad Try.underlying54 tsz126, IS.ldm hI' tsz126 tag126, ints_2, e1, e2, bin_rem, bin_quo, hz, em, ed, n2] | refine iteP_two (fun hc hd => ?_) (fun hc hd => ?_) | refine iteP_intro (fun hc => ?_) (fun hc => ?_))
        exact ⟨N - (i + 1), by omega, i + 1, rfl, by omega, by rw [hks]⟩
      · (repeat' first | simp -dsimp (disch := first | omega | assumption | (refine OkS.sto ?_ (by omega); first | assumption | (refine OkS.sto ?_ (by omega); first | assumption | (refine OkS.sto ?_ (by omega); first | assumption | (refine OkS.sto ?_ (by omega); first | assumption | (refine OkS.sto ?_ (by omega); first | assumption | (refine OkS.sto ?_ (by omega); first | assumption)))))) | exact Pfx.refl _ | (apply Pfx.snoc; repeat (first | exact Pfx.refl _ | assumption | apply Pfx.snoc)) | with_unfolding_all exact of_eq_true (eq_true rfl) | (simp only [List.length_append, List.length_cons, List.length_nil]; omega)) only [↓wpre0, ↓wpre1, ↓reduceIte, Int.reduceToNat, Nat.reduceAdd, Nat.reduceMul, Nat.reduceEqDiff, wpost0, wpost1, wpost2, wpost3, wpost4, ite_self, ite_true, ite_false, if_true, if_false, bin_add, tze126, xst126, un_not, xlen54, bin_mul, bin_neq, xld126, xbld126, bin_sub, xbld126_0_1, bin_lss, xiad54, bin_rem, bin_quo, xfad126_0, xld2, xfad126_1, bin_eql, bin_gtr, xbneq4, xcv2_59, bin_fmul, bin_fgtr, xbld126_0, fr13, wrap_int, wrap_u8, iteP_yes, iteP_no, g1, g5, g6, g7, g8, g9, g14, hcr, hin] | refine iteP_two (fun hc hd => ?_) (fun hc hd => ?_) | refine iteP_intro (fun hc => ?_) (fun hc => ?_))
  clear hB hK1 hK2 k1 k2 b1 b2 b3 b4 hIz htz hz1 bz1
  rintro e h' ⟨rfl, g1⟩
  have hU2 := (hU.pre p1).pre p2
  (repeat' first | simp -dsimp (disch := first | omega | assumption | (refine OkS.sto ?_ (by omega); first | assumption | (refine OkS.sto ?_ (by omega); first | assumption | (refine OkS.sto ?_ (by omega); first | assumption | (refine OkS.sto ?_ (by omega); first | assumption | (refine OkS.sto ?_ (by omega); first | assumption | (refine OkS.sto ?_ (by omega); first | assumption)))))) | exact Pfx.refl _ | (apply Pfx.snoc; repeat (first | exact Pfx.refl _ | assumption | apply Pfx.snoc)) | with_unfolding_all exact of_eq_true (eq_true rfl) | (simp only [List.length_append, List.length_cons, List.length_nil]; omega)) only [↓wpre0, ↓wpre1, ↓reduceIte, Int.reduceToNat, Nat.reduceAdd, Nat.reduceMul, Nat.reduceEqDiff, wpost0, wpost1, wpost2, wpost3, wpost4, ite_self, ite_true, ite_false, if_true, if_false, bin_add, tze126, xst126, un_not, xlen54, bin_mul, bin_neq, xld126, xbld126, bin_sub, xbld126_0_1, bin_lss, xiad54, bin_rem, bin_quo, xfad126_0, xld2, xfad126_1, bin_eql, bin_gtr, xbneq4, xcv2_59, bin_fmul, bin_fgtr, xbld126_0, fr13, wrap_int, wrap_u8, iteP_yes, iteP_no, g1] | refine iteP_two (fun hc hd => ?_) (fun hc hd => ?_) | refine iteP_intro (fun hc => ?_) (fun hc => ?_))
  refine cf_rel (Places_c hW hX0 (hX _ rfl) (hX _ rfl) hx hU2 (by omega) (by omega) (by omega)) (fun q => by cases q) ?_
  rintro _ G3 ⟨n, yb, yc, l, rfl, hyb, hD, hll, hg, hrr, p3⟩
  have hI := is_blk (dc := yc) hD hll
  have l3 := p3.len
  have n16 := hg.n16
  have n1 := hg.n1
  have hU3 := hU2.pre p3
  have ht3 : tyP ro G3 (.slice (some ⟨yb, 0, none⟩) n yc) := fun _ => by show (G3[yb]?).map Blk.ty = _; rw [hD]; rfl
  have hLs := Least_r (ro := ro) hX hI ht3 hg hrr (by omega)
  obtain ⟨L, hL⟩ : ∃ L, L = (if n < 2 then 0 else lsOut l n) := ⟨_, rfl⟩
  obtain ⟨xl, hxl⟩ : ∃ xl : Value, xl = .slice (some ⟨yb, 0, none⟩) n yc := ⟨_, rfl⟩
  rw [← hL] at hLs
  rw [← hxl] at hLs hI ⊢
  have fde : fdOut l L n = decide (2 ≤ n) := by
    by_cases h2 : n < 2
    · have : n = 1 := by omega
      subst this; rfl
    · rw [hL, if_neg h2, fd_yes hrr (by omega), decide_eq_true (by omega)]
  (repeat' first | simp -dsimp (disch := first | omega | assumption | (refine OkS.sto ?_ (by omega); first | assumption | (refine OkS.sto ?_ (by omega); first | assumption | (refine OkS.sto ?_ (by omega); first | assumption | (refine OkS.sto ?_ (by omega); first | assumption | (refine OkS.sto ?_ (by omega); first | assumption | (refine OkS.sto ?_ (by omega); first | assumption)))))) | exact Pfx.refl _ | (apply Pfx.snoc; repeat (first | exact Pfx.refl _ | assumption | apply Pfx.snoc)) | with_unfolding_all exact of_eq_true (eq_true rfl) | (simp only [List.length_append, List.length_cons, List.length_nil]; omega)) only [↓wpre0, ↓wpre1, ↓reduceIte, Int.reduceToNat, Nat.reduceAdd, Nat.reduceMul, Nat.reduceEqDiff, wpost0, wpost1, wpost2, wpost3, wpost4, ite_self, ite_true, ite_false, if_true, if_false, bin_add, tze126, xst126, un_not, xlen54, bin_mul, bin_neq, xld126, xbld126, bin_sub, xbld126_0_1, bin_lss, xiad54, bin_rem, bin_quo, xfad126_0, xld2, xfad126_1, bin_eql, bin_gtr, xbneq4, xcv2_59, bin_fmul, bin_fgtr, xbld126_0, fr13, wrap_int, wrap_u8, iteP_yes, iteP_no, hLs] | refine iteP_two (fun hc hd => ?_) (fun hc hd => ?_) | refine iteP_intro (fun hc => ?_) (fun hc => ?_))
  refine loop_exit 2 (fun e h2 => h2 = G3 ∧ e 1 = y ∧ e 15 = xl ∧ e 17 = .bool (decide (2 ≤ n)) ∧ e 18 = .bool (decide (2 ≤ n))) ?_ ?_
  · refine loop_rounds (fun mm e h2 => ∃ i : Nat, mm = n - i ∧ i ≤ n ∧ h2 = G3 ∧ e 1 = y ∧ e 15 = xl ∧ e 16 = .int .i64 L ∧ e 17 = .bool (decide (2 ≤ n)) ∧ e 18 = .bool (fdOut l L i) ∧ e 19 = .int .i64 i) _ ⟨0, rfl, ?_⟩ ?_
    · simp only [updO_at, updO_not, entry_at, List.getD_cons_zero, List.getD_cons_succ, ↓reduceIte, Nat.reduceEqDiff, true_and, and_true]
      (repeat' (first | assumption | rfl | omega | exact Nat.zero_le _ | refine And.intro ?_ ?_))
    · rintro mm e h2 ⟨i, hmm, hle, rfl, g1, g15, g16, g17, g18, g19⟩
      have hks : (i : Int) + 1 = ((i + 1 : Nat) : Int) := by omega
      by_cases hin : i < n
      · (repeat' first | simp -dsimp (disch := first | omega | assumption | (refine OkS.sto ?_ (by omega); first | assumption | (refine OkS.sto ?_ (by omega); first | assumption | (refine OkS.sto ?_ (by omega); first | assumption | (refine OkS.sto ?_ (by omega); first | assumption | (refine OkS.sto ?_ (by omega); first | assumption | (refine OkS.sto ?_ (by omega); first | assumption)))))) | exact Pfx.refl _ | (apply Pfx.snoc; repeat (first | exact Pfx.refl _ | assumption | apply Pfx.snoc)) | with_unfolding_all exact of_eq_true (eq_true rfl) | (simp only [List.length_append, List.length_cons, List.length_nil]; omega)) only [↓wpre0, ↓wpre1, ↓reduceIte, Int.reduceToNat, Nat.reduceAdd, Nat.reduceMul, Nat.reduceEqDiff, wpost0, wpost1, wpost2, wpost3, wpost4, ite_self, ite_true, ite_false, if_true, if_false, bin_add, tze126, xst126, un_not, xlen54, bin_mul, bin_neq, xld126, xbld126, bin_sub, xbld126_0_1, bin_lss, xiad54, bin_rem, bin_quo, xfad126_0, xld2, xfad126_1, bin_eql, bin_gtr, xbneq4, xcv2_59, bin_fmul, bin_fgtr, xbld126_0, fr13, wrap_int, wrap_u8, iteP_yes, iteP_no, g1, g15, g16, g17, g18, g19, hI.len Try.underlying54] | refine iteP_two (fun hc hd => ?_) (fun hc hd => ?_) | refine iteP_intro (fun hc => ?_) (fun hc => ?_))
        refine loop_rounds (fun mm e h3 => ∃ k : Nat, mm = i - k ∧ k ≤ i ∧ h3 = h2 ∧ e 1 = y ∧ e 15 = xl ∧ e 16 = .int .i64 L ∧ e 17 = .bool (decide (2 ≤ n)) ∧ e 18 = .bool (fdIn l L i (fdOut l L i) k) ∧ e 19 = .int .i64 i ∧ e 20 = .int .i64 k) _ ⟨0, rfl, ?_⟩ ?_
        · simp only [updO_at, updO_not, entry_at, List.getD_cons_zero, List.getD_cons_succ, ↓reduceIte, Nat.reduceEqDiff, true_and, and_true]
          (repeat' (first | assumption | rfl | omega | exact Nat.zero_le _ | refine And.intro ?_ ?_))
        · clear g1 g15 g16 g17 g18 g19
          rintro mm e h3 ⟨k, hmm, hke, rfl, g1, g15, g16, g17, g18, g19, g20⟩
          have hks' : (k : Int) + 1 = ((k + 1 : Nat) : Int) := by omega
          by_cases hk : k < i
          · have a1 := hrr (i * 2)
            have a2 := hrr (i * 2 + 1)
            have a3 := hrr (k * 2)
            have a4 := hrr (k * 2 + 1)
            obtain ⟨ux, hux⟩ : ∃ d, d = nth l (i * 2) - nth l (k * 2) := ⟨_, rfl⟩
            obtain ⟨uy, huy⟩ : ∃ d, d = nth l (i * 2 + 1) - nth l (k * 2 + 1) := ⟨_, rfl⟩
            have sq := sq_rng (a := ux) (b := uy) (by omega) (by omega) (by omega) (by omega)
            have eD : dqF l i k = ux * ux + uy * uy := by rw [hux, huy]; rfl
            have hlt : ¬ ux * ux + uy * uy < L := by
              rw [hL, if_neg (by omega), ← eD]
              have := lsOut_le (l := l) (a := n) i k hin hk
              omega
            have eF : fdIn l L i (fdOut l L i) (k + 1) = (fdIn l L i (fdOut l L i) k || decide (ux * ux + uy * uy = L)) := by rw [← eD]; rfl
            have hki : (k : Int) < (i : Int) := by omega
            cases hb : fdIn l L i (fdOut l L i) k with
            | true =>
              rw [hb] at g18 eF
              rw [Bool.true_or] at eF
              (repeat' first | simp -dsimp (disch := first | omega | assumption | (refine OkS.sto ?_ (by omega); first | assumption | (refine OkS.sto ?_ (by omega); first | assumption | (refine OkS.sto ?_ (by omega); first | assumption | (refine OkS.sto ?_ (by omega); first | assumption | (refine OkS.sto ?_ (by omega); first | assumption | (refine OkS.sto ?_ (by omega); first | assumption)))))) | exact Pfx.refl _ | (apply Pfx.snoc; repeat (first | exact Pfx.refl _ | assumption | apply Pfx.snoc)) | with_unfolding_all exact of_eq_true (eq_true rfl) | (simp only [List.length_append, List.length_cons, List.length_nil]; omega)) only [↓wpre0, ↓wpre1, ↓reduceIte, Int.reduceToNat, Nat.reduceAdd, Nat.reduceMul, Nat.reduceEqDiff, wpost0, wpost1, wpost2, wpost3, wpost4, ite_self, ite_true, ite_false, if_true, if_false, bin_add, tze126, xst126, un_not, xlen54, bin_mul, bin_neq, xld126, xbld126, bin_sub, xbld126_0_1, bin_lss, xiad54, bin_rem, bin_quo, xfad126_0, xld2, xfad126_1, bin_eql, bin_gtr, xbneq4, xcv2_59, bin_fmul, bin_fgtr, xbld126_0, fr13, wrap_int, wrap_u8, iteP_yes, iteP_no, g1, g15, g16, g17, g18, g19, g20, hki, hI.iad Try.underlying54 tsz126, IS.fad hI tfi126_0 (by decide), IS.fad hI tfi126_1 (by decide), hI.ld1 tsz2 tag2, Nat.add_zero, ← hux, ← huy, hlt] | refine iteP_two (fun hc hd => ?_) (fun hc hd => ?_) | refine iteP_intro (fun hc => ?_) (fun hc => ?_))
              exact ⟨i - (k + 1), by omega, k + 1, rfl, by omega, by rw [eF], by rw [hks']⟩
            | false =>
              rw [hb] at g18 eF
              rw [Bool.false_or] at eF
              (repeat' first | simp -dsimp (disch := first | omega | assumption | (refine OkS.sto ?_ (by omega); first | assumption | (refine OkS.sto ?_ (by omega); first | assumption | (refine OkS.sto ?_ (by omega); first | assumption | (refine OkS.sto ?_ (by omega); first | assumption | (refine OkS.sto ?_ (by omega); first | assumption | (refine OkS.sto ?_ (by omega); first | assumption)))))) | exact Pfx.refl _ | (apply Pfx.snoc; repeat (first | exact Pfx.refl _ | assumption | apply Pfx.snoc)) | with_unfolding_all exact of_eq_true (eq_true rfl) | (simp only [List.length_append, List.length_cons, List.length_nil]; omega)) only [↓wpre0, ↓wpre1, ↓reduceIte, Int.reduceToNat, Nat.reduceAdd, Nat.reduceMul, Nat.reduceEqDiff, wpost0, wpost1, wpost2, wpost3, wpost4, ite_self, ite_true, ite_false, if_true, if_false, bin_add, tze126, xst126, un_not, xlen54, bin_mul, bin_neq, xld126, xbld126, bin_sub, xbld126_0_1, bin_lss, xiad54, bin_rem, bin_quo, xfad126_0, xld2, xfad126_1, bin_eql, bin_gtr, xbneq4, xcv2_59, bin_fmul, bin_fgtr, xbld126_0, fr13, wrap_int, wrap_u8, iteP_yes, iteP_no, g1, g15, g16, g17, g18, g19, g20, hki, hI.iad Try.underlying54 tsz126, IS.fad hI tfi126_0 (by decide), IS.fad hI tfi126_1 (by decide), hI.ld1 tsz2 tag2, Nat.add_zero, ← hux, ← huy, hlt] | refine iteP_two (fun hc hd => ?_) (fun hc hd => ?_) | refine iteP_intro (fun hc => ?_) (fun hc => ?_))
              exact ⟨i - (k + 1), by omega, k + 1, rfl, by omega, by rw [eF], by rw [hks']⟩
          · have ek : k = i := by omega
            subst ek
            (repeat' first | simp -dsimp (disch := first | omega | assumption | (refine OkS.sto ?_ (by omega); first | assumption | (refine OkS.sto ?_ (by omega); first | assumption | (refine OkS.sto ?_ (by omega); first | assumption | (refine OkS.sto ?_ (by omega); first | assumption | (refine OkS.sto ?_ (by omega); first | assumption | (refine OkS.sto ?_ (by omega); first | assumption)))))) | exact Pfx.refl _ | (apply Pfx.snoc; repeat (first | exact Pfx.refl _ | assumption | apply Pfx.snoc)) | with_unfolding_all exact of_eq_true (eq_true rfl) | (simp only [List.length_append, List.length_cons, List.length_nil]; omega)) only [↓wpre0, ↓wpre1, ↓reduceIte, Int.reduceToNat, Nat.reduceAdd, Nat.reduceMul, Nat.reduceEqDiff, wpost0, wpost1, wpost2, wpost3, wpost4, ite_self, ite_true, ite_false, if_true, if_false, bin_add, tze126, xst126, un_not, xlen54, bin_mul, bin_neq, xld126, xbld126, bin_sub, xbld126_0_1, bin_lss, xiad54, bin_rem, bin_quo, xfad126_0, xld2, xfad126_1, bin_eql, bin_gtr, xbneq4, xcv2_59, bin_fmul, bin_fgtr, xbld126_0, fr13, wrap_int, wrap_u8, iteP_yes, iteP_no, g1, g15, g16, g17, g18, g19, g20, hk] | refine iteP_two (fun hc hd => ?_) (fun hc hd => ?_) | refine iteP_intro (fun hc => ?_) (fun hc => ?_))
            exact ⟨n - (k + 1), by omega, k + 1, rfl, by omega, rfl, by rw [hks]⟩
      · have ei : i = n := by omega
        subst ei
        rw [fde] at g18
        (repeat' first | simp -dsimp (disch := first | omega | assumption | (refine OkS.sto ?_ (by omega); first | assumption | (refine OkS.sto ?_ (by omega); first | assumption | (refine OkS.sto ?_ (by omega); first | assumption | (refine OkS.sto ?_ (by omega); first | assumption | (refine OkS.sto ?_ (by omega); first | assumption | (refine OkS.sto ?_ (by omega); first | assumption)))))) | exact Pfx.refl _ | (apply Pfx.snoc; repeat (first | exact Pfx.refl _ | assumption | apply Pfx.snoc)) | with_unfolding_all exact of_eq_true (eq_true rfl) | (simp only [List.length_append, List.length_cons, List.length_nil]; omega)) only [↓wpre0, ↓wpre1, ↓reduceIte, Int.reduceToNat, Nat.reduceAdd, Nat.reduceMul, Nat.reduceEqDiff, wpost0, wpost1, wpost2, wpost3, wpost4, ite_self, ite_true, ite_false, if_true, if_false, bin_add, tze126, xst126, un_not, xlen54, bin_mul, bin_neq, xld126, xbld126, bin_sub, xbld126_0_1, bin_lss, xiad54, bin_rem, bin_quo, xfad126_0, xld2, xfad126_1, bin_eql, bin_gtr, xbneq4, xcv2_59, bin_fmul, bin_fgtr, xbld126_0, fr13, wrap_int, wrap_u8, iteP_yes, iteP_no, g1, g15, g16, g17, g18, g19, hI.len Try.underlying54] | refine iteP_two (fun hc hd => ?_) (fun hc hd => ?_) | refine iteP_intro (fun hc => ?_) (fun hc => ?_))
  clear g1
  rintro e h' ⟨rfl, g1, g15, g17, g18⟩
  obtain ⟨c9, hc9, at9⟩ := r8At_r (ro := ro) (X := X) (hX _ rfl) hU3 (i := 40) (n := 12) (by omega) (by omega) (by omega) (by omega) (by omega)
  obtain ⟨r9, hr9, at10⟩ := r8At_r (ro := ro) (X := X) (hX _ rfl) hU3 (i := 41) (n := 200) (by omega) (by omega) (by omega) (by omega) (by omega)
  obtain ⟨C, hC⟩ : ∃ c : Nat, (c : Int) = 1 + (c9 : Int) := ⟨c9 + 1, by omega⟩
  obtain ⟨R, hR⟩ : ∃ r : Nat, (r : Int) = 64 + (r9 : Int) := ⟨r9 + 64, by omega⟩
  have f0 := rg_first (c := C) (R := R) (by omega) (by omega) (by omega) (by omega)
  (repeat' first | simp -dsimp (disch := first | omega | assumption | (refine OkS.sto ?_ (by omega); first | assumption | (refine OkS.sto ?_ (by omega); first | assumption | (refine OkS.sto ?_ (by omega); first | assumption | (refine OkS.sto ?_ (by omega); first | assumption | (refine OkS.sto ?_ (by omega); first | assumption | (refine OkS.sto ?_ (by omega); first | assumption)))))) | exact Pfx.refl _ | (apply Pfx.snoc; repeat (first | exact Pfx.refl _ | assumption | apply Pfx.snoc)) | with_unfolding_all exact of_eq_true (eq_true rfl) | (simp only [List.length_append, List.length_cons, List.length_nil]; omega)) only [↓wpre0, ↓wpre1, ↓reduceIte, Int.reduceToNat, Nat.reduceAdd, Nat.reduceMul, Nat.reduceEqDiff, wpost0, wpost1, wpost2, wpost3, wpost4, ite_self, ite_true, ite_false, if_true, if_false, bin_add, tze126, xst126, un_not, xlen54, bin_mul, bin_neq, xld126, xbld126, bin_sub, xbld126_0_1, bin_lss, xiad54, bin_rem, bin_quo, xfad126_0, xld2, xfad126_1, bin_eql, bin_gtr, xbneq4, xcv2_59, bin_fmul, bin_fgtr, xbld126_0, fr13, wrap_int, wrap_u8, iteP_yes, iteP_no, g1, g15, g17, g18, at9, at10, ← hC, ← hR] | refine iteP_two (fun hc hd => ?_) (fun hc hd => ?_) | refine iteP_intro (fun hc => ?_) (fun hc => ?_))
  refine cf_rel (Ring_c (c := C) (R := R) hX hA hE (by omega) (by omega) (by omega) (by omega) (by omega)) (fun q => by cases q) ?_
  rintro _ G4 ⟨z4, rfl, p4, hz4⟩
  have hI4 := hz4.vs.is
  have e2 : ∀ a b c d : Int, abin Try.prog .eql 126 (.agg ⟨[.int .i64 a, .int .i64 b]⟩) (.agg ⟨[.int .i64 c, .int .i64 d]⟩) = some (.bool (decide (a = c) && decide (b = d))) := fun a b c d => bin_eql2 (by decide +kernel)
  have hcmp : decide ((1 : Int) < (n : Int)) = decide (2 ≤ n) := decide_eq_decide.2 (by omega)
  obtain ⟨t, ht⟩ : ∃ t, t = decide (2 ≤ n) := ⟨_, rfl⟩
  rw [← ht] at g17 g18 hcmp
  have hbn : (t != t) = false := bne_self_eq_false t
  (repeat' first | simp -dsimp (disch := first | omega | assumption | (refine OkS.sto ?_ (by omega); first | assumption | (refine OkS.sto ?_ (by omega); first | assumption | (refine OkS.sto ?_ (by omega); first | assumption | (refine OkS.sto ?_ (by omega); first | assumption | (refine OkS.sto ?_ (by omega); first | assumption | (refine OkS.sto ?_ (by omega); first | assumption)))))) | exact Pfx.refl _ | (apply Pfx.snoc; repeat (first | exact Pfx.refl _ | assumption | apply Pfx.snoc)) | with_unfolding_all exact of_eq_true (eq_true rfl) | (simp only [List.length_append, List.length_cons, List.length_nil]; omega)) only [↓wpre0, ↓wpre1, ↓reduceIte, Int.reduceToNat, Nat.reduceAdd, Nat.reduceMul, Nat.reduceEqDiff, wpost0, wpost1, wpost2, wpost3, wpost4, ite_self, ite_true, ite_false, if_true, if_false, bin_add, tze126, xst126, un_not, xlen54, bin_mul, bin_neq, xld126, xbld126, bin_sub, xbld126_0_1, bin_lss, xiad54, bin_rem, bin_quo, xfad126_0, xld2, xfad126_1, bin_eql, bin_gtr, xbneq4, xcv2_59, bin_fmul, bin_fgtr, xbld126_0, fr13, wrap_int, wrap_u8, iteP_yes, iteP_no, g1, g15, g17, g18, hI.len Try.underlying54, hI4.len Try.underlying54, hcmp, hbn] | refine iteP_two (fun hc hd => ?_) (fun hc hd => ?_) | refine iteP_intro (fun hc => ?_) (fun hc => ?_))
  clear g1 g15 g17 g18
  refine loop_exit 6 (fun e h2 => h2 = G4 ∧ e 24 = .int .i64 R ∧ e 25 = z4) ?_ ?_
  · refine loop_rounds (fun mm e h2 => ∃ i : Nat, mm = C - i ∧ i ≤ C ∧ h2 = G4 ∧ e 24 = .int .i64 R ∧ e 25 = z4 ∧ e 27 = .int .i64 i) _ ⟨0, rfl, ?_⟩ ?_
    · simp only [updO_at, updO_not, entry_at, List.getD_cons_zero, List.getD_cons_succ, ↓reduceIte, Nat.reduceEqDiff, true_and, and_true]
      (repeat' (first | assumption | rfl | omega | exact Nat.zero_le _ | refine And.intro ?_ ?_))
    · rintro mm e h2 ⟨i, hmm, hle, rfl, g24, g25, g27⟩
      have hks : (i : Int) + 1 = ((i + 1 : Nat) : Int) := by omega
      by_cases hin : i < C
      · obtain ⟨e3, e4⟩ := rgZ_at (c := C) (R := R) hin
        obtain ⟨_, ⟨_, _, _, a4⟩, ⟨_, _, _, b4⟩, _⟩ := rg_at (c := C) (k := i) (R := R) (by omega) hin (by omega) (by omega)
        have gp := rg_gap (c := C) (k := i) (R := R) (by omega) hin (by omega) (by omega)
        have a4 : (rgX C R i).natAbs ≤ 1024 := a4
        have b4 : (rgY C R i).natAbs ≤ 1024 := b4
        have sq := sq_rng (a := rgX C R i) (b := rgY C R i) (by omega) (by omega) (by omega) (by omega)
        have sr := sq_rng (a := (R : Int)) (b := (R : Int)) (by omega) (by omega) (by omega) (by omega)
        generalize rgX C R i = U at *
        generalize rgY C R i = V at *
        have hg := Gap_r (ro := ro) (X := X) hX (nf64 (U * U + V * V)) (nf64 ((R : Int) * R)) h2
        unfold nf64 at hg gp
        (repeat' first | simp -dsimp (disch := first | omega | assumption | (refine OkS.sto ?_ (by omega); first | assumption | (refine OkS.sto ?_ (by omega); first | assumption | (refine OkS.sto ?_ (by omega); first | assumption | (refine OkS.sto ?_ (by omega); first | assumption | (refine OkS.sto ?_ (by omega); first | assumption | (refine OkS.sto ?_ (by omega); first | assumption)))))) | exact Pfx.refl _ | (apply Pfx.snoc; repeat (first | exact Pfx.refl _ | assumption | apply Pfx.snoc)) | with_unfolding_all exact of_eq_true (eq_true rfl) | (simp only [List.length_append, List.length_cons, List.length_nil]; omega)) only [↓wpre0, ↓wpre1, ↓reduceIte, Int.reduceToNat, Nat.reduceAdd, Nat.reduceMul, Nat.reduceEqDiff, wpost0, wpost1, wpost2, wpost3, wpost4, ite_self, ite_true, ite_false, if_true, if_false, bin_add, tze126, xst126, un_not, xlen54, bin_mul, bin_neq, xld126, xbld126, bin_sub, xbld126_0_1, bin_lss, xiad54, bin_rem, bin_quo, xfad126_0, xld2, xfad126_1, bin_eql, bin_gtr, xbneq4, xcv2_59, bin_fmul, bin_fgtr, xbld126_0, fr13, wrap_int, wrap_u8, iteP_yes, iteP_no, g24, g25, g27, hI4.len Try.underlying54, hI4.iad Try.underlying54 tsz126, IS.fad hI4 tfi126_0 (by decide), IS.fad hI4 tfi126_1 (by decide), hI4.ld1 tsz2 tag2, Nat.add_zero, e3, e4, conv_if Try.underlying2 Try.underlying59, hg, gp] | refine iteP_two (fun hc hd => ?_) (fun hc hd => ?_) | refine iteP_intro (fun hc => ?_) (fun hc => ?_))
        exact ⟨C - (i + 1), by omega, i + 1, rfl, by omega, by rw [hks]⟩
      · have ei : i = C := by omega
        subst ei
        (repeat' first | simp -dsimp (disch := first | omega | assumption | (refine OkS.sto ?_ (by omega); first | assumption | (refine OkS.sto ?_ (by omega); first | assumption | (refine OkS.sto ?_ (by omega); first | assumption | (refine OkS.sto ?_ (by omega); first | assumption | (refine OkS.sto ?_ (by omega); first | assumption | (refine OkS.sto ?_ (by omega); first | assumption)))))) | exact Pfx.refl _ | (apply Pfx.snoc; repeat (first | exact Pfx.refl _ | assumption | apply Pfx.snoc)) | with_unfolding_all exact of_eq_true (eq_true rfl) | (simp only [List.length_append, List.length_cons, List.length_nil]; omega)) only [↓wpre0, ↓wpre1, ↓reduceIte, Int.reduceToNat, Nat.reduceAdd, Nat.reduceMul, Nat.reduceEqDiff, wpost0, wpost1, wpost2, wpost3, wpost4, ite_self, ite_true, ite_false, if_true, if_false, bin_add, tze126, xst126, un_not, xlen54, bin_mul, bin_neq, xld126, xbld126, bin_sub, xbld126_0_1, bin_lss, xiad54, bin_rem, bin_quo, xfad126_0, xld2, xfad126_1, bin_eql, bin_gtr, xbneq4, xcv2_59, bin_fmul, bin_fgtr, xbld126_0, fr13, wrap_int, wrap_u8, iteP_yes, iteP_no, g24, g25, g27, hI4.len Try.underlying54] | refine iteP_two (fun hc hd => ?_) (fun hc hd => ?_) | refine iteP_intro (fun hc => ?_) (fun hc => ?_))
  rintro e h2 ⟨rfl, g24, g25⟩
  have hC0 : 0 < C := by omega
  have e3 := rgZ_at (c := C) (R := R) hC0
  rw [f0.1, f0.2] at e3
  simp only [Nat.zero_mul, Nat.zero_add] at e3
  (repeat' first | simp -dsimp (disch := first | omega | assumption | (refine OkS.sto ?_ (by omega); first | assumption | (refine OkS.sto ?_ (by omega); first | assumption | (refine OkS.sto ?_ (by omega); first | assumption | (refine OkS.sto ?_ (by omega); first | assumption | (refine OkS.sto ?_ (by omega); first | assumption | (refine OkS.sto ?_ (by omega); first | assumption)))))) | exact Pfx.refl _ | (apply Pfx.snoc; repeat (first | exact Pfx.refl _ | assumption | apply Pfx.snoc)) | with_unfolding_all exact of_eq_true (eq_true rfl) | (simp only [List.length_append, List.length_cons, List.length_nil]; omega)) only [↓wpre0, ↓wpre1, ↓reduceIte, Int.reduceToNat, Nat.reduceAdd, Nat.reduceMul, Nat.reduceEqDiff, wpost0, wpost1, wpost2, wpost3, wpost4, ite_self, ite_true, ite_false, if_true, if_false, bin_add, tze126, xst126, un_not, xlen54, bin_mul, bin_neq, xld126, xbld126, bin_sub, xbld126_0_1, bin_lss, xiad54, bin_rem, bin_quo, xfad126_0, xld2, xfad126_1, bin_eql, bin_gtr, xbneq4, xcv2_59, bin_fmul, bin_fgtr, xbld126_0, fr13, wrap_int, wrap_u8, iteP_yes, iteP_no, g24, g25, hI4.iad Try.underlying54 tsz126, IS.ldm hI4 tsz126 tag126, ints_2, e3.1, e3.2, e2, Nat.zero_mul, Nat.zero_add, Int.toNat_zero] | refine iteP_two (fun hc hd => ?_) (fun hc hd => ?_) | refine iteP_intro (fun hc => ?_) (fun hc => ?_))
  simp
noncomputable def xR1 (ro : Nat) : Ext := orX (xBox ro xR0) xR0
noncomputable def xR2 (ro : Nat) : Ext := orX (xPl ro xR0) (xR1 ro)
theorem xn_R0 : XN xR0 := XN.orS (XN.onlyS (by decide +kernel)) xn_S0
theorem xn_R1 (ro : Nat) : XN (xR1 ro) := XN.orS (XN.onlyS (by decide +kernel)) xn_R0
theorem xn_R2 (ro : Nat) : XN (xR2 ro) := XN.orS (XN.onlyS (by decide +kernel)) (xn_R1 ro)
theorem xok_R0 {ro : Nat} {B : Base} : XOk Try.prog ro B xR0 := orX_ok xEven_ok xok_S0
theorem xok_R2 {ro : Nat} {B : Base} : XOk Try.prog ro B (xR2 ro) := orX_ok (xPl_ok xok_R0) (orX_ok (xBox_ok xok_R0) xok_R0)
theorem lawSh_c (hV : VS lo hi 1 h x cd.length (cd.map u8v)) (hU : VS lo' hi' 1 h y md.length (md.map u8v)) (hhi : hi ≤ h.length) (hhi' : hi' ≤ h.length) (hro : ro ≤ h.length) (hl : cd.length ≤ 140737488351232) (hl' : md.length ≤ 140737488351232) :
    CallR Try.prog ro (xR2 ro) 13 [x, y] h (fun r h' => r = .bool true) :=
  lawShape_c (xn_R2 ro) xn_R0 (XDW.of xn_R0 rfl) ⟨rfl, rfl⟩ rfl rfl (fun hI ht hg hro' hlo => Box_c xn_R0 rfl hI ht hg hro' hlo) hV hU hhi hhi' hro hl hl'
end Go.Proofs.Ytelogajobjflfaa.Sim
