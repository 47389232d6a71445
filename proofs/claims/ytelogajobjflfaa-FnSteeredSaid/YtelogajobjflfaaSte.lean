/- Shifted places, steps, lengths and gaps, walked. Lemmas only; no condition. -/
import Derived.Test.YtelogajobjflfaaSne
import Derived.Test.YtelogajobjflfaaPhy
import Derived.Test.YtelogajobjflfaaSqt
set_option linter.unusedSimpArgs false
set_option linter.unusedVariables false
set_option maxRecDepth 8000
namespace Go.Proofs.Ytelogajobjflfaa.Sim
open Go Go.RowKit Fl
variable {ro lo hi n : Nat} {X : Ext} {h : Heap} {x y : Value} {l : List Int} {u v : Int}
/-- append of one element of 'k' cells, made on the spot. -/
theorem accP {P : Program} {lo n k e T by_ : Nat} {h : Heap} {x z : Value} {L M : List Value} (he : elemT P T = some e) (hs : szT P e = some k) (hb : byT P e = some by_) (hz : zeroT P e = some z) (hk : 0 < k) (g : VN lo e k h x n L) (hro : ro ≤ lo) (hlo : lo ≤ h.length)
    (hM : M.length = k) (h1 : M.all one = true) (hn : (n + 1) * by_ ≤ 140737488355328) (hn' : n + 1 ≤ 4611686018427387904) :
    ∃ H, ablt P ro .append [T, T] [x, .slice (some ⟨h.length, 0, none⟩) 1 1] (h ++ [⟨e, M⟩]) = some (.slice (some ⟨h.length + 1, 0, none⟩) (n + 1) (n + 1 + 1), H) ∧ VG lo e k H (.slice (some ⟨h.length + 1, 0, none⟩) (n + 1) (n + 1 + 1)) (n + 1) (L ++ M) ∧ Old lo x h H ∧ H.length = h.length + 2 := by
  have p1 := (Pfx.refl h).snoc (C := ⟨e, M⟩)
  have q1 : (h ++ [(⟨e, M⟩ : Blk)]).length = h.length + 1 := by simp
  have g1 := g.pre p1
  have hll : L.length = n * k := by
    rcases g with g | ⟨rfl, rfl, _⟩
    · exact g.1
    · simp
  have ap := ablt_apv (ro := ro) he hs hb hz hk (.inl rfl) g1 hro (y := .slice (some ⟨h.length, 0, none⟩) 1 1) (M := M) (m := 1) (news_blk (j := 1) (get_last rfl) (by omega)) rfl (by omega) (by decide) h1 hn hn'
  rw [q1] at ap
  refine ⟨_, ap, ?_, ⟨fun h0 hp hl => Pfx.apv (hp.trans p1) g1 hl, fun b hb hne => ?_, ?_⟩, ?_⟩
  · have := vg_apv (lo := lo) (t := e) (k := k) (h := h ++ [(⟨e, M⟩ : Blk)]) (x := x) (n := n) (m := n + 1) (M := L ++ M) (by rw [List.length_append, hll, hM, Nat.add_mul, Nat.one_mul]) (by omega) (by omega)
    rw [q1] at this
    exact this
  · rw [apv_getN g1 (by omega) hne]; exact get_skip hb
  · rw [apv_len, q1]; omega
  · rw [apv_len, q1]
/-- Shifted coordinates. -/
def shL (l : List Int) (dx dy : Int) (m : Nat) : List Int := (List.range m).flatMap fun i => [nth l (i * 2) + dx, nth l (i * 2 + 1) + dy]
theorem shL_succ {dx dy : Int} {m : Nat} : shL l dx dy (m + 1) = shL l dx dy m ++ [nth l (m * 2) + dx, nth l (m * 2 + 1) + dy] := by simp [shL, List.range_succ]
theorem shL_len {dx dy : Int} : ∀ m, (shL l dx dy m).length = m * 2
  | 0 => rfl
  | m + 1 => by rw [shL_succ, List.length_append, shL_len m]; simp; omega
theorem nth_app_l {a b : List Int} {i : Nat} (h : i < a.length) : nth (a ++ b) i = nth a i := by simp only [nth, List.getD_eq_getElem?_getD, List.getElem?_append_left h]
theorem nth_app_r {a b : List Int} {i : Nat} (h : a.length ≤ i) : nth (a ++ b) i = nth b (i - a.length) := by simp only [nth, List.getD_eq_getElem?_getD, List.getElem?_append_right h]
theorem shL_at {dx dy : Int} : ∀ {m i : Nat}, i < m → nth (shL l dx dy m) (i * 2) = nth l (i * 2) + dx ∧ nth (shL l dx dy m) (i * 2 + 1) = nth l (i * 2 + 1) + dy
  | 0, i, h => by omega
  | m + 1, i, h => by
    have hl := shL_len (l := l) (dx := dx) (dy := dy) m
    rw [shL_succ]
    by_cases e : i = m
    · subst e
      rw [nth_app_r (by omega), nth_app_r (by omega), hl]
      have e1 : i * 2 - i * 2 = 0 := by omega
      have e2 : i * 2 + 1 - i * 2 = 1 := by omega
      rw [e1, e2]
      exact ⟨rfl, rfl⟩
    · rw [nth_app_l (by omega), nth_app_l (by omega)]
      exact shL_at (by omega)
theorem shL_good {dx dy : Int} (hg : goodP n l) (hr : ∀ j, -512 ≤ nth l j ∧ nth l j ≤ 512) (d1 : -32 ≤ dx ∧ dx ≤ 32) (d2 : -32 ≤ dy ∧ dy ≤ 32) : goodP n (shL l dx dy n) := by
  refine ⟨hg.n1, hg.n16, fun i hi => ?_, fun i k hi hk => ?_⟩
  · obtain ⟨e1, e2⟩ := shL_at (l := l) (dx := dx) (dy := dy) hi
    have a := hr (i * 2)
    have b := hr (i * 2 + 1)
    unfold plB cdB
    rw [e1, e2]
    simp only [Bool.and_eq_true, decide_eq_true_eq]
    omega
  · obtain ⟨e1, e2⟩ := shL_at (l := l) (dx := dx) (dy := dy) hi
    obtain ⟨e3, e4⟩ := shL_at (l := l) (dx := dx) (dy := dy) (show k < n by omega)
    have := hg.df i k hi hk
    unfold samB at this ⊢
    rw [e1, e2, e3, e4]
    rw [← this]
    congr 1 <;> exact decide_eq_decide.2 (by omega)
theorem valP_c (hX : XN X) (hI : IS lo hi 2 h x n l) (ht : tyP ro h x) (hg : goodP n l) (hro : ro ≤ h.length) : CallR Try.prog ro X 178 [x] h (fun r h' => r = .tuple ⟨[x, .bool true]⟩ ∧ h' = h) := by
  refine callR_of (hX _ rfl) Try.func178 rfl (by kernel_rfl) (Nat.le_of_ble_eq_true rfl) ?_
  (repeat' first | simp -dsimp (disch := first | omega | assumption | (refine OkS.sto ?_ (by omega); first | assumption | (refine OkS.sto ?_ (by omega); first | assumption | (refine OkS.sto ?_ (by omega); first | assumption | (refine OkS.sto ?_ (by omega); first | assumption | (refine OkS.sto ?_ (by omega); first | assumption | (refine OkS.sto ?_ (by omega); first | assumption)))))) | exact Pfx.refl _ | (apply Pfx.snoc; repeat (first | exact Pfx.refl _ | assumption | apply Pfx.snoc)) | with_unfolding_all exact of_eq_true (eq_true rfl) | (simp only [List.length_append, List.length_cons, List.length_nil]; omega)) only [↓wpre0, ↓wpre1, ↓reduceIte, Int.reduceToNat, Nat.reduceAdd, Nat.reduceMul, Nat.reduceEqDiff, wpost0, wpost1, wpost2, wpost3, wpost4, ite_self, ite_true, ite_false, if_true, if_false, un_not, fr178, wrap_int, wrap_u8, iteP_yes, iteP_no, vPlaces_r hX hI ht hg hro] | refine iteP_two (fun hc hd => ?_) (fun hc hd => ?_) | refine iteP_intro (fun hc => ?_) (fun hc => ?_))
  all_goals exact ⟨rfl, rfl⟩
set_option maxHeartbeats 4000000 in
theorem Shift_c {dx dy : Int} (hX : XN X) (hI : IS lo hi 2 h x n l) (ht : tyP ro h x) (hg : goodP n l) (hr : ∀ j, -512 ≤ nth l j ∧ nth l j ≤ 512) (d1 : -32 ≤ dx ∧ dx ≤ 32) (d2 : -32 ≤ dy ∧ dy ≤ 32) (hro : ro ≤ h.length) :
    CallR Try.prog ro X 90 [x, .int .i64 dx, .int .i64 dy] h (fun r h' => ∃ z, r = .tuple ⟨[z, .bool true]⟩ ∧ Pfx h h' ∧ VG h.length 126 2 h' z n (vints (shL l dx dy n))) := by
  have n1 := hg.n1
  have n16 := hg.n16
  have hll : l.length = n * 2 := hI.1
  have cx : cdB dx = true := by unfold cdB; simp only [Bool.and_eq_true, decide_eq_true_eq]; omega
  have cy : cdB dy = true := by unfold cdB; simp only [Bool.and_eq_true, decide_eq_true_eq]; omega
  have kx := isCoord_r (ro := ro) hX dx
  have ky := isCoord_r (ro := ro) hX dy
  rw [cx] at kx
  rw [cy] at ky
  refine callR_of (hX _ rfl) Try.func90 rfl (by kernel_rfl) (Nat.le_of_ble_eq_true rfl) ?_
  (repeat' first | simp -dsimp (disch := first | omega | assumption | (refine OkS.sto ?_ (by omega); first | assumption | (refine OkS.sto ?_ (by omega); first | assumption | (refine OkS.sto ?_ (by omega); first | assumption | (refine OkS.sto ?_ (by omega); first | assumption | (refine OkS.sto ?_ (by omega); first | assumption | (refine OkS.sto ?_ (by omega); first | assumption)))))) | exact Pfx.refl _ | (apply Pfx.snoc; repeat (first | exact Pfx.refl _ | assumption | apply Pfx.snoc)) | with_unfolding_all exact of_eq_true (eq_true rfl) | (simp only [List.length_append, List.length_cons, List.length_nil]; omega)) only [↓wpre0, ↓wpre1, ↓reduceIte, Int.reduceToNat, Nat.reduceAdd, Nat.reduceMul, Nat.reduceEqDiff, wpost0, wpost1, wpost2, wpost3, wpost4, ite_self, ite_true, ite_false, if_true, if_false, un_not, xbls54_0, xbls54_1, xlen54, bin_lss, xiad54, xld126, tze126, xst126, xfad126_0, xld2, bin_add, xfad126_1, xbld126_0_1, fr90, wrap_int, wrap_u8, iteP_yes, iteP_no, vPlaces_r hX hI ht hg hro, kx, ky, hI.len Try.underlying54] | refine iteP_two (fun hc hd => ?_) (fun hc hd => ?_) | refine iteP_intro (fun hc => ?_) (fun hc => ?_))
  refine loop_rounds (fun mm e h' => ∃ (i : Nat) (z : Value), mm = n - i ∧ i ≤ n ∧ Pfx h h' ∧ e 1 = .int .i64 dx ∧ e 2 = .int .i64 dy ∧ e 8 = z ∧ e 25 = x ∧ e 26 = .int .i64 n ∧ e 27 = .int .i64 i ∧ VG h.length 126 2 h' z i (vints (shL l dx dy i))) _ ⟨0, .slice (some ⟨h.length, 0, none⟩) 0 0, rfl, ?_⟩ ?_
  · simp only [updO_at, updO_not, entry_at, List.getD_cons_zero, List.getD_cons_succ, ↓reduceIte, Nat.reduceEqDiff, true_and, and_true]
    have q1 : Pfx h (h ++ [(⟨126, []⟩ : Blk)]) := (Pfx.refl h).snoc
    have q2 : VG h.length 126 2 (h ++ [(⟨126, []⟩ : Blk)]) (.slice (some ⟨h.length, 0, none⟩) 0 0) 0 (vints (shL l dx dy 0)) := vg_new h (Nat.le_refl _)
    (repeat' (first | assumption | rfl | omega | exact q1 | exact q2 | exact Nat.zero_le _ | refine And.intro ?_ ?_))
  · rintro mm e h' ⟨i, z, hmm, hle, hp, g1, g2, g8, g25, g26, g27, hZ⟩
    have hks : (i : Int) + 1 = ((i + 1 : Nat) : Int) := by omega
    have hlp := hp.len
    have hI' := hI.pre hp
    by_cases hin : i < n
    · have a1 := hr (i * 2)
      have a2 := hr (i * 2 + 1)
      have p1 : Pfx h' (h' ++ [(⟨126, [.int .i64 (nth l (i * 2)), .int .i64 (nth l (i * 2 + 1))]⟩ : Blk)]) := (Pfx.refl h').snoc
      obtain ⟨H1, hH1⟩ : ∃ H, H = h' ++ [(⟨126, [.int .i64 (nth l (i * 2)), .int .i64 (nth l (i * 2 + 1))]⟩ : Blk)] := ⟨_, rfl⟩
      have lH1 : H1.length = h'.length + 1 := by rw [hH1]; simp
      have hZ1 : VG h.length 126 2 H1 z i (vints (shL l dx dy i)) := by rw [hH1]; exact hZ.pre p1
      obtain ⟨H, ap, vg, old, hlen⟩ := accP (P := Try.prog) (ro := ro) (T := 54) (h := H1) (k := 2) (M := [.int .i64 (nth l (i * 2) + dx), .int .i64 (nth l (i * 2 + 1) + dy)]) tel54 tsz126 tby126 tze126 (by decide) (.inl hZ1) hro (by omega) rfl rfl (by omega) (by omega)
      have eV : vints (shL l dx dy i) ++ [.int .i64 (nth l (i * 2) + dx), .int .i64 (nth l (i * 2 + 1) + dy)] = vints (shL l dx dy (i + 1)) := by rw [shL_succ, vints_app]; rfl
      rw [eV] at vg
      have pH := old.1 h (by rw [hH1]; exact hp.trans p1) (Nat.le_refl _)
      rw [hH1] at ap vg
      (repeat' first | simp -dsimp (disch := first | omega | assumption | (refine OkS.sto ?_ (by omega); first | assumption | (refine OkS.sto ?_ (by omega); first | assumption | (refine OkS.sto ?_ (by omega); first | assumption | (refine OkS.sto ?_ (by omega); first | assumption | (refine OkS.sto ?_ (by omega); first | assumption | (refine OkS.sto ?_ (by omega); first | assumption)))))) | exact Pfx.refl _ | (apply Pfx.snoc; repeat (first | exact Pfx.refl _ | assumption | apply Pfx.snoc)) | with_unfolding_all exact of_eq_true (eq_true rfl) | (simp only [List.length_append, List.length_cons, List.length_nil]; omega)) only [↓wpre0, ↓wpre1, ↓reduceIte, Int.reduceToNat, Nat.reduceAdd, Nat.reduceMul, Nat.reduceEqDiff, wpost0, wpost1, wpost2, wpost3, wpost4, ite_self, ite_true, ite_false, if_true, if_false, un_not, xbls54_0, xbls54_1, xlen54, bin_lss, xiad54, xld126, tze126, xst126, xfad126_0, xld2, bin_add, xfad126_1, xbld126_0_1, fr90, wrap_int, wrap_u8, iteP_yes, iteP_no, g1, g2, g8, g25, g26, g27, hI'.iad Try.underlying54 tsz126, IS.ldm hI' tsz126 tag126, ints_2, ap] | refine iteP_two (fun hc hd => ?_) (fun hc hd => ?_) | refine iteP_intro (fun hc => ?_) (fun hc => ?_))
      exact ⟨n - (i + 1), by omega, i + 1, _, rfl, by omega, pH, rfl, by rw [hks], vg⟩
    · have ei : i = n := by omega
      subst ei
      have hIz := hZ.vs.is
      have htz : tyP ro h' z := fun _ => by
        obtain ⟨_, b, cap, rfl, _, hb2, _⟩ := hZ
        show (h'[b]?).map Blk.ty = _
        rw [hb2]; rfl
      have hnf : Sim.flat (.tuple ⟨[z, .bool true]⟩) = false := by obtain ⟨_, b, cap, rfl, _⟩ := hZ; rfl
      (repeat' first | simp -dsimp (disch := first | omega | assumption | (refine OkS.sto ?_ (by omega); first | assumption | (refine OkS.sto ?_ (by omega); first | assumption | (refine OkS.sto ?_ (by omega); first | assumption | (refine OkS.sto ?_ (by omega); first | assumption | (refine OkS.sto ?_ (by omega); first | assumption | (refine OkS.sto ?_ (by omega); first | assumption)))))) | exact Pfx.refl _ | (apply Pfx.snoc; repeat (first | exact Pfx.refl _ | assumption | apply Pfx.snoc)) | with_unfolding_all exact of_eq_true (eq_true rfl) | (simp only [List.length_append, List.length_cons, List.length_nil]; omega)) only [↓wpre0, ↓wpre1, ↓reduceIte, Int.reduceToNat, Nat.reduceAdd, Nat.reduceMul, Nat.reduceEqDiff, wpost0, wpost1, wpost2, wpost3, wpost4, ite_self, ite_true, ite_false, if_true, if_false, un_not, xbls54_0, xbls54_1, xlen54, bin_lss, xiad54, xld126, tze126, xst126, xfad126_0, xld2, bin_add, xfad126_1, xbld126_0_1, fr90, wrap_int, wrap_u8, iteP_yes, iteP_no, g1, g2, g8, g25, g26, g27] | refine iteP_two (fun hc hd => ?_) (fun hc hd => ?_) | refine iteP_intro (fun hc => ?_) (fun hc => ?_))
      refine cf_rel (valP_c hX hIz htz (shL_good hg hr d1 d2) (by omega)) (fun q => by cases q) ?_
      rintro r h2 ⟨rfl, rfl⟩
      (repeat' first | simp -dsimp (disch := first | omega | assumption | (refine OkS.sto ?_ (by omega); first | assumption | (refine OkS.sto ?_ (by omega); first | assumption | (refine OkS.sto ?_ (by omega); first | assumption | (refine OkS.sto ?_ (by omega); first | assumption | (refine OkS.sto ?_ (by omega); first | assumption | (refine OkS.sto ?_ (by omega); first | assumption)))))) | exact Pfx.refl _ | (apply Pfx.snoc; repeat (first | exact Pfx.refl _ | assumption | apply Pfx.snoc)) | with_unfolding_all exact of_eq_true (eq_true rfl) | (simp only [List.length_append, List.length_cons, List.length_nil]; omega)) only [↓wpre0, ↓wpre1, ↓reduceIte, Int.reduceToNat, Nat.reduceAdd, Nat.reduceMul, Nat.reduceEqDiff, wpost0, wpost1, wpost2, wpost3, wpost4, ite_self, ite_true, ite_false, if_true, if_false, un_not, xbls54_0, xbls54_1, xlen54, bin_lss, xiad54, xld126, tze126, xst126, xfad126_0, xld2, bin_add, xfad126_1, xbld126_0_1, fr90, wrap_int, wrap_u8, iteP_yes, iteP_no, endH_not hnf] | refine iteP_two (fun hc hd => ?_) (fun hc hd => ?_) | refine iteP_intro (fun hc => ?_) (fun hc => ?_))
      exact ⟨z, rfl, hp, hZ⟩
end Go.Proofs.Ytelogajobjflfaa.Sim

/- Lengths of differences and gaps of what is near, walked. Lemmas only; no condition. -/
set_option linter.unusedSimpArgs false
set_option linter.unusedVariables false
set_option maxRecDepth 8000
namespace Go.Proofs.Ytelogajobjflfaa.Sim
open Go Go.RowKit Fl
variable {ro lo hi n : Nat} {X : Ext} {h : Heap} {x y : Value} {l : List Int} {u v : Int}
theorem blt_maxF {P : Program} {ts : List TypeId} {h : Heap} {k : FloatKind} {a b : Nat} : ablt P ro .max ts [.float k a, .float k b] h = some (.float k (fmax true k a b), h) := by
  refine blt_max (v := .float k (fmax true k a b)) ?_
  simp only [fold2, mm, ↓reduceIte, Option.bind, bind]
theorem fmax_or {k : FloatKind} {a b : Nat} {va vb : Int} (ha : Fl.fin k a va) (hb : Fl.fin k b vb) : fmax true k a b = a ∨ fmax true k a b = b := by
  unfold fmax
  rw [order_fin ha hb]
  rcases hc : compare va vb with _ | _ | _
  · exact .inr rfl
  · by_cases q : (k.decode a).neg = true
    · simp only [q, if_true, or_true]
    · simp only [q, if_true, if_false, true_or, Bool.false_eq_true]
  · exact .inl rfl
theorem milli_fin {c : Nat} (hc : c = 1012) : Fl.fin .f64 4562254508917369340 (((4611686018427388 : Nat) : Int) * 2 ^ c) := by
  subst hc
  exact ⟨false, 4611686018427388, 1012, by decide +kernel, rfl⟩
/-- What is small is not greater than a thousandth. -/
theorem milli_not {b : Nat} (h : bd .f64 1060 b) : fcmp .lss .f64 4562254508917369340 b = false := by
  obtain ⟨c, hc⟩ : ∃ c, c = 1012 := ⟨_, rfl⟩
  obtain ⟨w, hw⟩ : ∃ w, w = 1060 := ⟨_, rfl⟩
  rw [← hw] at h
  obtain ⟨v, h1, h2⟩ := h
  rw [cmp_lt (milli_fin hc) h1]
  refine decide_eq_false fun q => ?_
  have e : 2 ^ w ≤ 4611686018427388 * 2 ^ c := by
    rw [show w = 48 + c by omega, Nat.pow_add]
    exact Nat.mul_le_mul_right _ (by decide)
  have e2 : ((4611686018427388 : Nat) : Int) * 2 ^ c = ((4611686018427388 * 2 ^ c : Nat) : Int) := by rw [Int.natCast_mul, Int.natCast_pow]; rfl
  rw [e2] at q
  generalize 4611686018427388 * 2 ^ c = z at *
  generalize 2 ^ w = y at *
  omega
theorem fin_root {b w t : Nat} {v : Int} (h : Fl.fin .f64 b v) (h0 : 0 ≤ v) (hv : v.natAbs ≤ 2 ^ w) (ht : t + t = w + 1076) (hu : t ≤ 2096) : ∃ r, FloatKind.f64.format.sqrt b = some r ∧ bd .f64 t r := by
  obtain ⟨s, m, e, hd, rfl⟩ := h
  rw [abs_mul_pow, sg_abs] at hv
  refine sqrt_bd hd (fun hm => ?_) hv ht hu
  cases s with
  | false => rfl
  | true =>
    exfalso
    have hp := Fl.pow_pos e
    have : sg true m < 0 := by simp [sg]; omega
    have := Int.mul_neg_of_neg_of_pos this hp
    omega
/-- The power of a small number. -/
theorem pw_small {d : CB} (k : bdC 133 d) {w : Nat} (hw : w = 1043) : okC d ∧ ∃ v, Fl.fin .f64 (pwF d) v ∧ 0 ≤ v ∧ v.natAbs ≤ 2 ^ w := by
  have w1 := (wd_bd k.a).2
  have w2 := (wd_bd k.b).2
  obtain ⟨t, ht⟩ : ∃ t, t = 1042 := ⟨_, rfl⟩
  obtain ⟨v1, a1, a2, a3⟩ := sq_nn (t := t) w1 (by rw [lp64]; omega) (by rw [mx64]; omega)
  obtain ⟨v2, b1, b2, b3⟩ := sq_nn (t := t) w2 (by rw [lp64]; omega) (by rw [mx64]; omega)
  obtain ⟨v, c1, c2, c3⟩ := add_nn a1 b1 a2 b2 a3 b3 (by rw [mx64]; omega)
  refine ⟨k.ok, v, c1, c2, ?_⟩
  rw [show w = t + 1 by omega]
  exact c3
theorem Long_r (hX : XN X) (hS : X 279 = some (ext1 gSqrt)) {d : CB} (k : bdC 133 d) : ∃ r, bd .f32 135 r ∧ ∀ h, Ret Try.prog ro X 185 [toV d] h (.float .f32 r) := by
  obtain ⟨w0, hw0⟩ : ∃ w, w = 1043 := ⟨_, rfl⟩
  obtain ⟨w, hw⟩ : ∃ w, w = 1044 := ⟨_, rfl⟩
  obtain ⟨t, ht⟩ : ∃ w, w = 1060 := ⟨_, rfl⟩
  obtain ⟨ok, v, h1, h2, h3⟩ := pw_small k hw0
  obtain ⟨r, s1, s2⟩ := fin_root (w := w) (t := t) h1 h2 (Nat.le_trans h3 (Nat.pow_le_pow_right (by decide) (by omega))) (by omega) (by omega)
  have hn : (FloatKind.f64.decode (pwF d)).isNaN = false := h1.notNaN
  rw [show t = 135 + 925 by omega] at s2
  have k2 := nr_bd (u := 135) s2 (by decide)
  refine ⟨nr r, k2.2, fun h => ?_⟩
  have hc : Ret Try.prog ro X 279 [.float .f64 (pwF d)] h (.float .f64 r) := fun _ _ => cf_eq (call_ext hS (by simp only [ext1, gSqrt, hn, Bool.false_eq_true, if_false, Option.map_some, s1, s2.cf]))
  have hq : Ret Try.prog ro X 240 [.float .f64 (pwF d)] h (.float .f64 r) := by
    refine ret_of (callR_of (hX _ rfl) Try.func240 rfl (by kernel_rfl) (Nat.le_of_ble_eq_true rfl) ?_)
    (repeat' first | simp -dsimp (disch := first | omega | assumption | (refine OkS.sto ?_ (by omega); first | assumption | (refine OkS.sto ?_ (by omega); first | assumption | (refine OkS.sto ?_ (by omega); first | assumption | (refine OkS.sto ?_ (by omega); first | assumption | (refine OkS.sto ?_ (by omega); first | assumption | (refine OkS.sto ?_ (by omega); first | assumption)))))) | exact Pfx.refl _ | (apply Pfx.snoc; repeat (first | exact Pfx.refl _ | assumption | apply Pfx.snoc)) | with_unfolding_all exact of_eq_true (eq_true rfl) | (simp only [List.length_append, List.length_cons, List.length_nil]; omega)) only [↓wpre0, ↓wpre1, ↓reduceIte, Int.reduceToNat, Nat.reduceAdd, Nat.reduceMul, Nat.reduceEqDiff, wpost0, wpost1, wpost2, wpost3, wpost4, ite_self, ite_true, ite_false, if_true, if_false, fr240, wrap_int, wrap_u8, iteP_yes, iteP_no, hc] | refine iteP_two (fun hc hd => ?_) (fun hc hd => ?_) | refine iteP_intro (fun hc => ?_) (fun hc => ?_))
  refine ret_of (callR_of (hX _ rfl) Try.func185 rfl (by kernel_rfl) (Nat.le_of_ble_eq_true rfl) ?_)
  (repeat' first | simp -dsimp (disch := first | omega | assumption | (refine OkS.sto ?_ (by omega); first | assumption | (refine OkS.sto ?_ (by omega); first | assumption | (refine OkS.sto ?_ (by omega); first | assumption | (refine OkS.sto ?_ (by omega); first | assumption | (refine OkS.sto ?_ (by omega); first | assumption | (refine OkS.sto ?_ (by omega); first | assumption)))))) | exact Pfx.refl _ | (apply Pfx.snoc; repeat (first | exact Pfx.refl _ | assumption | apply Pfx.snoc)) | with_unfolding_all exact of_eq_true (eq_true rfl) | (simp only [List.length_append, List.length_cons, List.length_nil]; omega)) only [↓wpre0, ↓wpre1, ↓reduceIte, Int.reduceToNat, Nat.reduceAdd, Nat.reduceMul, Nat.reduceEqDiff, wpost0, wpost1, wpost2, wpost3, wpost4, ite_self, ite_true, ite_false, if_true, if_false, xcv59_29, fr185, wrap_int, wrap_u8, iteP_yes, iteP_no, power_r hX ok, hq, cv_n k2.1] | refine iteP_two (fun hc hd => ?_) (fun hc hd => ?_) | refine iteP_intro (fun hc => ?_) (fun hc => ?_))
/-- A difference of what is near to the same. -/
theorem dif_near {a b : Nat} {T : Int} {E F : Nat} (ha : nearP a T E) (hb : nearP b T F) (hE : E ≤ 2 ^ 47) (hF : F ≤ 2 ^ 47) : bd .f32 133 (farith .sub .f32 a b) := by
  obtain ⟨va, h1, h2⟩ := ha
  obtain ⟨vb, h3, h4⟩ := hb
  have h5 : (T * 2 ^ 85 - vb).natAbs ≤ F * 2 ^ 85 := by rw [← Int.natAbs_neg, Int.neg_sub]; exact h4
  have h6 := abs_tri h2 h5
  have h7 : E * 2 ^ 85 + F * 2 ^ 85 ≤ 2 ^ 133 := by
    refine Nat.le_trans (Nat.add_le_add (Nat.mul_le_mul_right _ hE) (Nat.mul_le_mul_right _ hF)) (by decide)
  obtain ⟨v, g1, g2, _⟩ := sub_err (u := 133) h1 h3 (Nat.le_trans h6 h7) (by decide)
  exact ⟨v, g1, g2⟩
theorem Apart_r (hX : XN X) (hS : X 279 = some (ext1 gSqrt)) {c d : CB} {T U : Int} {E F : Nat} (hc : nearC c T U E) (hd : nearC d T U F) (hE : E ≤ 2 ^ 47) (hF : F ≤ 2 ^ 47) : ∃ r, fcmp .lss .f64 4562254508917369340 r = false ∧ ∀ h, Ret Try.prog ro X 95 [toV c, toV d] h (.float .f64 r) := by
  obtain ⟨r, h1, h2⟩ := Long_r (ro := ro) hX hS (d := ⟨farith .sub .f32 c.a d.a, farith .sub .f32 c.b d.b⟩) ⟨dif_near hc.a hd.a hE hF, dif_near hc.b hd.b hE hF⟩
  have hw := wd_bd h1
  refine ⟨wd r, milli_not hw.2, fun h => ?_⟩
  have h3 := h2 h
  simp only [toV] at h3
  refine ret_of (callR_of (hX _ rfl) Try.func95 rfl (by kernel_rfl) (Nat.le_of_ble_eq_true rfl) ?_)
  (repeat' first | simp -dsimp (disch := first | omega | assumption | (refine OkS.sto ?_ (by omega); first | assumption | (refine OkS.sto ?_ (by omega); first | assumption | (refine OkS.sto ?_ (by omega); first | assumption | (refine OkS.sto ?_ (by omega); first | assumption | (refine OkS.sto ?_ (by omega); first | assumption | (refine OkS.sto ?_ (by omega); first | assumption)))))) | exact Pfx.refl _ | (apply Pfx.snoc; repeat (first | exact Pfx.refl _ | assumption | apply Pfx.snoc)) | with_unfolding_all exact of_eq_true (eq_true rfl) | (simp only [List.length_append, List.length_cons, List.length_nil]; omega)) only [↓wpre0, ↓wpre1, ↓reduceIte, Int.reduceToNat, Nat.reduceAdd, Nat.reduceMul, Nat.reduceEqDiff, wpost0, wpost1, wpost2, wpost3, wpost4, ite_self, ite_true, ite_false, if_true, if_false, bin_csub, xcv29_59, fr95, wrap_int, wrap_u8, iteP_yes, iteP_no, h3, cv_w hw.1] | refine iteP_two (fun hc hd => ?_) (fun hc hd => ?_) | refine iteP_intro (fun hc => ?_) (fun hc => ?_))
/-- The power of a phasor is nearly one. -/
theorem pw_near {c : CB} {X1 Y1 : Int} {E : Nat} (hc : nearC c X1 Y1 E) (x1 : X1.natAbs ≤ 2 ^ 65) (y1 : Y1.natAbs ≤ 2 ^ 65) (hE : E ≤ 2 ^ 41) (hT : ((18446744073709551616 : Int) * 2 ^ 64 - (X1 * X1 + Y1 * Y1)).natAbs ≤ 2 ^ 109) : okC c ∧ okN (pwF c) ∧ nearP (nr (pwF c)) 18446744073709551616 (2 ^ 47) := by
  obtain ⟨m, hm⟩ : ∃ m, m = 776 := ⟨_, rfl⟩
  obtain ⟨D, hD⟩ : ∃ D, D = 925 := ⟨_, rfl⟩
  have hE' : E ≤ 2 ^ 50 := Nat.le_trans hE (by decide)
  obtain ⟨w1, w2, p3, f3, n3, b3⟩ := prod_near hm hD hc.a hc.a x1 x1 hE' hE'
  obtain ⟨w3, w4, p4, f4, n4, b4⟩ := prod_near hm hD hc.b hc.b y1 y1 hE' hE'
  have hf : FloatKind.f64.format.fractionBits = 52 := rfl
  have two : ∀ {a b : Nat}, a ≤ 2 ^ (m + 302) → b ≤ 2 ^ (m + 302) → a + b ≤ 2 ^ (m + 303) := fun ha hb => by
    rw [show m + 303 = (m + 302) + 1 by omega, Nat.pow_succ]; omega
  obtain ⟨r, k1, k2, k3⟩ := add_err (u := m + 303) f3 f4 (Nat.le_trans (Int.natAbs_add_le p3 p4) (two b3 b4)) (by rw [mx64]; omega)
  rw [hf, show m + 303 - 52 = (m + 250) + 1 by omega] at k3
  have k4 := abs_add2 n3 n4
  have k5 := abs_tri (half_le k3) k4
  have ek : X1 * X1 * 2 ^ 170 * 2 ^ m + Y1 * Y1 * 2 ^ 170 * 2 ^ m = (X1 * X1 + Y1 * Y1) * 2 ^ 170 * 2 ^ m := by rw [Int.add_mul, Int.add_mul]
  rw [ek] at k5
  obtain ⟨c0, hc0⟩ : ∃ c, c = 279 := ⟨_, rfl⟩
  have sm := small_sum (m := m) hc0 hE hE
  have B := part_near hc0 hm hD (b := pwF c) k1 (Nat.le_trans k5 (by rw [Nat.add_comm]; exact sm)) hT (by decide)
  exact ⟨⟨w1, w3⟩, B.1, B.2⟩
theorem one_fin' {D : Nat} (hD : D = 925) : Fl.fin .f64 4607182418800017408 ((18446744073709551616 * 2 ^ 85) * 2 ^ D) := by
  have h := one_fin
  have e : ((4096 : Nat) : Int) * 2 ^ 1062 = 18446744073709551616 * 2 ^ 85 * 2 ^ D := by
    have e1 : ((4096 : Nat) : Int) = 2 ^ 12 := rfl
    have e2 : (18446744073709551616 : Int) = 2 ^ 64 := rfl
    rw [e1, e2, ← Int.pow_add, ← Int.pow_add, ← Int.pow_add, hD]
  rw [e] at h
  exact h
/-- Two wide numbers that differ by little. -/
theorem gap_bd {a b : Nat} {va vb : Int} (ha : Fl.fin .f64 a va) (hb : Fl.fin .f64 b vb) {w : Nat} (hw : w = 1057) (h : (va - vb).natAbs ≤ 2 ^ w) : bd .f64 1060 (farith .sub .f64 a b) := by
  obtain ⟨v, g1, g2, _⟩ := sub_err (u := w) ha hb h (by rw [mx64]; omega)
  exact bd.mono (u := w) ⟨v, g1, g2⟩ (by omega)
theorem Gap1_r (hX : XN X) {b : Nat} (hb : nearP b 18446744073709551616 (2 ^ 47)) : okW b ∧ ∃ r, fcmp .lss .f64 4562254508917369340 r = false ∧ ∀ h, Ret Try.prog ro X 87 [.float .f64 (wd b), .float .f64 4607182418800017408] h (.float .f64 r) := by
  obtain ⟨D, hD⟩ : ∃ D, D = 925 := ⟨_, rfl⟩
  obtain ⟨w, hw⟩ : ∃ w, w = 1057 := ⟨_, rfl⟩
  obtain ⟨v, h1, h2⟩ := hb
  have ok : okW b := by
    obtain ⟨r, g1, _⟩ := widen_fin h1
    exact (okW_of g1).1
  have hv := wd_fin h1
  rw [← hD] at hv
  have h1' := one_fin' hD
  have hdif : (v * 2 ^ D - 18446744073709551616 * 2 ^ 85 * 2 ^ D).natAbs ≤ 2 ^ w := by
    have e : v * 2 ^ D - 18446744073709551616 * 2 ^ 85 * 2 ^ D = (v - 18446744073709551616 * 2 ^ 85) * 2 ^ D := (Int.sub_mul _ _ _).symm
    rw [e, abs_mul_pow]
    refine Nat.le_trans (Nat.mul_le_mul_right _ h2) ?_
    rw [← Nat.pow_add, ← Nat.pow_add]
    exact Nat.pow_le_pow_right (by decide) (by omega)
  have b1 := gap_bd hv h1' hw hdif
  have b2 := gap_bd h1' hv hw (by rw [← Int.natAbs_neg, Int.neg_sub]; exact hdif)
  obtain ⟨va, fa, _⟩ := id b1
  obtain ⟨vb, fb, _⟩ := id b2
  refine ⟨ok, fmax true .f64 (farith .sub .f64 (wd b) 4607182418800017408) (farith .sub .f64 4607182418800017408 (wd b)), ?_, fun h => ?_⟩
  · rcases fmax_or fa fb with q | q <;> rw [q]
    · exact milli_not b1
    · exact milli_not b2
  · refine ret_of (callR_of (hX _ rfl) Try.func87 rfl (by kernel_rfl) (Nat.le_of_ble_eq_true rfl) ?_)
    (repeat' first | simp -dsimp (disch := first | omega | assumption | (refine OkS.sto ?_ (by omega); first | assumption | (refine OkS.sto ?_ (by omega); first | assumption | (refine OkS.sto ?_ (by omega); first | assumption | (refine OkS.sto ?_ (by omega); first | assumption | (refine OkS.sto ?_ (by omega); first | assumption | (refine OkS.sto ?_ (by omega); first | assumption)))))) | exact Pfx.refl _ | (apply Pfx.snoc; repeat (first | exact Pfx.refl _ | assumption | apply Pfx.snoc)) | with_unfolding_all exact of_eq_true (eq_true rfl) | (simp only [List.length_append, List.length_cons, List.length_nil]; omega)) only [↓wpre0, ↓wpre1, ↓reduceIte, Int.reduceToNat, Nat.reduceAdd, Nat.reduceMul, Nat.reduceEqDiff, wpost0, wpost1, wpost2, wpost3, wpost4, ite_self, ite_true, ite_false, if_true, if_false, bin_fsub, blt_maxI, fr87, wrap_int, wrap_u8, iteP_yes, iteP_no, blt_maxF] | refine iteP_two (fun hc hd => ?_) (fun hc hd => ?_) | refine iteP_intro (fun hc => ?_) (fun hc => ?_))
end Go.Proofs.Ytelogajobjflfaa.Sim

/- Grids and lines of places, walked. Lemmas only; no condition. -/
set_option linter.unusedSimpArgs false
set_option linter.unusedVariables false
set_option maxRecDepth 8000
namespace Go.Proofs.Ytelogajobjflfaa.Sim
open Go Go.RowKit Fl
variable {ro lo hi n : Nat} {X : Ext} {h : Heap} {x y : Value} {l : List Int} {u v : Int}
/-- The coordinates of a grid. -/
def grL (c : Nat) (dx dy : Int) (m : Nat) : List Int := (List.range m).flatMap fun j => [((j % c : Nat) : Int) * dx, ((j / c : Nat) : Int) * dy]
theorem grL_succ {c m : Nat} {dx dy : Int} : grL c dx dy (m + 1) = grL c dx dy m ++ [((m % c : Nat) : Int) * dx, ((m / c : Nat) : Int) * dy] := by simp [grL, List.range_succ]
theorem grL_len {c : Nat} {dx dy : Int} : ∀ m, (grL c dx dy m).length = m * 2
  | 0 => rfl
  | m + 1 => by rw [grL_succ, List.length_append, grL_len m]; simp; omega
theorem grL_at {c : Nat} {dx dy : Int} : ∀ {m i : Nat}, i < m → nth (grL c dx dy m) (i * 2) = ((i % c : Nat) : Int) * dx ∧ nth (grL c dx dy m) (i * 2 + 1) = ((i / c : Nat) : Int) * dy
  | 0, i, h => by omega
  | m + 1, i, h => by
    have hl := grL_len (c := c) (dx := dx) (dy := dy) m
    rw [grL_succ]
    by_cases e : i = m
    · subst e
      rw [nth_app_r (by omega), nth_app_r (by omega), hl]
      have e1 : i * 2 - i * 2 = 0 := by omega
      have e2 : i * 2 + 1 - i * 2 = 1 := by omega
      rw [e1, e2]
      exact ⟨rfl, rfl⟩
    · rw [nth_app_l (by omega), nth_app_l (by omega)]
      exact grL_at (by omega)
theorem gr_rng {i : Nat} {d : Int} (hi : i < 16) (h1 : -4096 ≤ d) (h2 : d ≤ 4096) : -65536 ≤ (i : Int) * d ∧ (i : Int) * d ≤ 65536 := by
  have e : ((i : Int) * d).natAbs = i * d.natAbs := by rw [Int.natAbs_mul, Int.natAbs_natCast]
  have : i * d.natAbs ≤ 16 * 4096 := Nat.mul_le_mul (by omega) (by omega)
  omega
set_option maxHeartbeats 8000000 in
theorem Grid_c {c r : Nat} {dx dy : Int} (hX : XN X) (c1 : 1 ≤ c) (c2 : c ≤ 16) (r1 : 1 ≤ r) (r2 : r ≤ 16) (hcr : n = c * r) (hx : cdB dx = true) (hy : cdB dy = true) (hg : goodP n (grL c dx dy n)) (hro : ro ≤ h.length) :
    CallR Try.prog ro X 97 [.int .i64 c, .int .i64 r, .int .i64 dx, .int .i64 dy] h (fun r h' => ∃ z, r = .tuple ⟨[z, .bool true]⟩ ∧ Pfx h h' ∧ VG h.length 126 2 h' z n (vints (grL c dx dy n))) := by
  have n16 := hg.n16
  have kx := isCoord_r (ro := ro) hX dx
  have ky := isCoord_r (ro := ro) hX dy
  rw [hx] at kx
  rw [hy] at ky
  have kc := isCnt_r (ro := ro) hX (c : Int)
  have kr := isCnt_r (ro := ro) hX (r : Int)
  have wc : (decide ((1 : Int) ≤ (c : Int)) && decide ((c : Int) ≤ 16)) = true := by simp; omega
  have wr : (decide ((1 : Int) ≤ (r : Int)) && decide ((r : Int) ≤ 16)) = true := by simp; omega
  rw [wc] at kc
  rw [wr] at kr
  unfold cdB at hx hy
  simp only [Bool.and_eq_true, decide_eq_true_eq] at hx hy
  refine callR_of (hX _ rfl) Try.func97 rfl (by kernel_rfl) (Nat.le_of_ble_eq_true rfl) ?_
  (repeat' first | simp -dsimp (disch := first | omega | assumption | (refine OkS.sto ?_ (by omega); first | assumption | (refine OkS.sto ?_ (by omega); first | assumption | (refine OkS.sto ?_ (by omega); first | assumption | (refine OkS.sto ?_ (by omega); first | assumption | (refine OkS.sto ?_ (by omega); first | assumption | (refine OkS.sto ?_ (by omega); first | assumption)))))) | exact Pfx.refl _ | (apply Pfx.snoc; repeat (first | exact Pfx.refl _ | assumption | apply Pfx.snoc)) | with_unfolding_all exact of_eq_true (eq_true rfl) | (simp only [List.length_append, List.length_cons, List.length_nil]; omega)) only [↓wpre0, ↓wpre1, ↓reduceIte, Int.reduceToNat, Nat.reduceAdd, Nat.reduceMul, Nat.reduceEqDiff, wpost0, wpost1, wpost2, wpost3, wpost4, ite_self, ite_true, ite_false, if_true, if_false, un_not, xbls54_0, xbls54_1, bin_lss, bin_mul, xbld126_0_1, bin_add, fr97, wrap_int, wrap_u8, iteP_yes, iteP_no, kc, kr, kx, ky] | refine iteP_two (fun hc hd => ?_) (fun hc hd => ?_) | refine iteP_intro (fun hc => ?_) (fun hc => ?_))
  refine loop_rounds (fun mm e h' => ∃ (j : Nat) (z : Value), mm = r - j ∧ j ≤ r ∧ Pfx h h' ∧ e 0 = .int .i64 c ∧ e 2 = .int .i64 dx ∧ e 3 = .int .i64 dy ∧ e 10 = z ∧ e 32 = .int .i64 r ∧ e 33 = .int .i64 j ∧ VG h.length 126 2 h' z (j * c) (vints (grL c dx dy (j * c)))) _ ⟨0, .slice (some ⟨h.length, 0, none⟩) 0 0, rfl, ?_⟩ ?_
  · simp only [updO_at, updO_not, entry_at, List.getD_cons_zero, List.getD_cons_succ, ↓reduceIte, Nat.reduceEqDiff, true_and, and_true]
    have q1 : Pfx h (h ++ [(⟨126, []⟩ : Blk)]) := (Pfx.refl h).snoc
    have q2 : VG h.length 126 2 (h ++ [(⟨126, []⟩ : Blk)]) (.slice (some ⟨h.length, 0, none⟩) 0 0) (0 * c) (vints (grL c dx dy (0 * c))) := by rw [Nat.zero_mul]; exact vg_new h (Nat.le_refl _)
    (repeat' (first | assumption | rfl | omega | exact q1 | exact q2 | exact Nat.zero_le _ | refine And.intro ?_ ?_))
  · rintro mm e h' ⟨j, z, hmm, hle, hp, g0, g2, g3, g10, g32, g33, hZ⟩
    have hjs : (j : Int) + 1 = ((j + 1 : Nat) : Int) := by omega
    have hlp := hp.len
    by_cases hjn : j < r
    · (repeat' first | simp -dsimp (disch := first | omega | assumption | (refine OkS.sto ?_ (by omega); first | assumption | (refine OkS.sto ?_ (by omega); first | assumption | (refine OkS.sto ?_ (by omega); first | assumption | (refine OkS.sto ?_ (by omega); first | assumption | (refine OkS.sto ?_ (by omega); first | assumption | (refine OkS.sto ?_ (by omega); first | assumption)))))) | exact Pfx.refl _ | (apply Pfx.snoc; repeat (first | exact Pfx.refl _ | assumption | apply Pfx.snoc)) | with_unfolding_all exact of_eq_true (eq_true rfl) | (simp only [List.length_append, List.length_cons, List.length_nil]; omega)) only [↓wpre0, ↓wpre1, ↓reduceIte, Int.reduceToNat, Nat.reduceAdd, Nat.reduceMul, Nat.reduceEqDiff, wpost0, wpost1, wpost2, wpost3, wpost4, ite_self, ite_true, ite_false, if_true, if_false, un_not, xbls54_0, xbls54_1, bin_lss, bin_mul, xbld126_0_1, bin_add, fr97, wrap_int, wrap_u8, iteP_yes, iteP_no, g0, g2, g3, g10, g32, g33] | refine iteP_two (fun hc hd => ?_) (fun hc hd => ?_) | refine iteP_intro (fun hc => ?_) (fun hc => ?_))
      refine loop_rounds (fun mm e h' => ∃ (i : Nat) (z : Value), mm = c - i ∧ i ≤ c ∧ Pfx h h' ∧ e 0 = .int .i64 c ∧ e 2 = .int .i64 dx ∧ e 3 = .int .i64 dy ∧ e 11 = .int .i64 j ∧ e 10 = z ∧ e 32 = .int .i64 r ∧ e 33 = .int .i64 j ∧ e 36 = .int .i64 c ∧ e 37 = .int .i64 i ∧ VG h.length 126 2 h' z (j * c + i) (vints (grL c dx dy (j * c + i)))) _ ⟨0, z, rfl, ?_⟩ ?_
      · simp only [updO_at, updO_not, entry_at, List.getD_cons_zero, List.getD_cons_succ, ↓reduceIte, Nat.reduceEqDiff, true_and, and_true]
        (repeat' (first | assumption | rfl | omega | exact hp | exact hZ | exact Nat.zero_le _ | refine And.intro ?_ ?_))
      · clear hp hlp hZ g0 g2 g3 g10 g32 g33
        rintro mm e h' ⟨i, z, hmm, hle, hp, g0, g2, g3, g11, g10, g32, g33, g36, g37, hZ⟩
        have hks : (i : Int) + 1 = ((i + 1 : Nat) : Int) := by omega
        have hlp := hp.len
        by_cases hin : i < c
        · have a1 := gr_rng (i := i) (d := dx) (by omega) (by omega) (by omega)
          have a2 := gr_rng (i := j) (d := dy) (by omega) (by omega) (by omega)
          have hm : j * c + i < n := by
            have := Nat.mul_le_mul_right c (show j + 1 ≤ r from hjn)
            rw [Nat.add_mul, Nat.one_mul] at this
            rw [hcr, Nat.mul_comm c r]; omega
          have em1 : (j * c + i) % c = i := by rw [Nat.mul_comm, Nat.mul_add_mod, Nat.mod_eq_of_lt hin]
          have em2 : (j * c + i) / c = j := by rw [Nat.mul_comm, Nat.mul_add_div (by omega), Nat.div_eq_of_lt hin, Nat.add_zero]
          obtain ⟨H, ap, vg, old, hlen⟩ := accP (P := Try.prog) (ro := ro) (T := 54) (h := h') (k := 2) (M := [.int .i64 ((i : Int) * dx), .int .i64 ((j : Int) * dy)]) tel54 tsz126 tby126 tze126 (by decide) (.inl hZ) hro (by omega) rfl rfl (by omega) (by omega)
          have eV : vints (grL c dx dy (j * c + i)) ++ [.int .i64 ((i : Int) * dx), .int .i64 ((j : Int) * dy)] = vints (grL c dx dy (j * c + (i + 1))) := by rw [← Nat.add_assoc, grL_succ, vints_app, em1, em2]; rfl
          rw [eV, Nat.add_assoc] at vg
          have pH := old.1 h hp (Nat.le_refl _)
          (repeat' first | simp -dsimp (disch := first | omega | assumption | (refine OkS.sto ?_ (by omega); first | assumption | (refine OkS.sto ?_ (by omega); first | assumption | (refine OkS.sto ?_ (by omega); first | assumption | (refine OkS.sto ?_ (by omega); first | assumption | (refine OkS.sto ?_ (by omega); first | assumption | (refine OkS.sto ?_ (by omega); first | assumption)))))) | exact Pfx.refl _ | (apply Pfx.snoc; repeat (first | exact Pfx.refl _ | assumption | apply Pfx.snoc)) | with_unfolding_all exact of_eq_true (eq_true rfl) | (simp only [List.length_append, List.length_cons, List.length_nil]; omega)) only [↓wpre0, ↓wpre1, ↓reduceIte, Int.reduceToNat, Nat.reduceAdd, Nat.reduceMul, Nat.reduceEqDiff, wpost0, wpost1, wpost2, wpost3, wpost4, ite_self, ite_true, ite_false, if_true, if_false, un_not, xbls54_0, xbls54_1, bin_lss, bin_mul, xbld126_0_1, bin_add, fr97, wrap_int, wrap_u8, iteP_yes, iteP_no, g0, g2, g3, g11, g10, g32, g33, g36, g37, ap] | refine iteP_two (fun hc hd => ?_) (fun hc hd => ?_) | refine iteP_intro (fun hc => ?_) (fun hc => ?_))
          exact ⟨c - (i + 1), by omega, i + 1, _, rfl, by omega, pH, rfl, by rw [hks], vg⟩
        · have ei : i = c := by omega
          subst ei
          have hZ' : VG h.length 126 2 h' z ((j + 1) * i) (vints (grL i dx dy ((j + 1) * i))) := by rw [Nat.add_mul, Nat.one_mul]; exact hZ
          (repeat' first | simp -dsimp (disch := first | omega | assumption | (refine OkS.sto ?_ (by omega); first | assumption | (refine OkS.sto ?_ (by omega); first | assumption | (refine OkS.sto ?_ (by omega); first | assumption | (refine OkS.sto ?_ (by omega); first | assumption | (refine OkS.sto ?_ (by omega); first | assumption | (refine OkS.sto ?_ (by omega); first | assumption)))))) | exact Pfx.refl _ | (apply Pfx.snoc; repeat (first | exact Pfx.refl _ | assumption | apply Pfx.snoc)) | with_unfolding_all exact of_eq_true (eq_true rfl) | (simp only [List.length_append, List.length_cons, List.length_nil]; omega)) only [↓wpre0, ↓wpre1, ↓reduceIte, Int.reduceToNat, Nat.reduceAdd, Nat.reduceMul, Nat.reduceEqDiff, wpost0, wpost1, wpost2, wpost3, wpost4, ite_self, ite_true, ite_false, if_true, if_false, un_not, xbls54_0, xbls54_1, bin_lss, bin_mul, xbld126_0_1, bin_add, fr97, wrap_int, wrap_u8, iteP_yes, iteP_no, g0, g2, g3, g11, g10, g32, g33, g36, g37] | refine iteP_two (fun hc hd => ?_) (fun hc hd => ?_) | refine iteP_intro (fun hc => ?_) (fun hc => ?_))
          exact ⟨r - (j + 1), by omega, j + 1, _, rfl, by omega, hp, rfl, by rw [hjs], hZ'⟩
    · have ei : j = r := by omega
      subst ei
      rw [Nat.mul_comm j c, ← hcr] at hZ
      have hIz := hZ.vs.is
      have htz : tyP ro h' z := fun _ => by
        obtain ⟨_, b, cap, rfl, _, hb2, _⟩ := hZ
        show (h'[b]?).map Blk.ty = _
        rw [hb2]; rfl
      have hnf : Sim.flat (.tuple ⟨[z, .bool true]⟩) = false := by obtain ⟨_, b, cap, rfl, _⟩ := hZ; rfl
      (repeat' first | simp -dsimp (disch := first | omega | assumption | (refine OkS.sto ?_ (by omega); first | assumption | (refine OkS.sto ?_ (by omega); first | assumption | (refine OkS.sto ?_ (by omega); first | assumption | (refine OkS.sto ?_ (by omega); first | assumption | (refine OkS.sto ?_ (by omega); first | assumption | (refine OkS.sto ?_ (by omega); first | assumption)))))) | exact Pfx.refl _ | (apply Pfx.snoc; repeat (first | exact Pfx.refl _ | assumption | apply Pfx.snoc)) | with_unfolding_all exact of_eq_true (eq_true rfl) | (simp only [List.length_append, List.length_cons, List.length_nil]; omega)) only [↓wpre0, ↓wpre1, ↓reduceIte, Int.reduceToNat, Nat.reduceAdd, Nat.reduceMul, Nat.reduceEqDiff, wpost0, wpost1, wpost2, wpost3, wpost4, ite_self, ite_true, ite_false, if_true, if_false, un_not, xbls54_0, xbls54_1, bin_lss, bin_mul, xbld126_0_1, bin_add, fr97, wrap_int, wrap_u8, iteP_yes, iteP_no, g0, g2, g3, g10, g32, g33] | refine iteP_two (fun hc hd => ?_) (fun hc hd => ?_) | refine iteP_intro (fun hc => ?_) (fun hc => ?_))
      refine cf_rel (valP_c hX hIz htz hg (by omega)) (fun q => by cases q) ?_
      rintro r h2 ⟨rfl, rfl⟩
      (repeat' first | simp -dsimp (disch := first | omega | assumption | (refine OkS.sto ?_ (by omega); first | assumption | (refine OkS.sto ?_ (by omega); first | assumption | (refine OkS.sto ?_ (by omega); first | assumption | (refine OkS.sto ?_ (by omega); first | assumption | (refine OkS.sto ?_ (by omega); first | assumption | (refine OkS.sto ?_ (by omega); first | assumption)))))) | exact Pfx.refl _ | (apply Pfx.snoc; repeat (first | exact Pfx.refl _ | assumption | apply Pfx.snoc)) | with_unfolding_all exact of_eq_true (eq_true rfl) | (simp only [List.length_append, List.length_cons, List.length_nil]; omega)) only [↓wpre0, ↓wpre1, ↓reduceIte, Int.reduceToNat, Nat.reduceAdd, Nat.reduceMul, Nat.reduceEqDiff, wpost0, wpost1, wpost2, wpost3, wpost4, ite_self, ite_true, ite_false, if_true, if_false, un_not, xbls54_0, xbls54_1, bin_lss, bin_mul, xbld126_0_1, bin_add, fr97, wrap_int, wrap_u8, iteP_yes, iteP_no, endH_not hnf] | refine iteP_two (fun hc hd => ?_) (fun hc hd => ?_) | refine iteP_intro (fun hc => ?_) (fun hc => ?_))
      exact ⟨z, rfl, hp, hZ⟩
theorem Line_c (hX : XN X) (hro : ro ≤ h.length) :
    CallR Try.prog ro X 96 [.int .i64 8, .int .i64 32] h (fun r h' => ∃ z, r = .tuple ⟨[z, .bool true]⟩ ∧ Pfx h h' ∧ VG h.length 126 2 h' z 8 (vints (grL 8 32 0 8))) := by
  have hg : goodP 8 (grL 8 32 0 8) := by
    refine ⟨by decide, by decide, by decide, fun i k hi hk => ?_⟩
    have q : ∀ i, i < 8 → ∀ k, k < i → samB (grL 8 32 0 8) i k = false := by decide
    exact q i hi k hk
  refine callR_of (hX _ rfl) Try.func96 rfl (by kernel_rfl) (Nat.le_of_ble_eq_true rfl) ?_
  (repeat' first | simp -dsimp (disch := first | omega | assumption | (refine OkS.sto ?_ (by omega); first | assumption | (refine OkS.sto ?_ (by omega); first | assumption | (refine OkS.sto ?_ (by omega); first | assumption | (refine OkS.sto ?_ (by omega); first | assumption | (refine OkS.sto ?_ (by omega); first | assumption | (refine OkS.sto ?_ (by omega); first | assumption)))))) | exact Pfx.refl _ | (apply Pfx.snoc; repeat (first | exact Pfx.refl _ | assumption | apply Pfx.snoc)) | with_unfolding_all exact of_eq_true (eq_true rfl) | (simp only [List.length_append, List.length_cons, List.length_nil]; omega)) only [↓wpre0, ↓wpre1, ↓reduceIte, Int.reduceToNat, Nat.reduceAdd, Nat.reduceMul, Nat.reduceEqDiff, wpost0, wpost1, wpost2, wpost3, wpost4, ite_self, ite_true, ite_false, if_true, if_false, fr96, wrap_int, wrap_u8, iteP_yes, iteP_no] | refine iteP_two (fun hc hd => ?_) (fun hc hd => ?_) | refine iteP_intro (fun hc => ?_) (fun hc => ?_))
  refine cf_rel (Grid_c (n := 8) (c := 8) (r := 1) (dx := 32) (dy := 0) hX (by decide) (by decide) (by decide) (by decide) rfl (by decide) (by decide) hg hro) (fun q => by cases q) ?_
  rintro r h2 ⟨z, rfl, hp, hZ⟩
  have hnf : Sim.flat (.tuple ⟨[z, .bool true]⟩) = false := by obtain ⟨_, b, cap, rfl, _⟩ := hZ; rfl
  (repeat' first | simp -dsimp (disch := first | omega | assumption | (refine OkS.sto ?_ (by omega); first | assumption | (refine OkS.sto ?_ (by omega); first | assumption | (refine OkS.sto ?_ (by omega); first | assumption | (refine OkS.sto ?_ (by omega); first | assumption | (refine OkS.sto ?_ (by omega); first | assumption | (refine OkS.sto ?_ (by omega); first | assumption)))))) | exact Pfx.refl _ | (apply Pfx.snoc; repeat (first | exact Pfx.refl _ | assumption | apply Pfx.snoc)) | with_unfolding_all exact of_eq_true (eq_true rfl) | (simp only [List.length_append, List.length_cons, List.length_nil]; omega)) only [↓wpre0, ↓wpre1, ↓reduceIte, Int.reduceToNat, Nat.reduceAdd, Nat.reduceMul, Nat.reduceEqDiff, wpost0, wpost1, wpost2, wpost3, wpost4, ite_self, ite_true, ite_false, if_true, if_false, fr96, wrap_int, wrap_u8, iteP_yes, iteP_no, endH_not hnf] | refine iteP_two (fun hc hd => ?_) (fun hc hd => ?_) | refine iteP_intro (fun hc => ?_) (fun hc => ?_))
  exact ⟨z, rfl, hp, hZ⟩
end Go.Proofs.Ytelogajobjflfaa.Sim

/- Phasors of quarters, of sums of steps; steps and grids, walked. Lemmas only; no condition. -/
set_option linter.unusedSimpArgs false
set_option linter.unusedVariables false
set_option maxRecDepth 8000
namespace Go.Proofs.Ytelogajobjflfaa.Sim
open Go Go.RowKit Fl
variable {ro lo hi n : Nat} {X : Ext} {h : Heap} {x y : Value} {l : List Int} {u v : Int}
theorem wt_le {k : Nat} (hk : k ≤ 1024) : ((Wt k : Nat) : Int).natAbs ≤ 18446744073710600192 := by
  have h := allK_at t1_all k (Nat.zero_le _) (by omega)
  unfold t1K at h
  simp only [Bool.and_eq_true, decide_eq_true_eq] at h
  rw [Int.natAbs_natCast]
  exact h.2
theorem q_le (s : Nat) : (qX Wt s).natAbs ≤ 18446744073710600192 ∧ (qY Wt s).natAbs ≤ 18446744073710600192 := by
  unfold qX qY
  exact rot_le (wt_le (by omega)) (wt_le (by omega))
theorem q_mod (s : Nat) : qX Wt (s % 4096) = qX Wt s ∧ qY Wt (s % 4096) = qY Wt s := by
  unfold qX qY
  rw [show s % 4096 / 1024 % 4 = s / 1024 % 4 by omega, show s % 4096 % 1024 = s % 1024 by omega]
  exact ⟨rfl, rfl⟩
theorem rot_sq (q : Nat) (C S : Int) : rotX q C S * rotX q C S + rotY q C S * rotY q C S = S * S + C * C := by
  unfold rotX rotY
  split
  · exact Int.add_comm _ _
  · split
    · rw [Int.neg_mul_neg]
    · split
      · rw [Int.neg_mul_neg, Int.neg_mul_neg]; exact Int.add_comm _ _
      · rw [Int.neg_mul_neg]
theorem q_sq (s : Nat) : ((18446744073709551616 : Int) * 2 ^ 64 - (qX Wt s * qX Wt s + qY Wt s * qY Wt s)).natAbs ≤ 2 ^ 109 := by
  have h := wt_sq (k := s % 1024) (by omega)
  unfold qX qY
  rw [rot_sq]
  have e : (18446744073709551616 : Int) * 2 ^ 64 = 340282366920938463463374607431768211456 := by decide
  have e2 : (38685626227668133590597632 : Nat) ≤ 2 ^ 109 := by decide
  rw [e]
  generalize (Wt (s % 1024) : Int) * Wt (s % 1024) + (Wt (1024 - s % 1024) : Int) * Wt (1024 - s % 1024) = z at *
  omega
theorem le65 {z : Int} (h : z.natAbs ≤ 18446744073710600192) : z.natAbs ≤ 2 ^ 65 := Nat.le_trans h (by decide)
theorem le6440 {z : Int} (h : z.natAbs ≤ 18446744073710600192) : z.natAbs ≤ 2 ^ 64 + 2 ^ 40 := Nat.le_trans h (by decide)
theorem PH_pw {s : Int} (hs : s.natAbs < 2 ^ 27) : okC (PH s) ∧ okN (pwF (PH s)) ∧ nearP (nr (pwF (PH s))) 18446744073709551616 (2 ^ 47) :=
  pw_near (PH_near hs) (le65 (q_le _).1) (le65 (q_le _).2) (Nat.le_refl _) (q_sq _)
theorem stM_add (s t : Int) : stM (s + t) = (stM s + stM t) % 4096 := by unfold stM; omega
/-- The product of two phasors is near to the phasor of the sum. -/
theorem PH_mul {s t : Int} (hs : s.natAbs < 2 ^ 27) (ht : t.natAbs < 2 ^ 27) : okM (PH s) (PH t) ∧ nearC (mulB (PH s) (PH t)) (qX Wt (stM (s + t))) (qY Wt (stM (s + t))) (2 ^ 47) := by
  have hN : stM t ≤ 4096 := by unfold stM; omega
  obtain ⟨a, b⟩ := q_near tabW (stM s) hN
  obtain ⟨e1, e2⟩ := q_mod (stM s + stM t)
  rw [stM_add, e1, e2]
  have e : (18446744073709551616 : Int) = 2 ^ 64 := by decide
  rw [e] at a b
  exact mul_near (PH_near hs) (PH_near ht) (le65 (q_le _).1) (le65 (q_le _).2) (le65 (q_le _).1) (le65 (q_le _).2) (Nat.le_refl _) (Nat.le_refl _) a b (le6440 (q_le _).1) (le6440 (q_le _).2)
/-! ### Quarters -/
def unB : CB := ⟨1065353216, 0⟩
def imB : CB := ⟨0, 1065353216⟩
def muB : CB := ⟨3212836864, 0⟩
/-- So many quarters by products. -/
def trF : Nat → CB
  | 0 => unB
  | r + 1 => mulB (trF r) imB
def tuF (r : Nat) : CB := mulB (trF r) muB
def nwF (r : Nat) : Nat → CB
  | 0 => unB
  | i + 1 => mulB (nwF r i) (tuF r)
def eqQ (c d : CB) : Bool := fcmp .eql .f32 c.a d.a && fcmp .eql .f32 c.b d.b
def okMb (u v : CB) : Bool := decide (fconv .f32 u.a .f64 = some (wd u.a)) && decide (fconv .f32 u.b .f64 = some (wd u.b)) && (decide (fconv .f32 v.a .f64 = some (wd v.a)) && decide (fconv .f32 v.b .f64 = some (wd v.b))) && decide (fconv .f64 (mre u v) .f32 = some (nr (mre u v))) && decide (fconv .f64 (mim u v) .f32 = some (nr (mim u v)))
theorem okM_b {u v : CB} (h : okMb u v = true) : okM u v := by
  unfold okMb at h
  simp only [Bool.and_eq_true, decide_eq_true_eq] at h
  obtain ⟨⟨⟨⟨a, b⟩, c, d⟩, e⟩, f⟩ := h
  exact ⟨⟨a, b⟩, ⟨c, d⟩, e, f⟩
def rows5 (f : Nat → Bool) : Bool := f 0 && f 1 && f 2 && f 3 && f 4
theorem rows5_at {f : Nat → Bool} (h : rows5 f = true) {r : Nat} (hr : r < 5) : f r = true := by
  unfold rows5 at h
  simp only [Bool.and_eq_true] at h
  obtain ⟨⟨⟨⟨a, b⟩, c⟩, d⟩, e⟩ := h
  match r, hr with
  | 0, _ => exact a
  | 1, _ => exact b
  | 2, _ => exact c
  | 3, _ => exact d
  | 4, _ => exact e
theorem tr_all : rows5 (fun r => okMb (trF r) imB) = true := by kernel_rfl
theorem tu_all : rows5 (fun r => okMb (trF r) muB) = true := by kernel_rfl
theorem nw_all : rows5 (fun r => allK (fun i => okMb (nwF r i) (tuF r) && eqQ (PH (32 * i * (32 * ((r : Int) - 2)) + 0)) (nwF r i)) 0 8) = true := by kernel_rfl
theorem tr_ok {r : Nat} (hr : r < 5) : okM (trF r) imB := okM_b (rows5_at tr_all hr)
theorem tu_ok {r : Nat} (hr : r < 5) : okM (trF r) muB := okM_b (rows5_at tu_all hr)
theorem nw_ok {r i : Nat} (hr : r < 5) (hi : i < 8) : okM (nwF r i) (tuF r) ∧ eqQ (PH (32 * i * (32 * ((r : Int) - 2)) + 0)) (nwF r i) = true := by
  have h := allK_at (rows5_at nw_all hr) i (Nat.zero_le _) (by omega)
  rw [Bool.and_eq_true] at h
  exact ⟨okM_b h.1, h.2⟩
/-! ### Steps -/
theorem StepsAt_r {a b : Int} (hX : XN X) (ha : cdB a = true) (hb : cdB b = true) (hd : dirB u v = true) (h : Heap) (hro : ro ≤ h.length) : Ret Try.prog ro X 91 [.agg ⟨[.int .i64 a, .int .i64 b]⟩, .agg ⟨[.int .i64 u, .int .i64 v]⟩] h (.tuple ⟨[.int .i64 (a * u + b * v), .bool true]⟩) := by
  have b1 : boxV h 126 (.agg ⟨[.int .i64 a, .int .i64 b]⟩) = some (.pointer (some ⟨h.length, 0, none⟩), h ++ [⟨126, [.int .i64 a, .int .i64 b]⟩]) := box_go rfl
  have b2 : boxV (h ++ [⟨126, [.int .i64 a, .int .i64 b]⟩]) 62 (.agg ⟨[.int .i64 u, .int .i64 v]⟩) = some (.pointer (some ⟨h.length + 1, 0, none⟩), h ++ [⟨126, [.int .i64 a, .int .i64 b]⟩] ++ [⟨62, [.int .i64 u, .int .i64 v]⟩]) := by
    have := box_go (h := h ++ [(⟨126, [.int .i64 a, .int .i64 b]⟩ : Blk)]) (t := 62) (v := .agg ⟨[.int .i64 u, .int .i64 v]⟩) rfl
    rw [cellsOf_agg, List.length_append] at this
    exact this
  obtain ⟨d1, d2, d3, d4⟩ := dirB_le hd
  have ka := isCoord_r (ro := ro) hX a
  have kb := isCoord_r (ro := ro) hX b
  rw [ha] at ka
  rw [hb] at kb
  have hp : Pfx h (h ++ [⟨126, [.int .i64 a, .int .i64 b]⟩] ++ [⟨62, [.int .i64 u, .int .i64 v]⟩]) := (Pfx.refl h).snoc.snoc
  have hdr := vDir_r (ro := ro) hX u v (h ++ [⟨126, [.int .i64 a, .int .i64 b]⟩] ++ [⟨62, [.int .i64 u, .int .i64 v]⟩]) (by simp; omega)
  rw [hd] at hdr
  unfold cdB at ha hb
  simp only [Bool.and_eq_true, decide_eq_true_eq] at ha hb
  have m1 := mul_rng (a := a) (b := u) (by omega) (by omega) d1 d2
  have m2 := mul_rng (a := b) (b := v) (by omega) (by omega) d3 d4
  refine ret_of (callR_of (hX _ rfl) Try.func91 rfl (by kernel_rfl) (Nat.le_of_ble_eq_true rfl) ?_)
  (repeat' first | simp -dsimp (disch := first | omega | assumption | (refine OkS.sto ?_ (by omega); first | assumption | (refine OkS.sto ?_ (by omega); first | assumption | (refine OkS.sto ?_ (by omega); first | assumption | (refine OkS.sto ?_ (by omega); first | assumption | (refine OkS.sto ?_ (by omega); first | assumption | (refine OkS.sto ?_ (by omega); first | assumption)))))) | exact Pfx.refl _ | (apply Pfx.snoc; repeat (first | exact Pfx.refl _ | assumption | apply Pfx.snoc)) | with_unfolding_all exact of_eq_true (eq_true rfl) | (simp only [List.length_append, List.length_cons, List.length_nil]; omega)) only [↓wpre0, ↓wpre1, ↓reduceIte, Int.reduceToNat, Nat.reduceAdd, Nat.reduceMul, Nat.reduceEqDiff, wpost0, wpost1, wpost2, wpost3, wpost4, ite_self, ite_true, ite_false, if_true, if_false, xfad126_0, xld2, un_not, xfad126_1, xld62, xfad62_0, bin_mul, xfad62_1, bin_add, fr91, wrap_int, wrap_u8, iteP_yes, iteP_no, b1, b2, ka, kb, hdr] | refine iteP_two (fun hc hd => ?_) (fun hc hd => ?_) | refine iteP_intro (fun hc => ?_) (fun hc => ?_))
end Go.Proofs.Ytelogajobjflfaa.Sim

/- The law FnSteered. Lemmas only; no condition. -/
set_option linter.unusedSimpArgs false
set_option linter.unusedVariables false
set_option maxRecDepth 8000
namespace Go.Proofs.Ytelogajobjflfaa.Sim
open Go Go.RowKit Fl
variable {ro lo hi lo' hi' n : Nat} {X : Ext} {h : Heap} {x y : Value} {l : List Int} {u v : Int} {cd md : List UInt8}
noncomputable def xT0 : Ext := orX (soloX 279 gSqrt) xS0
noncomputable def xT1 (ro : Nat) : Ext := orX (xPl ro xT0) xT0
theorem xn_T0 : XN xT0 := XN.orS (XN.onlyS (by decide +kernel)) xn_S0
theorem xn_T1 (ro : Nat) : XN (xT1 ro) := XN.orS (XN.onlyS (by decide +kernel)) xn_T0
theorem xok_T0 {ro : Nat} {B : Base} : XOk Try.prog ro B xT0 := orX_ok xSqrt_ok xok_S0
theorem xok_T1 {ro : Nat} {B : Base} : XOk Try.prog ro B (xT1 ro) := orX_ok (xPl_ok xok_T0) xok_T0
theorem shP (hl : l.length = n * 2) {dx dy : Int} {i : Nat} (hi : i < n) : stpN (shL l dx dy n) u v i = stpN l u v i + (dx * u + dy * v) := by
  obtain ⟨e1, e2⟩ := shL_at (l := l) (dx := dx) (dy := dy) hi
  unfold stpN
  rw [e1, e2, Int.add_mul, Int.add_mul]
  omega
theorem lineP {r i : Nat} (hi : i < 8) : stpN (grL 8 32 0 8) (32 * ((r : Int) - 2)) 0 i = 32 * i * (32 * ((r : Int) - 2)) + 0 := by
  obtain ⟨e1, e2⟩ := grL_at (c := 8) (dx := 32) (dy := 0) hi
  unfold stpN
  rw [e1, e2, Int.mul_zero, show i % 8 = i by omega, Int.mul_comm (i : Int) 32]
theorem dirQ {r : Nat} (hr : r < 5) : dirB (32 * ((r : Int) - 2)) 0 = true := by
  match r, hr with
  | 0, _ => rfl
  | 1, _ => rfl
  | 2, _ => rfl
  | 3, _ => rfl
  | 4, _ => rfl
theorem lineG : goodP 8 (grL 8 32 0 8) := by
  refine ⟨by decide, by decide, by decide, fun i k hi hk => ?_⟩
  have q : ∀ i, i < 8 → ∀ k, k < i → samB (grL 8 32 0 8) i k = false := by decide
  exact q i hi k hk
/-- The same number from whatever heap. -/
theorem r8At_all (hX : X 47 = none) {x : Value} {cd : List UInt8} {i n : Int} (h0 : 0 ≤ i) (h1 : i ≤ 100000) (hn : 2 ≤ n) (hn2 : n ≤ 100000) (hl : cd.length ≤ 1099511627776) : ∃ v : Nat, (v : Int) < n ∧ ∀ {lo hi : Nat} {h : Heap}, VS lo hi 1 h x cd.length (cd.map u8v) → Ret Try.prog ro X 47 [x, .int .i64 i, .int .i64 n] h (.int .i64 v) := by
  by_cases hin : i < cd.length
  · obtain ⟨m, rfl⟩ : ∃ m : Nat, i = m := ⟨i.toNat, by omega⟩
    have hm : m < cd.length := by omega
    have hld : ∀ {lo hi : Nat} {h : Heap}, VS lo hi 1 h x cd.length (cd.map u8v) → ld Try.prog h 5 (ea x (m * 1)) = some (.int .u8 ((cd[m]'hm).toNat : Int)) := fun hV => by
      rw [hV.ld1 tsz5 tag5 (by omega), Nat.mul_one]
      simp [vth, u8v, List.getD_eq_getElem?_getD, hm]
    have hb := (cd[m]'hm).toNat_lt
    generalize (cd[m]'hm).toNat = w at *
    have hmod : ((w : Int).tmod n) = ((w % n.toNat : Nat) : Int) := by
      rw [Int.tmod_eq_emod_of_nonneg (by omega)]
      conv => lhs; rw [show n = (n.toNat : Int) by omega]
      rfl
    have hlt : w % n.toNat < n.toNat := Nat.mod_lt _ (by omega)
    refine ⟨w % n.toNat, by omega, ?_⟩
    intro lo hi h hV
    have hld := hld hV
    refine ret_of (callR_of hX Try.func47 rfl (by kernel_rfl) (Nat.le_of_ble_eq_true rfl) ?_)
    (repeat' first | simp -dsimp (disch := first | omega | assumption | (refine OkS.sto ?_ (by omega); first | assumption | (refine OkS.sto ?_ (by omega); first | assumption | (refine OkS.sto ?_ (by omega); first | assumption | (refine OkS.sto ?_ (by omega); first | assumption | (refine OkS.sto ?_ (by omega); first | assumption | (refine OkS.sto ?_ (by omega); first | assumption)))))) | exact Pfx.refl _ | (apply Pfx.snoc; repeat (first | exact Pfx.refl _ | assumption | apply Pfx.snoc)) | with_unfolding_all exact of_eq_true (eq_true rfl) | (simp only [List.length_append, List.length_cons, List.length_nil]; omega)) only [↓wpre0, ↓wpre1, ↓reduceIte, Int.reduceToNat, Nat.reduceAdd, Nat.reduceMul, Nat.reduceEqDiff, wpost0, wpost1, wpost2, wpost3, wpost4, ite_self, ite_true, ite_false, if_true, if_false, bin_leq, xlen22, bin_geq, xiad22, xld5, xcv5_2, bin_rem, fr47, wrap_int, wrap_u8, iteP_yes, iteP_no, hV.len Try.underlying22, hV.iad Try.underlying22 tsz5, Int.toNat_natCast, hld, bin_rem, hmod] | refine iteP_two (fun hc hd => ?_) (fun hc hd => ?_) | refine iteP_intro (fun hc => ?_) (fun hc => ?_))
  · refine ⟨0, by omega, ?_⟩
    intro lo hi h hV
    refine ret_of (callR_of hX Try.func47 rfl (by kernel_rfl) (Nat.le_of_ble_eq_true rfl) ?_)
    (repeat' first | simp -dsimp (disch := first | omega | assumption | (refine OkS.sto ?_ (by omega); first | assumption | (refine OkS.sto ?_ (by omega); first | assumption | (refine OkS.sto ?_ (by omega); first | assumption | (refine OkS.sto ?_ (by omega); first | assumption | (refine OkS.sto ?_ (by omega); first | assumption | (refine OkS.sto ?_ (by omega); first | assumption)))))) | exact Pfx.refl _ | (apply Pfx.snoc; repeat (first | exact Pfx.refl _ | assumption | apply Pfx.snoc)) | with_unfolding_all exact of_eq_true (eq_true rfl) | (simp only [List.length_append, List.length_cons, List.length_nil]; omega)) only [↓wpre0, ↓wpre1, ↓reduceIte, Int.reduceToNat, Nat.reduceAdd, Nat.reduceMul, Nat.reduceEqDiff, wpost0, wpost1, wpost2, wpost3, wpost4, ite_self, ite_true, ite_false, if_true, if_false, bin_leq, xlen22, bin_geq, xiad22, xld5, xcv5_2, bin_rem, fr47, wrap_int, wrap_u8, iteP_yes, iteP_no, hV.len Try.underlying22] | refine iteP_two (fun hc hd => ?_) (fun hc hd => ?_) | refine iteP_intro (fun hc => ?_) (fun hc => ?_))
    rfl
set_option maxHeartbeats 16000000 in
theorem lawSteer_c (hX : XN X) (hS : X 279 = some (ext1 gSqrt)) (hX0 : XN xT0) (hW : XDW xT0) (hA : XAbs X) (hx : X 127 = xPl ro xT0 127) (hV : VS lo hi 1 h x cd.length (cd.map u8v)) (hU : VS lo' hi' 1 h y md.length (md.map u8v)) (hhi : hi ≤ h.length) (hhi' : hi' ≤ h.length) (hro : ro ≤ h.length) (hl : cd.length ≤ 140737488351232) (hl' : md.length ≤ 140737488351232) :
    CallR Try.prog ro X 12 [x, y] h (fun r h' => r = .bool true) := by
  refine callR_of (hX _ rfl) Try.func12 rfl (by kernel_rfl) (Nat.le_of_ble_eq_true rfl) ?_
  by_cases hlong : (decide (48 < cd.length) || decide (48 < md.length)) = true
  · (repeat' first | simp -dsimp (disch := first | omega | assumption | (refine OkS.sto ?_ (by omega); first | assumption | (refine OkS.sto ?_ (by omega); first | assumption | (refine OkS.sto ?_ (by omega); first | assumption | (refine OkS.sto ?_ (by omega); first | assumption | (refine OkS.sto ?_ (by omega); first | assumption | (refine OkS.sto ?_ (by omega); first | assumption)))))) | exact Pfx.refl _ | (apply Pfx.snoc; repeat (first | exact Pfx.refl _ | assumption | apply Pfx.snoc)) | with_unfolding_all exact of_eq_true (eq_true rfl) | (simp only [List.length_append, List.length_cons, List.length_nil]; omega)) only [↓wpre0, ↓wpre1, ↓reduceIte, Int.reduceToNat, Nat.reduceAdd, Nat.reduceMul, Nat.reduceEqDiff, wpost0, wpost1, wpost2, wpost3, wpost4, ite_self, ite_true, ite_false, if_true, if_false, tze62, xst62, bin_sub, xld62, xbld126_0_1, un_not, xlen44, xlen54, bin_neq, xfad62_0, xld2, bin_mul, xfad62_1, bin_add, xcv2_59, bin_fquo, bin_lss, xiad44, xld46, xcv29_59, bin_fgtr, xbld62_0, bin_cneq, fr12, wrap_int, wrap_u8, iteP_yes, iteP_no, r8Long_r (hX _ rfl) hV hU (by omega) (by omega), hlong] | refine iteP_two (fun hc hd => ?_) (fun hc hd => ?_) | refine iteP_intro (fun hc => ?_) (fun hc => ?_))
  have hlong' : (decide (48 < cd.length) || decide (48 < md.length)) = false := by simpa using hlong
  have hc1 : cd.length ≤ 48 := by simp at hlong'; omega
  have hm1 : md.length ≤ 48 := by simp at hlong'; omega
  (repeat' first | simp -dsimp (disch := first | omega | assumption | (refine OkS.sto ?_ (by omega); first | assumption | (refine OkS.sto ?_ (by omega); first | assumption | (refine OkS.sto ?_ (by omega); first | assumption | (refine OkS.sto ?_ (by omega); first | assumption | (refine OkS.sto ?_ (by omega); first | assumption | (refine OkS.sto ?_ (by omega); first | assumption)))))) | exact Pfx.refl _ | (apply Pfx.snoc; repeat (first | exact Pfx.refl _ | assumption | apply Pfx.snoc)) | with_unfolding_all exact of_eq_true (eq_true rfl) | (simp only [List.length_append, List.length_cons, List.length_nil]; omega)) only [↓wpre0, ↓wpre1, ↓reduceIte, Int.reduceToNat, Nat.reduceAdd, Nat.reduceMul, Nat.reduceEqDiff, wpost0, wpost1, wpost2, wpost3, wpost4, ite_self, ite_true, ite_false, if_true, if_false, tze62, xst62, bin_sub, xld62, xbld126_0_1, un_not, xlen44, xlen54, bin_neq, xfad62_0, xld2, bin_mul, xfad62_1, bin_add, xcv2_59, bin_fquo, bin_lss, xiad44, xld46, xcv29_59, bin_fgtr, xbld62_0, bin_cneq, fr12, wrap_int, wrap_u8, iteP_yes, iteP_no, r8Long_r (hX _ rfl) hV hU (by omega) (by omega), hlong'] | refine iteP_two (fun hc hd => ?_) (fun hc hd => ?_) | refine iteP_intro (fun hc => ?_) (fun hc => ?_))
  refine cf_rel (Places_c hW hX0 (hX _ rfl) (hX _ rfl) hx hV hro hhi (by omega)) (fun q => by cases q) ?_
  rintro r H1 ⟨n, yb, yc, l, rfl, hyb, hD, hll, hg, hr, p1⟩
  have hI := is_blk (dc := yc) hD hll
  have l1 := p1.len
  have n16 := hg.n16
  have n1 := hg.n1
  have hU1 := hU.pre p1
  have hyb1 : yb < H1.length := by
    rcases Nat.lt_or_ge yb H1.length with q | q
    · exact q
    · rw [List.getElem?_eq_none q] at hD; cases hD
  have ht1 : tyP ro H1 (.slice (some ⟨yb, 0, none⟩) n yc) := fun _ => by show (H1[yb]?).map Blk.ty = _; rw [hD]; rfl
  (repeat' first | simp -dsimp (disch := first | omega | assumption | (refine OkS.sto ?_ (by omega); first | assumption | (refine OkS.sto ?_ (by omega); first | assumption | (refine OkS.sto ?_ (by omega); first | assumption | (refine OkS.sto ?_ (by omega); first | assumption | (refine OkS.sto ?_ (by omega); first | assumption | (refine OkS.sto ?_ (by omega); first | assumption)))))) | exact Pfx.refl _ | (apply Pfx.snoc; repeat (first | exact Pfx.refl _ | assumption | apply Pfx.snoc)) | with_unfolding_all exact of_eq_true (eq_true rfl) | (simp only [List.length_append, List.length_cons, List.length_nil]; omega)) only [↓wpre0, ↓wpre1, ↓reduceIte, Int.reduceToNat, Nat.reduceAdd, Nat.reduceMul, Nat.reduceEqDiff, wpost0, wpost1, wpost2, wpost3, wpost4, ite_self, ite_true, ite_false, if_true, if_false, tze62, xst62, bin_sub, xld62, xbld126_0_1, un_not, xlen44, xlen54, bin_neq, xfad62_0, xld2, bin_mul, xfad62_1, bin_add, xcv2_59, bin_fquo, bin_lss, xiad44, xld46, xcv29_59, bin_fgtr, xbld62_0, bin_cneq, fr12, wrap_int, wrap_u8, iteP_yes, iteP_no] | refine iteP_two (fun hc hd => ?_) (fun hc hd => ?_) | refine iteP_intro (fun hc => ?_) (fun hc => ?_))
  refine cf_rel (EightD_c hX hU1 (by omega) (by omega) (by omega)) (fun q => by cases q) ?_
  rintro _ H1 ⟨a, b, ha, hb, rfl, e1⟩
  subst e1
  have hd := dir_91 ha hb
  generalize (a : Int) - 45 = u at *
  generalize (b : Int) - 45 = v at *
  have pG1 : Pfx H1 (H1 ++ [(⟨62, [.int .i64 u, .int .i64 v]⟩ : Blk)]) := (Pfx.refl H1).snoc
  obtain ⟨a1, ha1, hat1⟩ := r8At_r (ro := ro) (X := X) (hX _ rfl) (hU1.pre pG1) (i := 40) (n := 65) (by omega) (by omega) (by omega) (by omega) (by omega)
  obtain ⟨a2, ha2, hat2⟩ := r8At_r (ro := ro) (X := X) (hX _ rfl) (hU1.pre pG1) (i := 41) (n := 65) (by omega) (by omega) (by omega) (by omega) (by omega)
  obtain ⟨dx, hdx⟩ : ∃ z : Int, z = (a1 : Int) - 32 := ⟨_, rfl⟩
  obtain ⟨dy, hdy⟩ : ∃ z : Int, z = (a2 : Int) - 32 := ⟨_, rfl⟩
  have cG1 : cells (H1 ++ [(⟨62, [.int .i64 u, .int .i64 v]⟩ : Blk)]) H1.length 0 2 = some (.agg ⟨[.int .i64 u, .int .i64 v]⟩) := cells_last rfl (by simp)
  (repeat' first | simp -dsimp (disch := first | omega | assumption | (refine OkS.sto ?_ (by omega); first | assumption | (refine OkS.sto ?_ (by omega); first | assumption | (refine OkS.sto ?_ (by omega); first | assumption | (refine OkS.sto ?_ (by omega); first | assumption | (refine OkS.sto ?_ (by omega); first | assumption | (refine OkS.sto ?_ (by omega); first | assumption)))))) | exact Pfx.refl _ | (apply Pfx.snoc; repeat (first | exact Pfx.refl _ | assumption | apply Pfx.snoc)) | with_unfolding_all exact of_eq_true (eq_true rfl) | (simp only [List.length_append, List.length_cons, List.length_nil]; omega)) only [↓wpre0, ↓wpre1, ↓reduceIte, Int.reduceToNat, Nat.reduceAdd, Nat.reduceMul, Nat.reduceEqDiff, wpost0, wpost1, wpost2, wpost3, wpost4, ite_self, ite_true, ite_false, if_true, if_false, tze62, xst62, bin_sub, xld62, xbld126_0_1, un_not, xlen44, xlen54, bin_neq, xfad62_0, xld2, bin_mul, xfad62_1, bin_add, xcv2_59, bin_fquo, bin_lss, xiad44, xld46, xcv29_59, bin_fgtr, xbld62_0, bin_cneq, fr12, wrap_int, wrap_u8, iteP_yes, iteP_no, hat1, hat2, ← hdx, ← hdy, cG1] | refine iteP_two (fun hc hd => ?_) (fun hc hd => ?_) | refine iteP_intro (fun hc => ?_) (fun hc => ?_))
  obtain ⟨G1, hG1⟩ : ∃ G, G = H1 ++ [(⟨62, [.int .i64 u, .int .i64 v]⟩ : Blk)] := ⟨_, rfl⟩
  have lG1 : G1.length = H1.length + 1 := by rw [hG1]; simp
  have dG1 : G1[H1.length]? = some ⟨62, [.int .i64 u, .int .i64 v]⟩ := by rw [hG1]; exact get_last rfl
  rw [← hG1] at pG1 cG1 hat1 hat2 ⊢
  have cD : ∀ {G : Heap}, Pfx G1 G → cells G H1.length 0 2 = some (.agg ⟨[.int .i64 u, .int .i64 v]⟩) := fun p => cellsb (o := 0) (n := 2) ((p.get (by omega)).trans dG1) (by simp)
  have mI : ∀ {G : Heap}, Pfx G1 G → IS yb (yb + 1) 2 G (.slice (some ⟨yb, 0, none⟩) n yc) n l := fun p => hI.pre (pG1.trans p)
  have mT : ∀ {G : Heap}, Pfx G1 G → tyP ro G (.slice (some ⟨yb, 0, none⟩) n yc) := fun p => ht1.pre hI (by omega) (pG1.trans p)
  have x0 := Pfx.refl G1
  refine cf_rel (SteeringOf_c hX hA (mI x0) (mT x0) hg hd (by omega) (by omega)) (fun q => by cases q) ?_
  rintro _ G2 ⟨z1, rfl, x2, hz1⟩
  have lG2 := x2.len
  (repeat' first | simp -dsimp (disch := first | omega | assumption | (refine OkS.sto ?_ (by omega); first | assumption | (refine OkS.sto ?_ (by omega); first | assumption | (refine OkS.sto ?_ (by omega); first | assumption | (refine OkS.sto ?_ (by omega); first | assumption | (refine OkS.sto ?_ (by omega); first | assumption | (refine OkS.sto ?_ (by omega); first | assumption)))))) | exact Pfx.refl _ | (apply Pfx.snoc; repeat (first | exact Pfx.refl _ | assumption | apply Pfx.snoc)) | with_unfolding_all exact of_eq_true (eq_true rfl) | (simp only [List.length_append, List.length_cons, List.length_nil]; omega)) only [↓wpre0, ↓wpre1, ↓reduceIte, Int.reduceToNat, Nat.reduceAdd, Nat.reduceMul, Nat.reduceEqDiff, wpost0, wpost1, wpost2, wpost3, wpost4, ite_self, ite_true, ite_false, if_true, if_false, tze62, xst62, bin_sub, xld62, xbld126_0_1, un_not, xlen44, xlen54, bin_neq, xfad62_0, xld2, bin_mul, xfad62_1, bin_add, xcv2_59, bin_fquo, bin_lss, xiad44, xld46, xcv29_59, bin_fgtr, xbld62_0, bin_cneq, fr12, wrap_int, wrap_u8, iteP_yes, iteP_no, cD x2] | refine iteP_two (fun hc hd => ?_) (fun hc hd => ?_) | refine iteP_intro (fun hc => ?_) (fun hc => ?_))
  refine cf_rel (Shift_c (dx := dx) (dy := dy) hX (mI x2) (mT x2) hg hr (by omega) (by omega) (by omega)) (fun q => by cases q) ?_
  rintro _ G3 ⟨z2, rfl, y3, hz2⟩
  have lG3 := y3.len
  have x3 := x2.trans y3
  have hgS := shL_good (dx := dx) (dy := dy) hg hr (by omega) (by omega)
  have hI2 := hz2.vsl.is
  have ht2 : tyP ro G3 z2 := fun _ => by
    obtain ⟨_, b, cap, rfl, _, hb2, _⟩ := hz2
    show (G3[b]?).map Blk.ty = _
    rw [hb2]; rfl
  (repeat' first | simp -dsimp (disch := first | omega | assumption | (refine OkS.sto ?_ (by omega); first | assumption | (refine OkS.sto ?_ (by omega); first | assumption | (refine OkS.sto ?_ (by omega); first | assumption | (refine OkS.sto ?_ (by omega); first | assumption | (refine OkS.sto ?_ (by omega); first | assumption | (refine OkS.sto ?_ (by omega); first | assumption)))))) | exact Pfx.refl _ | (apply Pfx.snoc; repeat (first | exact Pfx.refl _ | assumption | apply Pfx.snoc)) | with_unfolding_all exact of_eq_true (eq_true rfl) | (simp only [List.length_append, List.length_cons, List.length_nil]; omega)) only [↓wpre0, ↓wpre1, ↓reduceIte, Int.reduceToNat, Nat.reduceAdd, Nat.reduceMul, Nat.reduceEqDiff, wpost0, wpost1, wpost2, wpost3, wpost4, ite_self, ite_true, ite_false, if_true, if_false, tze62, xst62, bin_sub, xld62, xbld126_0_1, un_not, xlen44, xlen54, bin_neq, xfad62_0, xld2, bin_mul, xfad62_1, bin_add, xcv2_59, bin_fquo, bin_lss, xiad44, xld46, xcv29_59, bin_fgtr, xbld62_0, bin_cneq, fr12, wrap_int, wrap_u8, iteP_yes, iteP_no, cD x3] | refine iteP_two (fun hc hd => ?_) (fun hc hd => ?_) | refine iteP_intro (fun hc => ?_) (fun hc => ?_))
  refine cf_rel (SteeringOf_c hX hA hI2 ht2 hgS hd (by omega) (by omega)) (fun q => by cases q) ?_
  rintro _ G4 ⟨z3, rfl, y4, hz3⟩
  have lG4 := y4.len
  have x4 := x3.trans y4
  (repeat' first | simp -dsimp (disch := first | omega | assumption | (refine OkS.sto ?_ (by omega); first | assumption | (refine OkS.sto ?_ (by omega); first | assumption | (refine OkS.sto ?_ (by omega); first | assumption | (refine OkS.sto ?_ (by omega); first | assumption | (refine OkS.sto ?_ (by omega); first | assumption | (refine OkS.sto ?_ (by omega); first | assumption)))))) | exact Pfx.refl _ | (apply Pfx.snoc; repeat (first | exact Pfx.refl _ | assumption | apply Pfx.snoc)) | with_unfolding_all exact of_eq_true (eq_true rfl) | (simp only [List.length_append, List.length_cons, List.length_nil]; omega)) only [↓thenQ_normal, ↓thenQ_exit, ↓thenQ_ret, ↓blockQ_normal, ↓blockQ_exit, ↓blockQ_ret, ↓o_plain, ↓o_nil, ↓o_guard, ↓gvl_zero, ↓gvl_succ, ↓p_move, ↓p_assign, ↓p_pick, ↓p_binOp, ↓p_unOp, ↓wpre1, ↓reduceIte, Int.reduceToNat, Nat.reduceAdd, Nat.reduceMul, Nat.reduceEqDiff, wpost0, wpost1, wpost2, wpost3, wpost4, ite_self, ite_true, ite_false, if_true, if_false, tze62, xst62, bin_sub, xld62, xbld126_0_1, un_not, xlen44, xlen54, bin_neq, xfad62_0, xld2, bin_mul, xfad62_1, bin_add, xcv2_59, bin_fquo, bin_lss, xiad44, xld46, xcv29_59, bin_fgtr, xbld62_0, bin_cneq, fr12, wrap_int, wrap_u8, iteP_yes, iteP_no, cD x4] | refine iteP_two (fun hc hd => ?_) (fun hc hd => ?_) | refine iteP_intro (fun hc => ?_) (fun hc => ?_))
  obtain ⟨xl, hxl⟩ : ∃ xl : Value, xl = .slice (some ⟨yb, 0, none⟩) n yc := ⟨_, rfl⟩
  rw [← hxl] at mI mT ⊢
  refine env_cut (fun e h2 => h2 = G4 ∧ e 1 = y ∧ e 5 = xl ∧ e 6 = .pointer (some ⟨H1.length, 0, none⟩) ∧ e 7 = .int .i64 dx ∧ e 8 = .int .i64 dy ∧ e 9 = z1 ∧ e 10 = .bool true ∧ e 11 = z2 ∧ e 12 = .bool true ∧ e 13 = z3 ∧ e 14 = .bool true) ?_ ?_
  · simp only [updO_at, updO_not, entry_at, List.getD_cons_zero, List.getD_cons_succ, ↓reduceIte, Nat.reduceEqDiff, true_and, and_true]
    (repeat' (first | assumption | rfl | omega | refine And.intro ?_ ?_))
  clear cG1
  rintro e h' ⟨rfl, g1, g5, g6, g7, g8, g9, g10, g11, g12, g13, g14⟩
  have cdx : cdB dx = true := by unfold cdB; simp only [Bool.and_eq_true, decide_eq_true_eq]; omega
  have cdy : cdB dy = true := by unfold cdB; simp only [Bool.and_eq_true, decide_eq_true_eq]; omega
  have hst := StepsAt_r (ro := ro) hX cdx cdy hd h' (by omega)
  have vp := vPlaces_r (ro := ro) hX (mI x4) (mT x4) hg (by omega)
  have vd := vDir_r (ro := ro) hX u v h' (by omega)
  rw [hd] at vd
  have h1 : RowB G1.length h' z1 n (fun i => PH (stpN l u v i)) := hz1.pre (y3.trans y4)
  have dG4 : h'[H1.length]? = some ⟨62, [.int .i64 u, .int .i64 v]⟩ := (x4.get (by omega)).trans dG1
  have f0 : cell h' H1.length 0 = some (.int .i64 u) := cellb dG4
  have f1 : cell h' H1.length 1 = some (.int .i64 v) := cellb dG4
  obtain ⟨d1, d2, d3, d4⟩ := dirB_le hd
  have m1 := mul_rng (a := dx) (b := u) (by omega) (by omega) d1 d2
  have m2 := mul_rng (a := dy) (b := v) (by omega) (by omega) d3 d4
  have hbs : (dx * u + dy * v).natAbs < 2 ^ 27 := Nat.lt_of_le_of_lt (show (dx * u + dy * v).natAbs ≤ 1000000 by omega) (by decide)
  have hPh := Phasor_r (ro := ro) (X := X) hX hA hbs h'
  unfold stF at hPh
  (repeat' first | simp -dsimp (disch := first | omega | assumption | (refine OkS.sto ?_ (by omega); first | assumption | (refine OkS.sto ?_ (by omega); first | assumption | (refine OkS.sto ?_ (by omega); first | assumption | (refine OkS.sto ?_ (by omega); first | assumption | (refine OkS.sto ?_ (by omega); first | assumption | (refine OkS.sto ?_ (by omega); first | assumption)))))) | exact Pfx.refl _ | (apply Pfx.snoc; repeat (first | exact Pfx.refl _ | assumption | apply Pfx.snoc)) | with_unfolding_all exact of_eq_true (eq_true rfl) | (simp only [List.length_append, List.length_cons, List.length_nil]; omega)) only [↓wpre0, ↓wpre1, ↓reduceIte, Int.reduceToNat, Nat.reduceAdd, Nat.reduceMul, Nat.reduceEqDiff, wpost0, wpost1, wpost2, wpost3, wpost4, ite_self, ite_true, ite_false, if_true, if_false, tze62, xst62, bin_sub, xld62, xbld126_0_1, un_not, xlen44, xlen54, bin_neq, xfad62_0, xld2, bin_mul, xfad62_1, bin_add, xcv2_59, bin_fquo, bin_lss, xiad44, xld46, xcv29_59, bin_fgtr, xbld62_0, bin_cneq, fr12, wrap_int, wrap_u8, iteP_yes, iteP_no, g1, g5, g6, g7, g8, g9, g10, g11, g12, g13, g14, hst, vp, vd, cD x4, f0, f1, h1.len, hz3.len, (mI x4).len Try.underlying54, conv_if Try.underlying2 Try.underlying59, hPh] | refine iteP_two (fun hc hd => ?_) (fun hc hd => ?_) | refine iteP_intro (fun hc => ?_) (fun hc => ?_))
  refine loop_exit 0 (fun e h2 => h2 = h' ∧ e 1 = y) ?_ ?_
  · refine loop_rounds (fun mm e h2 => ∃ i : Nat, mm = n - i ∧ i ≤ n ∧ h2 = h' ∧ e 1 = y ∧ e 9 = z1 ∧ e 13 = z3 ∧ e 17 = toV (PH (dx * u + dy * v)) ∧ e 18 = .int .i64 i) _ ⟨0, rfl, ?_⟩ ?_
    · simp only [updO_at, updO_not, entry_at, List.getD_cons_zero, List.getD_cons_succ, ↓reduceIte, Nat.reduceEqDiff, true_and, and_true]
      exact ⟨Nat.zero_le _, g1, g9, g13, rfl⟩
    · clear g1 g5 g6 g7 g8 g9 g10 g11 g12 g13 g14
      rintro mm e h2 ⟨i, hmm, hle, rfl, g1, g9, g13, g17, g18⟩
      have hks : (i : Int) + 1 = ((i + 1 : Nat) : Int) := by omega
      by_cases hi : i < n
      · have hin : (i : Int) < (n : Int) := by omega
        have hs := stp_lt (l := l) hg hd hi
        obtain ⟨k1, k2, k3⟩ := PH_pw hs
        obtain ⟨k4, r1, c1, hGap⟩ := Gap1_r (ro := ro) hX k3
        obtain ⟨k5, k6⟩ := PH_mul hs hbs
        have hM := Mul_r (ro := ro) hX k5
        have hs2 : (stpN l u v i + (dx * u + dy * v)).natAbs < 2 ^ 27 := by
          have := stp_lt (l := shL l dx dy n) hgS hd hi
          rw [shP hll hi] at this
          exact this
        obtain ⟨r2, c2, hAp⟩ := Apart_r (ro := ro) hX hS (PH_near hs2) k6 (by decide) (Nat.le_refl _)
        have eP := shP (u := u) (v := v) (dx := dx) (dy := dy) hll hi
        simp -dsimp (disch := first | omega | assumption | (refine OkS.sto ?_ (by omega); first | assumption | (refine OkS.sto ?_ (by omega); first | assumption | (refine OkS.sto ?_ (by omega); first | assumption | (refine OkS.sto ?_ (by omega); first | assumption | (refine OkS.sto ?_ (by omega); first | assumption | (refine OkS.sto ?_ (by omega); first | assumption)))))) | exact Pfx.refl _ | (apply Pfx.snoc; repeat (first | exact Pfx.refl _ | assumption | apply Pfx.snoc)) | with_unfolding_all exact of_eq_true (eq_true rfl) | (simp only [List.length_append, List.length_cons, List.length_nil]; omega)) only [↓wpre0, ↓wpre1, ↓reduceIte, Int.reduceToNat, Nat.reduceAdd, Nat.reduceMul, Nat.reduceEqDiff, wpost0, wpost1, wpost2, wpost3, wpost4, ite_self, ite_true, ite_false, if_true, if_false, tze62, xst62, bin_sub, xld62, xbld126_0_1, un_not, xlen44, xlen54, bin_neq, xfad62_0, xld2, bin_mul, xfad62_1, bin_add, xcv2_59, bin_fquo, bin_lss, xiad44, xld46, xcv29_59, bin_fgtr, xbld62_0, bin_cneq, fr12, wrap_int, wrap_u8, iteP_yes, iteP_no, g1, g9, g13, g17, g18, h1.len, h1.iad, h1.ld, hz3.iad, hz3.ld, eP, PowerOf_r hX k1 k2, cv_w k4, hGap, c1, hM, hAp, c2, Bool.not_true, Bool.not_false]
        exact ⟨n - (i + 1), by omega, i + 1, rfl, by omega, by rw [hks]⟩
      · simp -dsimp (disch := first | omega | assumption | (refine OkS.sto ?_ (by omega); first | assumption | (refine OkS.sto ?_ (by omega); first | assumption | (refine OkS.sto ?_ (by omega); first | assumption | (refine OkS.sto ?_ (by omega); first | assumption | (refine OkS.sto ?_ (by omega); first | assumption | (refine OkS.sto ?_ (by omega); first | assumption)))))) | exact Pfx.refl _ | (apply Pfx.snoc; repeat (first | exact Pfx.refl _ | assumption | apply Pfx.snoc)) | with_unfolding_all exact of_eq_true (eq_true rfl) | (simp only [List.length_append, List.length_cons, List.length_nil]; omega)) only [↓wpre0, ↓wpre1, ↓reduceIte, Int.reduceToNat, Nat.reduceAdd, Nat.reduceMul, Nat.reduceEqDiff, wpost0, wpost1, wpost2, wpost3, wpost4, ite_self, ite_true, ite_false, if_true, if_false, tze62, xst62, bin_sub, xld62, xbld126_0_1, un_not, xlen44, xlen54, bin_neq, xfad62_0, xld2, bin_mul, xfad62_1, bin_add, xcv2_59, bin_fquo, bin_lss, xiad44, xld46, xcv29_59, bin_fgtr, xbld62_0, bin_cneq, fr12, wrap_int, wrap_u8, iteP_yes, iteP_no, g1, g9, g13, g17, g18, h1.len, hi]
  clear g1 g5 g6 g7 g8 g9 g10 g11 g12 g13 g14
  rintro e h' ⟨rfl, g1⟩
  have hU4 := hU1.pre (pG1.trans x4)
  have lh' : h.length ≤ h'.length := by omega
  clear hPh dG4 f0 f1 h1 vp vd hst hz1 hz2 hz3 x2 y3 y4 x3 x4 mI mT cD hI2 ht2 hgS
  (repeat' first | simp -dsimp (disch := first | omega | assumption | (refine OkS.sto ?_ (by omega); first | assumption | (refine OkS.sto ?_ (by omega); first | assumption | (refine OkS.sto ?_ (by omega); first | assumption | (refine OkS.sto ?_ (by omega); first | assumption | (refine OkS.sto ?_ (by omega); first | assumption | (refine OkS.sto ?_ (by omega); first | assumption)))))) | exact Pfx.refl _ | (apply Pfx.snoc; repeat (first | exact Pfx.refl _ | assumption | apply Pfx.snoc)) | with_unfolding_all exact of_eq_true (eq_true rfl) | (simp only [List.length_append, List.length_cons, List.length_nil]; omega)) only [↓wpre0, ↓wpre1, ↓reduceIte, Int.reduceToNat, Nat.reduceAdd, Nat.reduceMul, Nat.reduceEqDiff, wpost0, wpost1, wpost2, wpost3, wpost4, ite_self, ite_true, ite_false, if_true, if_false, tze62, xst62, bin_sub, xld62, xbld126_0_1, un_not, xlen44, xlen54, bin_neq, xfad62_0, xld2, bin_mul, xfad62_1, bin_add, xcv2_59, bin_fquo, bin_lss, xiad44, xld46, xcv29_59, bin_fgtr, xbld62_0, bin_cneq, fr12, wrap_int, wrap_u8, iteP_yes, iteP_no, g1] | refine iteP_two (fun hc hd => ?_) (fun hc hd => ?_) | refine iteP_intro (fun hc => ?_) (fun hc => ?_))
  refine cf_rel (Line_c (h := h') hX (by omega)) (fun q => by cases q) ?_
  rintro _ G5 ⟨z5, rfl, x5, hz5⟩
  have lG5 := x5.len
  have hU5 := hU4.pre x5
  obtain ⟨r, hr5, hatA⟩ := r8At_all (ro := ro) (X := X) (x := y) (cd := md) (hX _ rfl) (i := 42) (n := 5) (by omega) (by omega) (by omega) (by omega) (by omega)
  have hat := hatA hU5
  have hr5' : r < 5 := by omega
  have hI5 := hz5.vsl.is
  have ht5 : tyP ro G5 z5 := fun _ => by
    obtain ⟨_, b, cap, rfl, _, hb2, _⟩ := hz5
    show (G5[b]?).map Blk.ty = _
    rw [hb2]; rfl
  (repeat' first | simp -dsimp (disch := first | omega | assumption | (refine OkS.sto ?_ (by omega); first | assumption | (refine OkS.sto ?_ (by omega); first | assumption | (refine OkS.sto ?_ (by omega); first | assumption | (refine OkS.sto ?_ (by omega); first | assumption | (refine OkS.sto ?_ (by omega); first | assumption | (refine OkS.sto ?_ (by omega); first | assumption)))))) | exact Pfx.refl _ | (apply Pfx.snoc; repeat (first | exact Pfx.refl _ | assumption | apply Pfx.snoc)) | with_unfolding_all exact of_eq_true (eq_true rfl) | (simp only [List.length_append, List.length_cons, List.length_nil]; omega)) only [↓wpre0, ↓wpre1, ↓reduceIte, Int.reduceToNat, Nat.reduceAdd, Nat.reduceMul, Nat.reduceEqDiff, wpost0, wpost1, wpost2, wpost3, wpost4, ite_self, ite_true, ite_false, if_true, if_false, tze62, xst62, bin_sub, xld62, xbld126_0_1, un_not, xlen44, xlen54, bin_neq, xfad62_0, xld2, bin_mul, xfad62_1, bin_add, xcv2_59, bin_fquo, bin_lss, xiad44, xld46, xcv29_59, bin_fgtr, xbld62_0, bin_cneq, fr12, wrap_int, wrap_u8, iteP_yes, iteP_no, g1, hat] | refine iteP_two (fun hc hd => ?_) (fun hc hd => ?_) | refine iteP_intro (fun hc => ?_) (fun hc => ?_))
  refine cf_rel (SteeringOf_c hX hA hI5 ht5 lineG (dirQ hr5') (by omega) (by omega)) (fun q => by cases q) ?_
  rintro _ G6 ⟨z6, rfl, x6, hz6⟩
  have lG6 := x6.len
  have hU6 := hU5.pre x6
  have hat6 := hatA hU6
  (repeat' first | simp -dsimp (disch := first | omega | assumption | (refine OkS.sto ?_ (by omega); first | assumption | (refine OkS.sto ?_ (by omega); first | assumption | (refine OkS.sto ?_ (by omega); first | assumption | (refine OkS.sto ?_ (by omega); first | assumption | (refine OkS.sto ?_ (by omega); first | assumption | (refine OkS.sto ?_ (by omega); first | assumption)))))) | exact Pfx.refl _ | (apply Pfx.snoc; repeat (first | exact Pfx.refl _ | assumption | apply Pfx.snoc)) | with_unfolding_all exact of_eq_true (eq_true rfl) | (simp only [List.length_append, List.length_cons, List.length_nil]; omega)) only [↓wpre0, ↓wpre1, ↓reduceIte, Int.reduceToNat, Nat.reduceAdd, Nat.reduceMul, Nat.reduceEqDiff, wpost0, wpost1, wpost2, wpost3, wpost4, ite_self, ite_true, ite_false, if_true, if_false, tze62, xst62, bin_sub, xld62, xbld126_0_1, un_not, xlen44, xlen54, bin_neq, xfad62_0, xld2, bin_mul, xfad62_1, bin_add, xcv2_59, bin_fquo, bin_lss, xiad44, xld46, xcv29_59, bin_fgtr, xbld62_0, bin_cneq, fr12, wrap_int, wrap_u8, iteP_yes, iteP_no, g1, hz6.len] | refine iteP_two (fun hc hd => ?_) (fun hc hd => ?_) | refine iteP_intro (fun hc => ?_) (fun hc => ?_))
  refine loop_exit 2 (fun e h2 => h2 = G6 ∧ e 21 = z6 ∧ e 23 = toV (trF r)) ?_ ?_
  · refine loop_rounds (fun mm e h2 => ∃ i : Nat, mm = r - i ∧ i ≤ r ∧ h2 = G6 ∧ e 1 = y ∧ e 21 = z6 ∧ e 23 = toV (trF i) ∧ e 24 = .int .i64 i) _ ⟨0, rfl, ?_⟩ ?_
    · simp only [updO_at, updO_not, entry_at, List.getD_cons_zero, List.getD_cons_succ, ↓reduceIte, Nat.reduceEqDiff, true_and, and_true]
      exact ⟨Nat.zero_le _, g1, rfl, rfl⟩
    · clear g1
      rintro mm e h2 ⟨i, hmm, hle, rfl, g1, g21, g23, g24⟩
      have hks : (i : Int) + 1 = ((i + 1 : Nat) : Int) := by omega
      by_cases hi : i < r
      · have hin : (i : Int) < (r : Int) := by omega
        have hM := Mul_r (ro := ro) (X := X) hX (tr_ok (r := i) (by omega)) h2
        simp only [toV, imB] at hM g23
        simp -dsimp (disch := first | omega | assumption | (refine OkS.sto ?_ (by omega); first | assumption | (refine OkS.sto ?_ (by omega); first | assumption | (refine OkS.sto ?_ (by omega); first | assumption | (refine OkS.sto ?_ (by omega); first | assumption | (refine OkS.sto ?_ (by omega); first | assumption | (refine OkS.sto ?_ (by omega); first | assumption)))))) | exact Pfx.refl _ | (apply Pfx.snoc; repeat (first | exact Pfx.refl _ | assumption | apply Pfx.snoc)) | with_unfolding_all exact of_eq_true (eq_true rfl) | (simp only [List.length_append, List.length_cons, List.length_nil]; omega)) only [↓wpre0, ↓wpre1, ↓reduceIte, Int.reduceToNat, Nat.reduceAdd, Nat.reduceMul, Nat.reduceEqDiff, wpost0, wpost1, wpost2, wpost3, wpost4, ite_self, ite_true, ite_false, if_true, if_false, tze62, xst62, bin_sub, xld62, xbld126_0_1, un_not, xlen44, xlen54, bin_neq, xfad62_0, xld2, bin_mul, xfad62_1, bin_add, xcv2_59, bin_fquo, bin_lss, xiad44, xld46, xcv29_59, bin_fgtr, xbld62_0, bin_cneq, fr12, wrap_int, wrap_u8, iteP_yes, iteP_no, g1, g21, g23, g24, hat6, hin, hM]
        exact ⟨r - (i + 1), by omega, i + 1, rfl, by omega, rfl, by rw [hks]⟩
      · have ei : i = r := by omega
        subst ei
        simp -dsimp (disch := first | omega | assumption | (refine OkS.sto ?_ (by omega); first | assumption | (refine OkS.sto ?_ (by omega); first | assumption | (refine OkS.sto ?_ (by omega); first | assumption | (refine OkS.sto ?_ (by omega); first | assumption | (refine OkS.sto ?_ (by omega); first | assumption | (refine OkS.sto ?_ (by omega); first | assumption)))))) | exact Pfx.refl _ | (apply Pfx.snoc; repeat (first | exact Pfx.refl _ | assumption | apply Pfx.snoc)) | with_unfolding_all exact of_eq_true (eq_true rfl) | (simp only [List.length_append, List.length_cons, List.length_nil]; omega)) only [↓wpre0, ↓wpre1, ↓reduceIte, Int.reduceToNat, Nat.reduceAdd, Nat.reduceMul, Nat.reduceEqDiff, wpost0, wpost1, wpost2, wpost3, wpost4, ite_self, ite_true, ite_false, if_true, if_false, tze62, xst62, bin_sub, xld62, xbld126_0_1, un_not, xlen44, xlen54, bin_neq, xfad62_0, xld2, bin_mul, xfad62_1, bin_add, xcv2_59, bin_fquo, bin_lss, xiad44, xld46, xcv29_59, bin_fgtr, xbld62_0, bin_cneq, fr12, wrap_int, wrap_u8, iteP_yes, iteP_no, g1, g21, g23, g24, hat6, hi]
  clear g1
  rintro e h2 ⟨rfl, g21, g23⟩
  have hM := Mul_r (ro := ro) (X := X) hX (tu_ok hr5') h2
  simp only [toV, muB] at hM g23
  (repeat' first | simp -dsimp (disch := first | omega | assumption | (refine OkS.sto ?_ (by omega); first | assumption | (refine OkS.sto ?_ (by omega); first | assumption | (refine OkS.sto ?_ (by omega); first | assumption | (refine OkS.sto ?_ (by omega); first | assumption | (refine OkS.sto ?_ (by omega); first | assumption | (refine OkS.sto ?_ (by omega); first | assumption)))))) | exact Pfx.refl _ | (apply Pfx.snoc; repeat (first | exact Pfx.refl _ | assumption | apply Pfx.snoc)) | with_unfolding_all exact of_eq_true (eq_true rfl) | (simp only [List.length_append, List.length_cons, List.length_nil]; omega)) only [↓wpre0, ↓wpre1, ↓reduceIte, Int.reduceToNat, Nat.reduceAdd, Nat.reduceMul, Nat.reduceEqDiff, wpost0, wpost1, wpost2, wpost3, wpost4, ite_self, ite_true, ite_false, if_true, if_false, tze62, xst62, bin_sub, xld62, xbld126_0_1, un_not, xlen44, xlen54, bin_neq, xfad62_0, xld2, bin_mul, xfad62_1, bin_add, xcv2_59, bin_fquo, bin_lss, xiad44, xld46, xcv29_59, bin_fgtr, xbld62_0, bin_cneq, fr12, wrap_int, wrap_u8, iteP_yes, iteP_no, g21, g23, hM] | refine iteP_two (fun hc hd => ?_) (fun hc hd => ?_) | refine iteP_intro (fun hc => ?_) (fun hc => ?_))
  refine loop_rounds (fun mm e h3 => ∃ i : Nat, mm = 8 - i ∧ i ≤ 8 ∧ h3 = h2 ∧ e 21 = z6 ∧ e 23 = toV (tuF r) ∧ e 25 = toV (nwF r i) ∧ e 26 = .int .i64 i) _ ⟨0, rfl, ?_⟩ ?_
  · simp only [updO_at, updO_not, entry_at, List.getD_cons_zero, List.getD_cons_succ, ↓reduceIte, Nat.reduceEqDiff, true_and, and_true]
    exact ⟨Nat.zero_le _, g21, rfl, rfl, rfl⟩
  · clear g21 g23
    rintro mm e h3 ⟨i, hmm, hle, rfl, g21, g23, g25, g26⟩
    have hks : (i : Int) + 1 = ((i + 1 : Nat) : Int) := by omega
    by_cases hi : i < 8
    · have hin : (i : Int) < 8 := by omega
      obtain ⟨k1, k2⟩ := nw_ok hr5' hi
      have hM := Mul_r (ro := ro) (X := X) hX k1 h3
      have eL := lineP (r := r) hi
      unfold eqQ at k2
      rw [← eL] at k2
      simp only [toV] at hM g23 g25
      have hld := hz6.ld (i := i) (by omega)
      simp only [toV] at hld
      simp -dsimp (disch := first | omega | assumption | (refine OkS.sto ?_ (by omega); first | assumption | (refine OkS.sto ?_ (by omega); first | assumption | (refine OkS.sto ?_ (by omega); first | assumption | (refine OkS.sto ?_ (by omega); first | assumption | (refine OkS.sto ?_ (by omega); first | assumption | (refine OkS.sto ?_ (by omega); first | assumption)))))) | exact Pfx.refl _ | (apply Pfx.snoc; repeat (first | exact Pfx.refl _ | assumption | apply Pfx.snoc)) | with_unfolding_all exact of_eq_true (eq_true rfl) | (simp only [List.length_append, List.length_cons, List.length_nil]; omega)) only [↓wpre0, ↓wpre1, ↓reduceIte, Int.reduceToNat, Nat.reduceAdd, Nat.reduceMul, Nat.reduceEqDiff, wpost0, wpost1, wpost2, wpost3, wpost4, ite_self, ite_true, ite_false, if_true, if_false, tze62, xst62, bin_sub, xld62, xbld126_0_1, un_not, xlen44, xlen54, bin_neq, xfad62_0, xld2, bin_mul, xfad62_1, bin_add, xcv2_59, bin_fquo, bin_lss, xiad44, xld46, xcv29_59, bin_fgtr, xbld62_0, bin_cneq, fr12, wrap_int, wrap_u8, iteP_yes, iteP_no, g21, g23, g25, g26, hin, hM, hz6.iad, hld, k2, Bool.not_true, Bool.not_false]
      exact ⟨8 - (i + 1), by omega, i + 1, rfl, by omega, rfl, by rw [hks]⟩
    · have ei : i = 8 := by omega
      subst ei
      simp -dsimp (disch := first | omega | assumption | (refine OkS.sto ?_ (by omega); first | assumption | (refine OkS.sto ?_ (by omega); first | assumption | (refine OkS.sto ?_ (by omega); first | assumption | (refine OkS.sto ?_ (by omega); first | assumption | (refine OkS.sto ?_ (by omega); first | assumption | (refine OkS.sto ?_ (by omega); first | assumption)))))) | exact Pfx.refl _ | (apply Pfx.snoc; repeat (first | exact Pfx.refl _ | assumption | apply Pfx.snoc)) | with_unfolding_all exact of_eq_true (eq_true rfl) | (simp only [List.length_append, List.length_cons, List.length_nil]; omega)) only [↓wpre0, ↓wpre1, ↓reduceIte, Int.reduceToNat, Nat.reduceAdd, Nat.reduceMul, Nat.reduceEqDiff, wpost0, wpost1, wpost2, wpost3, wpost4, ite_self, ite_true, ite_false, if_true, if_false, tze62, xst62, bin_sub, xld62, xbld126_0_1, un_not, xlen44, xlen54, bin_neq, xfad62_0, xld2, bin_mul, xfad62_1, bin_add, xcv2_59, bin_fquo, bin_lss, xiad44, xld46, xcv29_59, bin_fgtr, xbld62_0, bin_cneq, fr12, wrap_int, wrap_u8, iteP_yes, iteP_no, g21, g23, g25, g26]
theorem lawT_c (hV : VS lo hi 1 h x cd.length (cd.map u8v)) (hU : VS lo' hi' 1 h y md.length (md.map u8v)) (hhi : hi ≤ h.length) (hhi' : hi' ≤ h.length) (hro : ro ≤ h.length) (hl : cd.length ≤ 140737488351232) (hl' : md.length ≤ 140737488351232) :
    CallR Try.prog ro (xT1 ro) 12 [x, y] h (fun r h' => r = .bool true) :=
  lawSteer_c (xn_T1 ro) rfl xn_T0 (XDW.of xn_T0 rfl) ⟨rfl, rfl⟩ rfl hV hU hhi hhi' hro hl hl'
end Go.Proofs.Ytelogajobjflfaa.Sim
