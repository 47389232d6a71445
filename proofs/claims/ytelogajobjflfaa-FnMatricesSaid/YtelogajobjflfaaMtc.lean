/- Matrices made number by number. Lemmas only; no condition. -/
import Derived.Test.YtelogajobjflfaaMtb
set_option linter.unusedSimpArgs false
set_option linter.unusedVariables false
set_option maxRecDepth 8000
namespace Go.Proofs.Ytelogajobjflfaa.Sim
open Go Go.RowKit
variable {ro lo : Nat} {X : Ext} {h : Heap} {x y : Value} {n p q : Nat} {f g : Nat → CB} {M : Nat → Nat → CB}
/-- A value that is a matrix: its rows. -/
abbrev matV (x : Value) : Value := .agg ⟨[x]⟩
theorem vs_ld {lo hi n : Nat} {h : Heap} {x : Value} {R : List Value} (s : VS lo hi 1 h x n R) {i : Nat} (hi' : i < n) : ld Try.prog h 44 (ea x (i * 1)) = some (vth R i) := by
  rw [s.ld1 tsz44 tag44 (by omega), Nat.mul_one]
set_option maxHeartbeats 2000000 in
theorem column_c (hX : XN X) (m : MatB lo h x p q M) {j : Nat} (hj : j < q) (hp : p ≤ 1024) (hro : ro ≤ h.length) :
    CallR Try.prog ro X 118 [matV x, .int .i64 j] h (fun r h' => Pfx h h' ∧ RowB h.length h' r p (fun i => M i j) ∧ Sim.flat r = false) := by
  obtain ⟨R, hR, hrow⟩ := m
  have hsh := hR.shape
  have hb : boxV h 38 (matV x) = some (.pointer (some ⟨h.length, 0, none⟩), h ++ [⟨38, [x]⟩]) := box_go (by simp [cellsOf, hsh.2.2])
  refine callR_of (hX _ rfl) Try.func118 rfl (by kernel_rfl) (Nat.le_of_ble_eq_true rfl) ?_
  (repeat' first | simp -dsimp (disch := first | omega | assumption | (refine OkS.sto ?_ (by omega); first | assumption | (refine OkS.sto ?_ (by omega); first | assumption | (refine OkS.sto ?_ (by omega); first | assumption | (refine OkS.sto ?_ (by omega); first | assumption | (refine OkS.sto ?_ (by omega); first | assumption | (refine OkS.sto ?_ (by omega); first | assumption)))))) | exact Pfx.refl _ | (apply Pfx.snoc; repeat (first | exact Pfx.refl _ | assumption | apply Pfx.snoc)) | with_unfolding_all exact of_eq_true (eq_true rfl) | (simp only [List.length_append, List.length_cons, List.length_nil]; omega)) only [↓wpre0, ↓wpre1, ↓reduceIte, Int.reduceToNat, Nat.reduceAdd, Nat.reduceMul, Nat.reduceEqDiff, wpost0, wpost1, wpost2, wpost3, wpost4, ite_self, ite_true, ite_false, if_true, if_false, xbls44_0, xbls44_1, xfad38_0, xld36, xlen36, bin_lss, xiad36, xld44, xiad44, xld46, bin_add, fr118, wrap_int, wrap_u8, iteP_yes, iteP_no, hb, hR.len Try.underlying36] | refine iteP_two (fun hc hd => ?_) (fun hc hd => ?_) | refine iteP_intro (fun hc => ?_) (fun hc => ?_))
  obtain ⟨H0, hH0⟩ : ∃ H0, H0 = h ++ [(⟨38, [x]⟩ : Blk)] ++ [(⟨46, []⟩ : Blk)] := ⟨_, rfl⟩
  have p0 : Pfx h H0 := by rw [hH0]; exact (Pfx.refl h).snoc.snoc
  have l0 : H0.length = h.length + 2 := by rw [hH0]; simp
  have hY0 : VG h.length 46 1 H0 (.slice (some ⟨h.length + 1, 0, none⟩) 0 0) 0 [] := by
    have := vg_new (lo := h.length) (t := 46) (k := 1) (h ++ [(⟨38, [x]⟩ : Blk)]) (by simp)
    rw [hH0]
    simpa using this
  rw [← hH0]
  refine loop_rounds (fun mm e h' => ∃ (i : Nat) (y : Value), mm = p - i ∧ i ≤ p ∧ e 1 = .int .i64 j ∧ e 5 = y ∧ e 10 = x ∧ e 11 = .int .i64 p ∧ e 12 = .int .i64 i ∧ Pfx h h' ∧ VG h.length 46 1 h' y i (rowV i fun i => M i j)) _ ⟨0, .slice (some ⟨h.length + 1, 0, none⟩) 0 0, rfl, ?_⟩ ?_
  · simp only [updO_at, updO_not, entry_at, List.getD_cons_zero, List.getD_cons_succ, ↓reduceIte, Nat.reduceEqDiff, true_and, and_true]
    have z : rowV 0 (fun i => M i j) = [] := rfl
    rw [z]
    (repeat' (first | assumption | rfl | omega | simp | refine And.intro ?_ ?_))
  · rintro mm e h' ⟨i, y, hmm, hle, g1, g5, g10, g11, g12, hp1, hY⟩
    have hl := hp1.len
    have hks : (i : Int) + 1 = ((i + 1 : Nat) : Int) := by omega
    by_cases hin : i < p
    · have hRi := hR.pre hp1
      have hr := (hrow i hin).pre hp1
      have hld := vs_ld hRi hin
      obtain ⟨H, ap, vg, old, hlen⟩ := acc1 (P := Try.prog) (ro := ro) (T := 44) (h := h') (v := toV (M i j)) tel44 tsz46 tby46 tze46 (.inl hY) hro hl rfl (by omega) (by omega)
      have vg' : VG h.length 46 1 H (.slice (some ⟨h'.length + 1, 0, none⟩) (i + 1) (i + 1 + 1)) (i + 1) (rowV (i + 1) fun i => M i j) := by rw [rowV_succ]; exact vg
      have pH := old.1 h hp1 (Nat.le_refl _)
      (repeat' first | simp -dsimp (disch := first | omega | assumption | (refine OkS.sto ?_ (by omega); first | assumption | (refine OkS.sto ?_ (by omega); first | assumption | (refine OkS.sto ?_ (by omega); first | assumption | (refine OkS.sto ?_ (by omega); first | assumption | (refine OkS.sto ?_ (by omega); first | assumption | (refine OkS.sto ?_ (by omega); first | assumption)))))) | exact Pfx.refl _ | (apply Pfx.snoc; repeat (first | exact Pfx.refl _ | assumption | apply Pfx.snoc)) | with_unfolding_all exact of_eq_true (eq_true rfl) | (simp only [List.length_append, List.length_cons, List.length_nil]; omega)) only [↓wpre0, ↓wpre1, ↓reduceIte, Int.reduceToNat, Nat.reduceAdd, Nat.reduceMul, Nat.reduceEqDiff, wpost0, wpost1, wpost2, wpost3, wpost4, ite_self, ite_true, ite_false, if_true, if_false, xbls44_0, xbls44_1, xfad38_0, xld36, xlen36, bin_lss, xiad36, xld44, xiad44, xld46, bin_add, fr118, wrap_int, wrap_u8, iteP_yes, iteP_no, g1, g5, g10, g11, g12, hRi.iad Try.underlying36 tsz44, hld, hr.iad, hr.ld, ap] | refine iteP_two (fun hc hd => ?_) (fun hc hd => ?_) | refine iteP_intro (fun hc => ?_) (fun hc => ?_))
      refine ⟨p - (i + 1), by omega, i + 1, .slice (some ⟨h'.length + 1, 0, none⟩) (i + 1) (i + 1 + 1), ?_⟩
      (repeat' (first | assumption | rfl | omega | (rw [hks]) | refine And.intro ?_ ?_))
    · have : i = p := by omega
      subst this
      have hnf : Sim.flat y = false := by obtain ⟨_, b, cap, rfl, _⟩ := hY; rfl
      (repeat' first | simp -dsimp (disch := first | omega | assumption | (refine OkS.sto ?_ (by omega); first | assumption | (refine OkS.sto ?_ (by omega); first | assumption | (refine OkS.sto ?_ (by omega); first | assumption | (refine OkS.sto ?_ (by omega); first | assumption | (refine OkS.sto ?_ (by omega); first | assumption | (refine OkS.sto ?_ (by omega); first | assumption)))))) | exact Pfx.refl _ | (apply Pfx.snoc; repeat (first | exact Pfx.refl _ | assumption | apply Pfx.snoc)) | with_unfolding_all exact of_eq_true (eq_true rfl) | (simp only [List.length_append, List.length_cons, List.length_nil]; omega)) only [↓wpre0, ↓wpre1, ↓reduceIte, Int.reduceToNat, Nat.reduceAdd, Nat.reduceMul, Nat.reduceEqDiff, wpost0, wpost1, wpost2, wpost3, wpost4, ite_self, ite_true, ite_false, if_true, if_false, xbls44_0, xbls44_1, xfad38_0, xld36, xlen36, bin_lss, xiad36, xld44, xiad44, xld46, bin_add, fr118, wrap_int, wrap_u8, iteP_yes, iteP_no, g1, g5, g10, g11, g12, endH_not hnf] | refine iteP_two (fun hc hd => ?_) (fun hc hd => ?_) | refine iteP_intro (fun hc => ?_) (fun hc => ?_))
      exact ⟨hp1, hY.vsl, hnf⟩
/-- Rows, each in a block of its own that is not the block 'bx'. -/
structure NR (lo q : Nat) (h : Heap) (bx : Nat) (R : List Value) (M : Nat → Nat → CB) : Prop where
  row : ∀ i, i < R.length → VG lo 46 1 h (vth R i) q (rowV q (M i))
  out : ∀ i, i < R.length → bOf (vth R i) ≠ bx
/-- A matrix under way. -/
structure MB (h : Heap) (q i : Nat) (M : Nat → Nat → CB) (h' : Heap) (xr : Value) (R : List Value) : Prop where
  pre : Pfx h h'
  c6 : ∃ v, h'[h.length]? = some ⟨38, [v]⟩
  c7 : h'[h.length + 1]? = some ⟨38, [xr]⟩
  vn : VN (h.length + 2) 44 1 h' xr i R
  nr : NR (h.length + 2) q h' (bOf xr) R M
  rl : R.length = i
/-- A row under way lies in a block of its own. -/
def Apt (lo : Nat) (h' : Heap) (xr : Value) (R : List Value) (y : Value) : Prop := lo ≤ bOf y ∧ bOf y < h'.length ∧ (xr = .slice none 0 0 ∨ bOf xr ≠ bOf y) ∧ ∀ i, i < R.length → bOf (vth R i) ≠ bOf y
theorem MB.lt {i : Nat} {h' : Heap} {xr : Value} {R : List Value} (m : MB h q i M h' xr R) : h.length + 2 ≤ h'.length := by
  have := lt_of_some m.c7
  omega
theorem MB.frame {i : Nat} {h' H : Heap} {xr y : Value} {R : List Value} (m : MB h q i M h' xr R) (hy : Apt (h.length + 2) h' xr R y) (hp : Pfx h H) (ha : ∀ b, b < h'.length → b ≠ bOf y → H[b]? = h'[b]?) : MB h q i M H xr R := by
  obtain ⟨y1, y2, y3, y4⟩ := hy
  have hl := m.lt
  refine ⟨hp, ?_, ?_, m.vn.frame fun hne => ?_, ⟨fun j hj => ?_, m.nr.out⟩, m.rl⟩
  · obtain ⟨v, hv⟩ := m.c6
    exact ⟨v, by rw [ha _ (by omega) (by omega)]; exact hv⟩
  · rw [ha _ (by omega) (by omega)]; exact m.c7
  · rcases m.vn with g | ⟨_, _, g⟩
    · exact ha _ g.bof.2 (by rcases y3 with z | z; exact absurd z hne; exact z)
    · exact absurd g hne
  · have r := m.nr.row j hj
    exact r.frame (ha _ r.bof.2 (y4 j hj))
theorem MB.pfx {i : Nat} {h' H : Heap} {xr : Value} {R : List Value} (m : MB h q i M h' xr R) (p : Pfx h' H) : MB h q i M H xr R := by
  have hl := m.lt
  refine ⟨m.pre.trans p, ?_, by rw [p.get (by omega)]; exact m.c7, m.vn.pre p, ⟨fun j hj => (m.nr.row j hj).pre p, m.nr.out⟩, m.rl⟩
  obtain ⟨v, hv⟩ := m.c6
  exact ⟨v, by rw [p.get (by omega)]; exact hv⟩
theorem MB.apt {i : Nat} {h' H : Heap} {xr : Value} {R : List Value} (m : MB h q i M h' xr R) {b n c : Nat} (hb : h'.length ≤ b) (hH : b < H.length) : Apt (h.length + 2) H xr R (.slice (some ⟨b, 0, none⟩) n c) := by
  have hl := m.lt
  refine ⟨by show h.length + 2 ≤ b; omega, hH, ?_, fun j hj => ?_⟩
  · rcases m.vn with g | ⟨_, _, g⟩
    · right
      have := g.bof.2
      show bOf xr ≠ b
      omega
    · exact .inl g
  · have := (m.nr.row j hj).bof.2
    show bOf (vth R j) ≠ b
    omega
/-- A row more. -/
theorem MB.more {i : Nat} {h' H : Heap} {xr y xr' : Value} {R : List Value} (m : MB h q i M h' xr R) (hY : VG (h.length + 2) 46 1 h' y q (rowV q (M i))) (apt : Apt (h.length + 2) h' xr R y) (vg : VG (h.length + 2) 44 1 H xr' (i + 1) (R ++ [y])) (old : Old (h.length + 2) xr h' H) (hx : bOf xr' = h'.length + 1) :
    MB h q (i + 1) M (H.set (h.length + 1) ⟨38, [xr']⟩) xr' (R ++ [y]) := by
  have hl := m.lt
  have hlH := old.2.2
  obtain ⟨y1, y2, y3, y4⟩ := apt
  have xo : xr = .slice none 0 0 ∨ h.length + 2 ≤ bOf xr := by
    rcases m.vn with g | ⟨_, _, g⟩
    · exact .inr g.bof.1
    · exact .inl g
  have low : ∀ b, b < h.length + 2 → H[b]? = h'[b]? := fun b hb => old.2.1 b (by omega) (by rcases xo with z | z; exact .inl z; exact .inr (by omega))
  refine ⟨(old.1 h m.pre (by omega)).set (by omega), ?_, set_at (by omega), .inl (vg.frame (set_get (by omega))), ⟨fun j hj => ?_, fun j hj => ?_⟩, by simp [m.rl]⟩
  · obtain ⟨v, hv⟩ := m.c6
    exact ⟨v, by rw [set_get (by omega), low _ (by omega)]; exact hv⟩
  · rw [List.length_append, List.length_singleton] at hj
    by_cases e : j < R.length
    · rw [vth_append_left e]
      have r := m.nr.row j e
      refine r.frame ?_
      rw [set_get (by have := r.bof.1; omega)]
      exact old.2.1 _ r.bof.2 (.inr (m.nr.out j e))
    · have ej : j = i := by have := m.rl; omega
      subst ej
      rw [vth_append_right (by omega), m.rl, Nat.sub_self]
      refine hY.frame ?_
      show (H.set (h.length + 1) _)[bOf y]? = _
      rw [set_get (by omega)]
      refine old.2.1 _ y2 ?_
      rcases y3 with z | z
      · exact .inl z
      · exact .inr fun q => z q.symm
  · rw [List.length_append, List.length_singleton] at hj
    rw [hx]
    by_cases e : j < R.length
    · rw [vth_append_left e]
      have r := (m.nr.row j e).bof.2
      omega
    · have ej : j = i := by have := m.rl; omega
      subst ej
      rw [vth_append_right (by omega), m.rl, Nat.sub_self]
      show bOf y ≠ _
      omega
theorem MB.mat {h' : Heap} {xr v : Value} {R : List Value} (m : MB h q p M h' xr R) : MatB (h.length + 2) (h'.set h.length ⟨38, [v]⟩) xr p q M := by
  have hl := m.lt
  refine ⟨R, ?_, fun i hi => ?_⟩
  · have := m.vn.vs
    rw [List.length_set]
    exact (this.frame fun b h1 h2 => set_get (by omega)).wide (by omega) (Nat.le_refl _)
  · have hiR : i < R.length := by rw [m.rl]; exact hi
    have r := m.nr.row i hiR
    unfold RowB
    rw [List.length_set]
    exact (r.vsl.frame fun b h1 h2 => set_get (by omega)).wide (by omega) (Nat.le_refl _)
set_option maxHeartbeats 8000000 in
theorem matrixBy_c (hX : XN X) (F : FuncId) (cap : List Value) (hp1 : p ≤ 1024) (hq1 : q ≤ 1024) (hro : ro ≤ h.length)
    (hF : ∀ (H : Heap) (i j : Nat), Pfx h H → i < p → j < q → Ret Try.prog ro X F (.int .i64 i :: .int .i64 j :: cap) H (toV (M i j))) :
    CallR Try.prog ro X 115 [.int .i64 p, .int .i64 q, .func (.func F) ⟨[]⟩ ⟨cap⟩] h (fun r h' => ∃ x, r = matV x ∧ Pfx h h' ∧ MatB (h.length + 2) h' x p q M ∧ Sim.flat r = false) := by
  refine callR_of (hX _ rfl) Try.func115 rfl (by kernel_rfl) (Nat.le_of_ble_eq_true rfl) ?_
  (repeat' first | simp -dsimp (disch := first | omega | assumption | (refine OkS.sto ?_ (by omega); first | assumption | (refine OkS.sto ?_ (by omega); first | assumption | (refine OkS.sto ?_ (by omega); first | assumption | (refine OkS.sto ?_ (by omega); first | assumption | (refine OkS.sto ?_ (by omega); first | assumption | (refine OkS.sto ?_ (by omega); first | assumption)))))) | exact Pfx.refl _ | (apply Pfx.snoc; repeat (first | exact Pfx.refl _ | assumption | apply Pfx.snoc)) | with_unfolding_all exact of_eq_true (eq_true rfl) | (simp only [List.length_append, List.length_cons, List.length_nil]; omega)) only [↓wpre0, ↓wpre1, ↓reduceIte, Int.reduceToNat, Nat.reduceAdd, Nat.reduceMul, Nat.reduceEqDiff, wpost0, wpost1, wpost2, wpost3, wpost4, ite_self, ite_true, ite_false, if_true, if_false, tze38, xbld38, xst38, bin_lss, xbls44_0, xbls44_1, bin_add, xfad38_0, xld36, xbls36_0, xbls36_1, xst36, xld38, fr115, wrap_int, wrap_u8, iteP_yes, iteP_no] | refine iteP_two (fun hc hd => ?_) (fun hc hd => ?_) | refine iteP_intro (fun hc => ?_) (fun hc => ?_))
  refine loop_exit 0 (fun e h' => ∃ xr R, e 6 = .pointer (some ⟨h.length, 0, none⟩) ∧ e 7 = .pointer (some ⟨h.length + 1, 0, none⟩) ∧ MB h q p M h' xr R) ?_ ?_
  · refine loop_rounds (fun mm e h' => ∃ (i : Nat) (xr : Value) (R : List Value), mm = p - i ∧ i ≤ p ∧ e 1 = .int .i64 q ∧ e 2 = .func (.func F) ⟨[]⟩ ⟨cap⟩ ∧ e 6 = .pointer (some ⟨h.length, 0, none⟩) ∧ e 7 = .pointer (some ⟨h.length + 1, 0, none⟩) ∧ e 12 = .int .i64 p ∧ e 13 = .int .i64 i ∧ MB h q i M h' xr R) _ ⟨0, .slice none 0 0, [], rfl, ?_⟩ ?_
    · simp only [updO_at, updO_not, entry_at, List.getD_cons_zero, List.getD_cons_succ, ↓reduceIte, Nat.reduceEqDiff, true_and, and_true]
      have m0 : MB h q 0 M (h ++ [(⟨38, [.slice none 0 0]⟩ : Blk)] ++ [(⟨38, [.slice none 0 0]⟩ : Blk)]) (.slice none 0 0) [] := ⟨(Pfx.refl h).snoc.snoc, ⟨.slice none 0 0, by rw [get_skip (by simp)]; exact get_last rfl⟩, get_last (by simp), vn_nil _, ⟨fun i hi => by simp at hi, fun i hi => by simp at hi⟩, rfl⟩
      (repeat' (first | assumption | rfl | omega | (simpa using m0) | simp | refine And.intro ?_ ?_))
    · rintro mm e h' ⟨i, xr, R, hmm, hle, g1, g2, g6, g7, g12, g13, mb⟩
      have hks : (i : Int) + 1 = ((i + 1 : Nat) : Int) := by omega
      by_cases hin : i < p
      · (repeat' first | simp -dsimp (disch := first | omega | assumption | (refine OkS.sto ?_ (by omega); first | assumption | (refine OkS.sto ?_ (by omega); first | assumption | (refine OkS.sto ?_ (by omega); first | assumption | (refine OkS.sto ?_ (by omega); first | assumption | (refine OkS.sto ?_ (by omega); first | assumption | (refine OkS.sto ?_ (by omega); first | assumption)))))) | exact Pfx.refl _ | (apply Pfx.snoc; repeat (first | exact Pfx.refl _ | assumption | apply Pfx.snoc)) | with_unfolding_all exact of_eq_true (eq_true rfl) | (simp only [List.length_append, List.length_cons, List.length_nil]; omega)) only [↓wpre0, ↓wpre1, ↓reduceIte, Int.reduceToNat, Nat.reduceAdd, Nat.reduceMul, Nat.reduceEqDiff, wpost0, wpost1, wpost2, wpost3, wpost4, ite_self, ite_true, ite_false, if_true, if_false, tze38, xbld38, xst38, bin_lss, xbls44_0, xbls44_1, bin_add, xfad38_0, xld36, xbls36_0, xbls36_1, xst36, xld38, fr115, wrap_int, wrap_u8, iteP_yes, iteP_no, g1, g2, g6, g7, g12, g13] | refine iteP_two (fun hc hd => ?_) (fun hc hd => ?_) | refine iteP_intro (fun hc => ?_) (fun hc => ?_))
        refine loop_exit 2 (fun e h2 => ∃ y, e 1 = .int .i64 q ∧ e 2 = .func (.func F) ⟨[]⟩ ⟨cap⟩ ∧ e 6 = .pointer (some ⟨h.length, 0, none⟩) ∧ e 7 = .pointer (some ⟨h.length + 1, 0, none⟩) ∧ e 9 = y ∧ e 12 = .int .i64 p ∧ e 13 = .int .i64 i ∧ MB h q i M h2 xr R ∧ VG (h.length + 2) 46 1 h2 y q (rowV q (M i)) ∧ Apt (h.length + 2) h2 xr R y) ?_ ?_
        · refine loop_rounds (fun mm e h2 => ∃ (j : Nat) (y : Value), mm = q - j ∧ j ≤ q ∧ e 1 = .int .i64 q ∧ e 2 = .func (.func F) ⟨[]⟩ ⟨cap⟩ ∧ e 6 = .pointer (some ⟨h.length, 0, none⟩) ∧ e 7 = .pointer (some ⟨h.length + 1, 0, none⟩) ∧ e 8 = .int .i64 i ∧ e 9 = y ∧ e 12 = .int .i64 p ∧ e 13 = .int .i64 i ∧ e 17 = .int .i64 q ∧ e 18 = .int .i64 j ∧ MB h q i M h2 xr R ∧ VG (h.length + 2) 46 1 h2 y j (rowV j (M i)) ∧ Apt (h.length + 2) h2 xr R y) _ ⟨0, .slice (some ⟨h'.length, 0, none⟩) 0 0, rfl, ?_⟩ ?_
          · simp only [updO_at, updO_not, entry_at, List.getD_cons_zero, List.getD_cons_succ, ↓reduceIte, Nat.reduceEqDiff, true_and, and_true]
            have mb' := mb.pfx (H := h' ++ [(⟨46, []⟩ : Blk)]) (Pfx.refl h').snoc
            have vg0 : VG (h.length + 2) 46 1 (h' ++ [(⟨46, []⟩ : Blk)]) (.slice (some ⟨h'.length, 0, none⟩) 0 0) 0 (rowV 0 (M i)) := vg_new h' mb.lt
            have apt0 := mb.apt (H := h' ++ [(⟨46, []⟩ : Blk)]) (b := h'.length) (n := 0) (c := 0) (Nat.le_refl _) (by simp)
            (repeat' (first | assumption | rfl | omega | refine And.intro ?_ ?_))
          · rintro mm e h2 ⟨j, y, hmm, hjl, g1, g2, g6, g7, g8, g9, g12, g13, g17, g18, mb, hY, apt⟩
            have hkj : (j : Int) + 1 = ((j + 1 : Nat) : Int) := by omega
            have hl2 := mb.lt
            by_cases hjn : j < q
            · obtain ⟨H, ap, vg, old, hlen⟩ := acc1 (P := Try.prog) (ro := ro) (T := 44) (h := h2) (v := toV (M i j)) tel44 tsz46 tby46 tze46 (.inl hY) (by omega) hl2 rfl (by omega) (by omega)
              have vg' : VG (h.length + 2) 46 1 H (.slice (some ⟨h2.length + 1, 0, none⟩) (j + 1) (j + 1 + 1)) (j + 1) (rowV (j + 1) (M i)) := by rw [rowV_succ]; exact vg
              have mb' : MB h q i M H xr R := mb.frame apt (old.1 h mb.pre (by omega)) fun b hb hne => old.2.1 b hb (.inr hne)
              have apt' : Apt (h.length + 2) H xr R (.slice (some ⟨h2.length + 1, 0, none⟩) (j + 1) (j + 1 + 1)) := mb.apt (by omega) (by omega)
              (repeat' first | simp -dsimp (disch := first | omega | assumption | (refine OkS.sto ?_ (by omega); first | assumption | (refine OkS.sto ?_ (by omega); first | assumption | (refine OkS.sto ?_ (by omega); first | assumption | (refine OkS.sto ?_ (by omega); first | assumption | (refine OkS.sto ?_ (by omega); first | assumption | (refine OkS.sto ?_ (by omega); first | assumption)))))) | exact Pfx.refl _ | (apply Pfx.snoc; repeat (first | exact Pfx.refl _ | assumption | apply Pfx.snoc)) | with_unfolding_all exact of_eq_true (eq_true rfl) | (simp only [List.length_append, List.length_cons, List.length_nil]; omega)) only [↓wpre0, ↓wpre1, ↓reduceIte, Int.reduceToNat, Nat.reduceAdd, Nat.reduceMul, Nat.reduceEqDiff, wpost0, wpost1, wpost2, wpost3, wpost4, ite_self, ite_true, ite_false, if_true, if_false, tze38, xbld38, xst38, bin_lss, xbls44_0, xbls44_1, bin_add, xfad38_0, xld36, xbls36_0, xbls36_1, xst36, xld38, fr115, wrap_int, wrap_u8, iteP_yes, iteP_no, g1, g2, g6, g7, g8, g9, g12, g13, g17, g18, hF h2 i j mb.pre hin hjn, ap] | refine iteP_two (fun hc hd => ?_) (fun hc hd => ?_) | refine iteP_intro (fun hc => ?_) (fun hc => ?_))
              refine ⟨q - (j + 1), by omega, j + 1, .slice (some ⟨h2.length + 1, 0, none⟩) (j + 1) (j + 1 + 1), ?_⟩
              (repeat' (first | assumption | rfl | omega | (rw [hkj]) | refine And.intro ?_ ?_))
            · have : j = q := by omega
              subst this
              (repeat' first | simp -dsimp (disch := first | omega | assumption | (refine OkS.sto ?_ (by omega); first | assumption | (refine OkS.sto ?_ (by omega); first | assumption | (refine OkS.sto ?_ (by omega); first | assumption | (refine OkS.sto ?_ (by omega); first | assumption | (refine OkS.sto ?_ (by omega); first | assumption | (refine OkS.sto ?_ (by omega); first | assumption)))))) | exact Pfx.refl _ | (apply Pfx.snoc; repeat (first | exact Pfx.refl _ | assumption | apply Pfx.snoc)) | with_unfolding_all exact of_eq_true (eq_true rfl) | (simp only [List.length_append, List.length_cons, List.length_nil]; omega)) only [↓wpre0, ↓wpre1, ↓reduceIte, Int.reduceToNat, Nat.reduceAdd, Nat.reduceMul, Nat.reduceEqDiff, wpost0, wpost1, wpost2, wpost3, wpost4, ite_self, ite_true, ite_false, if_true, if_false, tze38, xbld38, xst38, bin_lss, xbls44_0, xbls44_1, bin_add, xfad38_0, xld36, xbls36_0, xbls36_1, xst36, xld38, fr115, wrap_int, wrap_u8, iteP_yes, iteP_no, g1, g2, g6, g7, g8, g9, g12, g13, g17, g18] | refine iteP_two (fun hc hd => ?_) (fun hc hd => ?_) | refine iteP_intro (fun hc => ?_) (fun hc => ?_))
              exact ⟨y, by (repeat' (first | assumption | rfl | omega | refine And.intro ?_ ?_))⟩
        · rintro e h2 ⟨y, g1, g2, g6, g7, g9, g12, g13, mb, hY, apt⟩
          have hl2 := mb.lt
          have c7 : cell h2 (h.length + 1) 0 = some xr := cellb mb.c7
          have hsh := hY.vs.shape
          obtain ⟨H, ap, vg, old, hlen⟩ := acc1 (P := Try.prog) (ro := ro) (T := 36) (h := h2) (v := y) tel36 tsz44 tby44 tze44 mb.vn (by omega) hl2 hsh.2.2 (by omega) (by omega)
          have hlo := old.2.2
          have low : H[h.length + 1]? = h2[h.length + 1]? := old.2.1 _ (by omega) (by
            rcases mb.vn with g | ⟨_, _, g⟩
            · right; have := g.bof.1; omega
            · exact .inl g)
          have c7H : H[h.length + 1]? = some ⟨38, [xr]⟩ := by rw [low]; exact mb.c7
          have P1 : put ro H (h.length + 1) 0 1 (.slice (some ⟨h2.length + 1, 0, none⟩) (i + 1) (i + 1 + 1)) = some (H.set (h.length + 1) ⟨38, [.slice (some ⟨h2.length + 1, 0, none⟩) (i + 1) (i + 1 + 1)]⟩) := putb (n := 1) (o := 0) c7H (by omega) rfl (by simp) rfl
          have mb' := mb.more hY apt vg old rfl
          have hbl : bldS Try.prog h2 36 1 [(0, y)] = some (.slice (some ⟨h2.length, 0, none⟩) 1 1, h2 ++ [⟨44, [y]⟩]) := by
            have := bldS_one (h := h2) (v := y) tel36 tsz44 tze44 rfl (by decide) (by rw [hsh.2.1]; rfl) (by rw [hsh.2.1]; simp [hsh.2.2])
            rw [hsh.2.1] at this
            exact this
          (repeat' first | simp -dsimp (disch := first | omega | assumption | (refine OkS.sto ?_ (by omega); first | assumption | (refine OkS.sto ?_ (by omega); first | assumption | (refine OkS.sto ?_ (by omega); first | assumption | (refine OkS.sto ?_ (by omega); first | assumption | (refine OkS.sto ?_ (by omega); first | assumption | (refine OkS.sto ?_ (by omega); first | assumption)))))) | exact Pfx.refl _ | (apply Pfx.snoc; repeat (first | exact Pfx.refl _ | assumption | apply Pfx.snoc)) | with_unfolding_all exact of_eq_true (eq_true rfl) | (simp only [List.length_append, List.length_cons, List.length_nil]; omega)) only [↓wpre0, ↓wpre1, ↓reduceIte, Int.reduceToNat, Nat.reduceAdd, Nat.reduceMul, Nat.reduceEqDiff, wpost0, wpost1, wpost2, wpost3, wpost4, ite_self, ite_true, ite_false, if_true, if_false, tze38, xbld38, xst38, bin_lss, xbls44_0, xbls44_1, bin_add, xfad38_0, xld36, xbls36_0, xbls36_1, xst36, xld38, fr115, wrap_int, wrap_u8, iteP_yes, iteP_no, g1, g2, g6, g7, g9, g12, g13, c7, hbl, ap, P1] | refine iteP_two (fun hc hd => ?_) (fun hc hd => ?_) | refine iteP_intro (fun hc => ?_) (fun hc => ?_))
          refine ⟨p - (i + 1), by omega, i + 1, .slice (some ⟨h2.length + 1, 0, none⟩) (i + 1) (i + 1 + 1), R ++ [y], ?_⟩
          (repeat' (first | assumption | rfl | omega | (rw [hks]) | refine And.intro ?_ ?_))
      · have : i = p := by omega
        subst this
        (repeat' first | simp -dsimp (disch := first | omega | assumption | (refine OkS.sto ?_ (by omega); first | assumption | (refine OkS.sto ?_ (by omega); first | assumption | (refine OkS.sto ?_ (by omega); first | assumption | (refine OkS.sto ?_ (by omega); first | assumption | (refine OkS.sto ?_ (by omega); first | assumption | (refine OkS.sto ?_ (by omega); first | assumption)))))) | exact Pfx.refl _ | (apply Pfx.snoc; repeat (first | exact Pfx.refl _ | assumption | apply Pfx.snoc)) | with_unfolding_all exact of_eq_true (eq_true rfl) | (simp only [List.length_append, List.length_cons, List.length_nil]; omega)) only [↓wpre0, ↓wpre1, ↓reduceIte, Int.reduceToNat, Nat.reduceAdd, Nat.reduceMul, Nat.reduceEqDiff, wpost0, wpost1, wpost2, wpost3, wpost4, ite_self, ite_true, ite_false, if_true, if_false, tze38, xbld38, xst38, bin_lss, xbls44_0, xbls44_1, bin_add, xfad38_0, xld36, xbls36_0, xbls36_1, xst36, xld38, fr115, wrap_int, wrap_u8, iteP_yes, iteP_no, g1, g2, g6, g7, g12, g13] | refine iteP_two (fun hc hd => ?_) (fun hc hd => ?_) | refine iteP_intro (fun hc => ?_) (fun hc => ?_))
        exact ⟨xr, R, by (repeat' (first | assumption | rfl | omega | refine And.intro ?_ ?_))⟩
  · rintro e h' ⟨xr, R, g6, g7, mb⟩
    have hl := mb.lt
    obtain ⟨v6, hv6⟩ := mb.c6
    have hsh := mb.vn.vs.shape
    have C7 : cells h' (h.length + 1) 0 1 = some (.agg ⟨[xr]⟩) := cellsb (n := 1) (o := 0) mb.c7 (by simp)
    have P6 : put ro h' h.length 0 1 (.agg ⟨[xr]⟩) = some (h'.set h.length ⟨38, [xr]⟩) := putb (n := 1) (o := 0) hv6 hro rfl (by simp) (by simp [cellsOf, hsh.2.2])
    have C6 : cells (h'.set h.length ⟨38, [xr]⟩) h.length 0 1 = some (.agg ⟨[xr]⟩) := cells_set (o := 0) (n := 1) (by omega) (by simp)
    have hnf : Sim.flat (matV xr) = false := by rcases mb.vn.vs.2 with ⟨_, rfl⟩ | ⟨b, o, cap, Bk, rfl, _⟩ <;> rfl
    have pS : Pfx h (h'.set h.length ⟨38, [xr]⟩) := mb.pre.set (Nat.le_refl _)
    have mS := mb.mat (v := xr)
    (repeat' first | simp -dsimp (disch := first | omega | assumption | (refine OkS.sto ?_ (by omega); first | assumption | (refine OkS.sto ?_ (by omega); first | assumption | (refine OkS.sto ?_ (by omega); first | assumption | (refine OkS.sto ?_ (by omega); first | assumption | (refine OkS.sto ?_ (by omega); first | assumption | (refine OkS.sto ?_ (by omega); first | assumption)))))) | exact Pfx.refl _ | (apply Pfx.snoc; repeat (first | exact Pfx.refl _ | assumption | apply Pfx.snoc)) | with_unfolding_all exact of_eq_true (eq_true rfl) | (simp only [List.length_append, List.length_cons, List.length_nil]; omega)) only [↓wpre0, ↓wpre1, ↓reduceIte, Int.reduceToNat, Nat.reduceAdd, Nat.reduceMul, Nat.reduceEqDiff, wpost0, wpost1, wpost2, wpost3, wpost4, ite_self, ite_true, ite_false, if_true, if_false, tze38, xbld38, xst38, bin_lss, xbls44_0, xbls44_1, bin_add, xfad38_0, xld36, xbls36_0, xbls36_1, xst36, xld38, fr115, wrap_int, wrap_u8, iteP_yes, iteP_no, g6, g7, C7, P6, C6, endH_not hnf] | refine iteP_two (fun hc hd => ?_) (fun hc hd => ?_) | refine iteP_intro (fun hc => ?_) (fun hc => ?_))
    exact ⟨xr, rfl, pS, mS, hnf⟩
end Go.Proofs.Ytelogajobjflfaa.Sim
