/- A matrix of small whole numbers, drawn. Lemmas only; no condition. -/
import Derived.Test.YtelogajobjflfaaMtj
set_option linter.unusedSimpArgs false
set_option linter.unusedVariables false
set_option maxRecDepth 8000
namespace Go.Proofs.Ytelogajobjflfaa.Sim
open Go Go.RowKit Fl
variable {ro lo lo' hi : Nat} {X : Ext} {h : Heap} {x y : Value} {n p q s b7 : Nat} {f g : Nat → CB} {M K : Nat → Nat → CB} {cd : List UInt8}
/-- A matrix under way, its rows kept in the block 'b7', all that is new from 'lo' on. -/
structure MC (h : Heap) (b7 lo q i : Nat) (M : Nat → Nat → CB) (h' : Heap) (xr : Value) (R : List Value) : Prop where
  pre : Pfx h h'
  low : h.length ≤ b7 ∧ b7 < lo ∧ lo ≤ h'.length
  c7 : h'[b7]? = some ⟨38, [xr]⟩
  vn : VN lo 44 1 h' xr i R
  nr : NR lo q h' (bOf xr) R M
  rl : R.length = i
theorem MC.frame {i : Nat} {h' H : Heap} {xr y : Value} {R : List Value} (m : MC h b7 lo q i M h' xr R) (hy : Apt lo h' xr R y) (hp : Pfx h H) (hl : h'.length ≤ H.length) (ha : ∀ b, b < h'.length → b ≠ bOf y → H[b]? = h'[b]?) : MC h b7 lo q i M H xr R := by
  obtain ⟨y1, y2, y3, y4⟩ := hy
  obtain ⟨l1, l2, l3⟩ := m.low
  refine ⟨hp, ⟨l1, l2, by omega⟩, ?_, m.vn.frame fun hne => ?_, ⟨fun j hj => ?_, m.nr.out⟩, m.rl⟩
  · rw [ha _ (by omega) (by omega)]; exact m.c7
  · rcases m.vn with g | ⟨_, _, g⟩
    · exact ha _ g.bof.2 (by rcases y3 with z | z; exact absurd z hne; exact z)
    · exact absurd g hne
  · have r := m.nr.row j hj
    exact r.frame (ha _ r.bof.2 (y4 j hj))
theorem MC.only {i b : Nat} {h' H : Heap} {xr : Value} {R : List Value} (m : MC h b7 lo q i M h' xr R) (o : Only b h' H) (hb : h.length ≤ b) (hb' : b < lo) (hne : b ≠ b7) : MC h b7 lo q i M H xr R := by
  obtain ⟨l1, l2, l3⟩ := m.low
  have hl := o.1
  refine ⟨pfx_only m.pre o hb, ⟨l1, l2, by omega⟩, by rw [o.2 _ (fun e => hne e.symm)]; exact m.c7, m.vn.frame fun hne => ?_, ⟨fun j hj => ?_, m.nr.out⟩, m.rl⟩
  · rcases m.vn with g | ⟨_, _, g⟩
    · exact o.2 _ (by have := g.bof.1; omega)
    · exact absurd g hne
  · have r := m.nr.row j hj
    exact r.frame (o.2 _ (by have := r.bof.1; omega))
theorem MC.congr {i : Nat} {h' : Heap} {xr : Value} {R : List Value} (m : MC h b7 lo q i M h' xr R) (hk : ∀ a b, a < i → b < q → M a b = K a b) : MC h b7 lo q i K h' xr R :=
  ⟨m.pre, m.low, m.c7, m.vn, ⟨fun j hj => by rw [← rowV_congr (f := M j) fun b hb => hk j b (by have := m.rl; omega) hb]; exact m.nr.row j hj, m.nr.out⟩, m.rl⟩
theorem MC.pfx {i : Nat} {h' H : Heap} {xr : Value} {R : List Value} (m : MC h b7 lo q i M h' xr R) (p : Pfx h' H) : MC h b7 lo q i M H xr R := by
  obtain ⟨l1, l2, l3⟩ := m.low
  have := p.len
  exact ⟨m.pre.trans p, ⟨l1, l2, by omega⟩, by rw [p.get (by omega)]; exact m.c7, m.vn.pre p, ⟨fun j hj => (m.nr.row j hj).pre p, m.nr.out⟩, m.rl⟩
theorem MC.apt {i : Nat} {h' H : Heap} {xr : Value} {R : List Value} (m : MC h b7 lo q i M h' xr R) {b n c : Nat} (hb : h'.length ≤ b) (hH : b < H.length) : Apt lo H xr R (.slice (some ⟨b, 0, none⟩) n c) := by
  obtain ⟨l1, l2, l3⟩ := m.low
  refine ⟨by show lo ≤ b; omega, hH, ?_, fun j hj => ?_⟩
  · rcases m.vn with g | ⟨_, _, g⟩
    · right
      have := g.bof.2
      show bOf xr ≠ b
      omega
    · exact .inl g
  · have := (m.nr.row j hj).bof.2
    show bOf (vth R j) ≠ b
    omega
theorem Apt.len {lo : Nat} {h' H : Heap} {xr y : Value} {R : List Value} (a : Apt lo h' xr R y) (hl : h'.length ≤ H.length) : Apt lo H xr R y := ⟨a.1, by have := a.2.1; omega, a.2.2⟩
theorem MC.more {i : Nat} {h' H : Heap} {xr y xr' : Value} {R : List Value} (m : MC h b7 lo q i M h' xr R) (hY : VG lo 46 1 h' y q (rowV q (M i))) (apt : Apt lo h' xr R y) (vg : VG lo 44 1 H xr' (i + 1) (R ++ [y])) (old : Old lo xr h' H) (hx : bOf xr' = h'.length + 1) :
    MC h b7 lo q (i + 1) M (H.set b7 ⟨38, [xr']⟩) xr' (R ++ [y]) := by
  obtain ⟨l1, l2, l3⟩ := m.low
  have hlH := old.2.2
  obtain ⟨y1, y2, y3, y4⟩ := apt
  refine ⟨(old.1 h m.pre (by omega)).set (by omega), ⟨l1, l2, by rw [List.length_set]; omega⟩, set_at (by omega), .inl (vg.frame (set_get (by omega))), ⟨fun j hj => ?_, fun j hj => ?_⟩, by simp [m.rl]⟩
  · rw [List.length_append, List.length_singleton] at hj
    by_cases e : j < R.length
    · rw [vth_append_left e]
      have r := m.nr.row j e
      refine r.frame ?_
      rw [set_get (by have := r.bof.1; omega)]
      exact old.2.1 _ r.bof.2 (.inr (m.nr.out j e))
    · have ej : j = i := by have := m.rl; omega
      subst ej
      rw [vth_append_right (by omega), m.rl, Nat.sub_self]
      refine hY.frame ?_
      show (H.set b7 _)[bOf y]? = _
      rw [set_get (by omega)]
      refine old.2.1 _ y2 ?_
      rcases y3 with z | z
      · exact .inl z
      · exact .inr fun q => z q.symm
  · rw [List.length_append, List.length_singleton] at hj
    rw [hx]
    by_cases e : j < R.length
    · rw [vth_append_left e]
      have r := (m.nr.row j e).bof.2
      omega
    · have ej : j = i := by have := m.rl; omega
      subst ej
      rw [vth_append_right (by omega), m.rl, Nat.sub_self]
      show bOf y ≠ _
      omega
theorem MC.mat {h' : Heap} {xr v : Value} {R : List Value} {b : Nat} (m : MC h b7 lo q p M h' xr R) (hb : b < lo) : MatB lo (h'.set b ⟨38, [v]⟩) xr p q M := by
  refine ⟨R, ?_, fun i hi => ?_⟩
  · have := m.vn.vs
    rw [List.length_set]
    exact this.frame fun b h1 h2 => set_get (by omega)
  · have hiR : i < R.length := by rw [m.rl]; exact hi
    have r := m.nr.row i hiR
    unfold RowB
    rw [List.length_set]
    exact r.vsl.frame fun b h1 h2 => set_get (by omega)
def zmat (Z : List (List ZC)) (i j : Nat) : ZC := zat (Z.getD i []) j
theorem zmat_left {Z : List (List ZC)} {w : List ZC} {i j : Nat} (h : i < Z.length) : zmat (Z ++ [w]) i j = zmat Z i j := by simp [zmat, List.getElem?_append_left h]
theorem zmat_last {Z : List (List ZC)} {w : List ZC} {j : Nat} : zmat (Z ++ [w]) Z.length j = zat w j := by simp [zmat]
theorem zat_le {k : Nat} {Z : List ZC} (h : ∀ z ∈ Z, z.le k) (i : Nat) : (zat Z i).le k := by
  unfold zat
  rw [List.getD_eq_getElem?_getD]
  rcases Nat.lt_or_ge i Z.length with q | q
  · rw [List.getElem?_eq_getElem q]; exact h _ (List.getElem_mem q)
  · rw [List.getElem?_eq_none q]; exact ⟨by simp [ZC.zero], by simp [ZC.zero]⟩
theorem zmat_le {k : Nat} {Z : List (List ZC)} (h : ∀ r ∈ Z, ∀ z ∈ r, z.le k) (i j : Nat) : (zmat Z i j).le k := by
  unfold zmat
  refine zat_le ?_ j
  rw [List.getD_eq_getElem?_getD]
  rcases Nat.lt_or_ge i Z.length with q | q
  · rw [List.getElem?_eq_getElem q]; exact h _ (List.getElem_mem q)
  · rw [List.getElem?_eq_none q]; intro z hz; cases hz
set_option maxHeartbeats 8000000 in
theorem MatD_c (hX : XN X) (hV : VS lo hi 1 h x cd.length (cd.map u8v)) (hhi : hi ≤ h.length) (hl : cd.length ≤ 1099511627776) (hro : ro ≤ h.length) (hp : p ≤ 1024) (hq : q ≤ 1024) :
    CallR Try.prog ro X 23 [x, .int .i64 p, .int .i64 q] h (fun r h' => ∃ (z : Nat → Nat → ZC) (y : Value), (∀ i j, (z i j).le 4) ∧ r = matV y ∧ Pfx h h' ∧ MatB h.length h' y p q (fun i j => intB (z i j))) := by
  refine callR_of (hX _ rfl) Try.func23 rfl (by kernel_rfl) (Nat.le_of_ble_eq_true rfl) ?_
  have pz : Pfx h (h ++ [(⟨38, [.slice none 0 0]⟩ : Blk)]) := (Pfx.refl h).snoc
  (repeat' first | simp -dsimp (disch := first | omega | assumption | (refine OkS.sto ?_ (by omega); first | assumption | (refine OkS.sto ?_ (by omega); first | assumption | (refine OkS.sto ?_ (by omega); first | assumption | (refine OkS.sto ?_ (by omega); first | assumption | (refine OkS.sto ?_ (by omega); first | assumption | (refine OkS.sto ?_ (by omega); first | assumption)))))) | exact Pfx.refl _ | (apply Pfx.snoc; repeat (first | exact Pfx.refl _ | assumption | apply Pfx.snoc)) | with_unfolding_all exact of_eq_true (eq_true rfl) | (simp only [List.length_append, List.length_cons, List.length_nil]; omega)) only [↓wpre0, ↓wpre1, ↓reduceIte, Int.reduceToNat, Nat.reduceAdd, Nat.reduceMul, Nat.reduceEqDiff, wpost0, wpost1, wpost2, wpost3, wpost4, ite_self, ite_true, ite_false, if_true, if_false, tze38, xbld38, xst38, bin_gtr, xbls44_0, xbls44_1, bin_lss, bin_sub, xcv2_29, blt_cpx, bin_add, xfad38_0, xld36, xbls36_0, xbls36_1, xst36, xld38, fr23, wrap_int, wrap_u8, iteP_yes, iteP_no] | refine iteP_two (fun hc hd => ?_) (fun hc hd => ?_) | refine iteP_intro (fun hc => ?_) (fun hc => ?_))
  refine cf_rel (From_c (hX _ rfl) (hV.pre pz) (by simp; omega)) (fun q => by cases q) ?_
  rintro r H1 ⟨rfl, p1, l1, S1⟩
  have nz : (h ++ [(⟨38, [.slice none 0 0]⟩ : Blk)]).length = h.length + 1 := by simp
  rw [nz] at l1 S1
  have D6 : H1[h.length]? = some ⟨38, [.slice none 0 0]⟩ := by rw [p1.get (by simp)]; exact get_last rfl
  (repeat' first | simp -dsimp (disch := first | omega | assumption | (refine OkS.sto ?_ (by omega); first | assumption | (refine OkS.sto ?_ (by omega); first | assumption | (refine OkS.sto ?_ (by omega); first | assumption | (refine OkS.sto ?_ (by omega); first | assumption | (refine OkS.sto ?_ (by omega); first | assumption | (refine OkS.sto ?_ (by omega); first | assumption)))))) | exact Pfx.refl _ | (apply Pfx.snoc; repeat (first | exact Pfx.refl _ | assumption | apply Pfx.snoc)) | with_unfolding_all exact of_eq_true (eq_true rfl) | (simp only [List.length_append, List.length_cons, List.length_nil]; omega)) only [↓wpre0, ↓wpre1, ↓reduceIte, Int.reduceToNat, Nat.reduceAdd, Nat.reduceMul, Nat.reduceEqDiff, wpost0, wpost1, wpost2, wpost3, wpost4, ite_self, ite_true, ite_false, if_true, if_false, tze38, xbld38, xst38, bin_gtr, xbls44_0, xbls44_1, bin_lss, bin_sub, xcv2_29, blt_cpx, bin_add, xfad38_0, xld36, xbls36_0, xbls36_1, xst36, xld38, fr23, wrap_int, wrap_u8, iteP_yes, iteP_no, nz] | refine iteP_two (fun hc hd => ?_) (fun hc hd => ?_) | refine iteP_intro (fun hc => ?_) (fun hc => ?_))
  refine loop_exit 0 (fun e h' => ∃ (xr : Value) (R : List Value) (Z : List (List ZC)), e 6 = .pointer (some ⟨h.length, 0, none⟩) ∧ e 8 = .pointer (some ⟨h.length + 2, 0, none⟩) ∧ Z.length = p ∧ (∀ r ∈ Z, ∀ z ∈ r, z.le 4) ∧ (∃ v, h'[h.length]? = some ⟨38, [v]⟩) ∧ MC h (h.length + 2) (h.length + 3) q p (fun i j => intB (zmat Z i j)) h' xr R) ?_ ?_
  · refine loop_rounds (fun mm e h' => ∃ (xr : Value) (R : List Value) (Z : List (List ZC)), mm = p - Z.length ∧ Z.length ≤ p ∧ e 1 = .int .i64 ((p - Z.length : Nat) : Int) ∧ e 2 = .int .i64 q ∧ e 6 = .pointer (some ⟨h.length, 0, none⟩) ∧ e 7 = .pointer (some ⟨h.length + 1, 0, none⟩) ∧ e 8 = .pointer (some ⟨h.length + 2, 0, none⟩) ∧ (∀ r ∈ Z, ∀ z ∈ r, z.le 4) ∧ (∃ v, h'[h.length]? = some ⟨38, [v]⟩) ∧ MC h (h.length + 2) (h.length + 3) q Z.length (fun i j => intB (zmat Z i j)) h' xr R ∧ SRC lo hi (h.length + 1) (Z.length * 10000) x cd h') _ ⟨.slice none 0 0, [], [], rfl, ?_⟩ ?_
    · simp only [updO_at, updO_not, entry_at, List.getD_cons_zero, List.getD_cons_succ, ↓reduceIte, Nat.reduceEqDiff, true_and, and_true]
      have q1 : Pfx H1 (H1 ++ [(⟨38, [.slice none 0 0]⟩ : Blk)]) := (Pfx.refl H1).snoc
      have m0 : MC h (h.length + 2) (h.length + 3) q 0 (fun i j => intB (zmat [] i j)) (H1 ++ [(⟨38, [.slice none 0 0]⟩ : Blk)]) (.slice none 0 0) [] := ⟨(pz.trans p1).trans q1, ⟨by omega, by omega, by simp; omega⟩, get_last (by omega), vn_nil _, ⟨fun i hi => by simp at hi, fun i hi => by simp at hi⟩, rfl⟩
      have S2 := (S1.pre q1).more (A' := 0 * 10000) (by omega)
      have D6' : ∃ v, (H1 ++ [(⟨38, [.slice none 0 0]⟩ : Blk)])[h.length]? = some ⟨38, [v]⟩ := ⟨_, by rw [q1.get (by omega)]; exact D6⟩
      have l1' : H1.length = h.length + 2 := by omega
      (repeat' (first | assumption | rfl | omega | exact m0 | exact S2 | exact Nat.zero_le _ | (rw [l1']) | (intro a ha; cases ha) | refine And.intro ?_ ?_))
    · rintro mm e h' ⟨xr, R, Z, hmm, hle, g1, g2, g6, g7, g8, hz, d6, mc, hS⟩
      obtain ⟨lw1, lw2, lw3⟩ := mc.low
      by_cases hin : Z.length < p
      · (repeat' first | simp -dsimp (disch := first | omega | assumption | (refine OkS.sto ?_ (by omega); first | assumption | (refine OkS.sto ?_ (by omega); first | assumption | (refine OkS.sto ?_ (by omega); first | assumption | (refine OkS.sto ?_ (by omega); first | assumption | (refine OkS.sto ?_ (by omega); first | assumption | (refine OkS.sto ?_ (by omega); first | assumption)))))) | exact Pfx.refl _ | (apply Pfx.snoc; repeat (first | exact Pfx.refl _ | assumption | apply Pfx.snoc)) | with_unfolding_all exact of_eq_true (eq_true rfl) | (simp only [List.length_append, List.length_cons, List.length_nil]; omega)) only [↓wpre0, ↓wpre1, ↓reduceIte, Int.reduceToNat, Nat.reduceAdd, Nat.reduceMul, Nat.reduceEqDiff, wpost0, wpost1, wpost2, wpost3, wpost4, ite_self, ite_true, ite_false, if_true, if_false, tze38, xbld38, xst38, bin_gtr, xbls44_0, xbls44_1, bin_lss, bin_sub, xcv2_29, blt_cpx, bin_add, xfad38_0, xld36, xbls36_0, xbls36_1, xst36, xld38, fr23, wrap_int, wrap_u8, iteP_yes, iteP_no, g1, g2, g6, g7, g8] | refine iteP_two (fun hc hd => ?_) (fun hc hd => ?_) | refine iteP_intro (fun hc => ?_) (fun hc => ?_))
        refine loop_exit 2 (fun e h2 => ∃ (y : Value) (w : List ZC), e 1 = .int .i64 ((p - Z.length : Nat) : Int) ∧ e 2 = .int .i64 q ∧ e 6 = .pointer (some ⟨h.length, 0, none⟩) ∧ e 7 = .pointer (some ⟨h.length + 1, 0, none⟩) ∧ e 8 = .pointer (some ⟨h.length + 2, 0, none⟩) ∧ e 9 = y ∧ w.length = q ∧ (∀ z ∈ w, z.le 4) ∧ (∃ v, h2[h.length]? = some ⟨38, [v]⟩) ∧ MC h (h.length + 2) (h.length + 3) q Z.length (fun i j => intB (zmat Z i j)) h2 xr R ∧ SRC lo hi (h.length + 1) ((Z.length + 1) * 10000) x cd h2 ∧ VG (h.length + 3) 46 1 h2 y q (rowV q fun j => intB (zat w j)) ∧ Apt (h.length + 3) h2 xr R y) ?_ ?_
        · refine loop_rounds (fun mm e h2 => ∃ (y : Value) (w : List ZC), mm = q - w.length ∧ w.length ≤ q ∧ e 1 = .int .i64 ((p - Z.length : Nat) : Int) ∧ e 2 = .int .i64 q ∧ e 6 = .pointer (some ⟨h.length, 0, none⟩) ∧ e 7 = .pointer (some ⟨h.length + 1, 0, none⟩) ∧ e 8 = .pointer (some ⟨h.length + 2, 0, none⟩) ∧ e 9 = y ∧ e 10 = .int .i64 w.length ∧ (∀ z ∈ w, z.le 4) ∧ (∃ v, h2[h.length]? = some ⟨38, [v]⟩) ∧ MC h (h.length + 2) (h.length + 3) q Z.length (fun i j => intB (zmat Z i j)) h2 xr R ∧ SRC lo hi (h.length + 1) (Z.length * 10000 + w.length * 4) x cd h2 ∧ VG (h.length + 3) 46 1 h2 y w.length (rowV w.length fun j => intB (zat w j)) ∧ Apt (h.length + 3) h2 xr R y) _ ⟨.slice (some ⟨h'.length, 0, none⟩) 0 0, [], rfl, ?_⟩ ?_
          · simp only [updO_at, updO_not, entry_at, List.getD_cons_zero, List.getD_cons_succ, ↓reduceIte, Nat.reduceEqDiff, true_and, and_true]
            have q1 : Pfx h' (h' ++ [(⟨46, []⟩ : Blk)]) := (Pfx.refl h').snoc
            have mb' := mc.pfx q1
            have vg0 : VG (h.length + 3) 46 1 (h' ++ [(⟨46, []⟩ : Blk)]) (.slice (some ⟨h'.length, 0, none⟩) 0 0) 0 (rowV 0 fun j => intB (zat [] j)) := vg_new h' (by omega)
            have apt0 := mc.apt (H := h' ++ [(⟨46, []⟩ : Blk)]) (b := h'.length) (n := 0) (c := 0) (Nat.le_refl _) (by simp)
            have d6' : ∃ v, (h' ++ [(⟨46, []⟩ : Blk)])[h.length]? = some ⟨38, [v]⟩ := by obtain ⟨v, hv⟩ := d6; exact ⟨v, by rw [q1.get (by omega)]; exact hv⟩
            have S2 := (hS.pre q1).more (A' := Z.length * 10000 + 0 * 4) (by omega)
            (repeat' (first | assumption | rfl | omega | exact vg0 | exact S2 | exact d6' | exact Nat.zero_le _ | (intro a ha; cases ha) | refine And.intro ?_ ?_))
          · rintro mm e h2 ⟨y, w, hmm, hjl, g1, g2, g6, g7, g8, g9, g10, hw, d6, mc, hS, hY, apt⟩
            obtain ⟨lw1, lw2, lw3⟩ := mc.low
            have hkj : (w.length : Int) + 1 = ((w.length + 1 : Nat) : Int) := by omega
            by_cases hjn : w.length < q
            · (repeat' first | simp -dsimp (disch := first | omega | assumption | (refine OkS.sto ?_ (by omega); first | assumption | (refine OkS.sto ?_ (by omega); first | assumption | (refine OkS.sto ?_ (by omega); first | assumption | (refine OkS.sto ?_ (by omega); first | assumption | (refine OkS.sto ?_ (by omega); first | assumption | (refine OkS.sto ?_ (by omega); first | assumption)))))) | exact Pfx.refl _ | (apply Pfx.snoc; repeat (first | exact Pfx.refl _ | assumption | apply Pfx.snoc)) | with_unfolding_all exact of_eq_true (eq_true rfl) | (simp only [List.length_append, List.length_cons, List.length_nil]; omega)) only [↓wpre0, ↓wpre1, ↓reduceIte, Int.reduceToNat, Nat.reduceAdd, Nat.reduceMul, Nat.reduceEqDiff, wpost0, wpost1, wpost2, wpost3, wpost4, ite_self, ite_true, ite_false, if_true, if_false, tze38, xbld38, xst38, bin_gtr, xbls44_0, xbls44_1, bin_lss, bin_sub, xcv2_29, blt_cpx, bin_add, xfad38_0, xld36, xbls36_0, xbls36_1, xst36, xld38, fr23, wrap_int, wrap_u8, iteP_yes, iteP_no, g1, g2, g6, g7, g8, g9, g10] | refine iteP_two (fun hc hd => ?_) (fun hc hd => ?_) | refine iteP_intro (fun hc => ?_) (fun hc => ?_))
              refine cf_rel (pick_c (hX _ rfl) (hX _ rfl) (n := 9) hS (by omega) (by omega) (by omega) hl (by omega)) (fun q => by cases q) ?_
              rintro r H4 ⟨a, rfl, _, ha, S4, o4⟩
              have ha' := ha (by omega)
              (repeat' first | simp -dsimp (disch := first | omega | assumption | (refine OkS.sto ?_ (by omega); first | assumption | (refine OkS.sto ?_ (by omega); first | assumption | (refine OkS.sto ?_ (by omega); first | assumption | (refine OkS.sto ?_ (by omega); first | assumption | (refine OkS.sto ?_ (by omega); first | assumption | (refine OkS.sto ?_ (by omega); first | assumption)))))) | exact Pfx.refl _ | (apply Pfx.snoc; repeat (first | exact Pfx.refl _ | assumption | apply Pfx.snoc)) | with_unfolding_all exact of_eq_true (eq_true rfl) | (simp only [List.length_append, List.length_cons, List.length_nil]; omega)) only [↓wpre0, ↓wpre1, ↓reduceIte, Int.reduceToNat, Nat.reduceAdd, Nat.reduceMul, Nat.reduceEqDiff, wpost0, wpost1, wpost2, wpost3, wpost4, ite_self, ite_true, ite_false, if_true, if_false, tze38, xbld38, xst38, bin_gtr, xbls44_0, xbls44_1, bin_lss, bin_sub, xcv2_29, blt_cpx, bin_add, xfad38_0, xld36, xbls36_0, xbls36_1, xst36, xld38, fr23, wrap_int, wrap_u8, iteP_yes, iteP_no, g1, g2, g6, g7, g8, g9, g10] | refine iteP_two (fun hc hd => ?_) (fun hc hd => ?_) | refine iteP_intro (fun hc => ?_) (fun hc => ?_))
              refine cf_rel (pick_c (hX _ rfl) (hX _ rfl) (n := 5) S4 (by omega) (by omega) (by omega) hl (by omega)) (fun q => by cases q) ?_
              rintro r H5 ⟨b, rfl, _, hb2, S5, o5⟩
              have hb' := hb2 (by omega)
              have o6 := Only.trans' o4 o5
              have l6 := o6.1
              have mc5 := mc.only o6 (by omega) (by omega) (by omega)
              have apt5 := apt.len (H := H5) (by omega)
              have hY5 : VG (h.length + 3) 46 1 H5 y w.length (rowV w.length fun j => intB (zat w j)) := hY.frame (o6.2 _ (by have := apt.1; omega))
              let u : ZC := ⟨(a : Int) - 4, (b : Int) - 2⟩
              have hu : u.le 4 := by
                refine ⟨?_, ?_⟩ <;> (simp only [u]; omega)
              obtain ⟨H, ap, vg, old, hlen⟩ := acc1 (P := Try.prog) (ro := ro) (T := 44) (h := H5) (v := toV (intB u)) tel44 tsz46 tby46 tze46 (.inl hY5) (by omega) (by omega) rfl (by omega) (by omega)
              have vg' : VG (h.length + 3) 46 1 H (.slice (some ⟨H5.length + 1, 0, none⟩) (w.length + 1) (w.length + 1 + 1)) (w ++ [u]).length (rowV (w ++ [u]).length fun j => intB (zat (w ++ [u]) j)) := by
                rw [List.length_append, List.length_singleton, rowZ_snoc]; exact vg
              have mc6 : MC h (h.length + 2) (h.length + 3) q Z.length (fun i j => intB (zmat Z i j)) H xr R := mc5.frame apt5 (old.1 h mc5.pre (by omega)) (by omega) fun b hb hne => old.2.1 b hb (.inr hne)
              have apt6 : Apt (h.length + 3) H xr R (.slice (some ⟨H5.length + 1, 0, none⟩) (w.length + 1) (w.length + 1 + 1)) := mc5.apt (by omega) (by omega)
              have a1 := apt.1
              have sv : SRC lo hi (h.length + 1) (Z.length * 10000 + (w ++ [u]).length * 4) x cd H := ((S5.frame (old.2.1 _ (by omega) (.inr (by omega))) fun j h1 h2 => old.2.1 j (by omega) (.inr (by omega)))).more (by simp; omega)
              have d6' : ∃ v, H[h.length]? = some ⟨38, [v]⟩ := by obtain ⟨v, hv⟩ := d6; exact ⟨v, by rw [old.2.1 _ (by omega) (.inr (by omega)), o6.2 _ (by omega)]; exact hv⟩
              have hw' : ∀ z ∈ w ++ [u], z.le 4 := by
                intro z hz'
                rcases List.mem_append.1 hz' with q | q
                · exact hw z q
                · rw [List.mem_singleton] at q; subst q; exact hu
              have hll : (w ++ [u]).length ≤ q := by simp; omega
              have hcast : (w.length : Int) + 1 = ((w ++ [u]).length : Int) := by simp
              simp only [intB, u, fI, toV] at ap
              (repeat' first | simp -dsimp (disch := first | omega | assumption | (refine OkS.sto ?_ (by omega); first | assumption | (refine OkS.sto ?_ (by omega); first | assumption | (refine OkS.sto ?_ (by omega); first | assumption | (refine OkS.sto ?_ (by omega); first | assumption | (refine OkS.sto ?_ (by omega); first | assumption | (refine OkS.sto ?_ (by omega); first | assumption)))))) | exact Pfx.refl _ | (apply Pfx.snoc; repeat (first | exact Pfx.refl _ | assumption | apply Pfx.snoc)) | with_unfolding_all exact of_eq_true (eq_true rfl) | (simp only [List.length_append, List.length_cons, List.length_nil]; omega)) only [↓wpre0, ↓wpre1, ↓reduceIte, Int.reduceToNat, Nat.reduceAdd, Nat.reduceMul, Nat.reduceEqDiff, wpost0, wpost1, wpost2, wpost3, wpost4, ite_self, ite_true, ite_false, if_true, if_false, tze38, xbld38, xst38, bin_gtr, xbls44_0, xbls44_1, bin_lss, bin_sub, xcv2_29, blt_cpx, bin_add, xfad38_0, xld36, xbls36_0, xbls36_1, xst36, xld38, fr23, wrap_int, wrap_u8, iteP_yes, iteP_no, g1, g2, g6, g7, g8, g9, g10, ap] | refine iteP_two (fun hc hd => ?_) (fun hc hd => ?_) | refine iteP_intro (fun hc => ?_) (fun hc => ?_))
              refine ⟨q - (w ++ [u]).length, by simp; omega, .slice (some ⟨H5.length + 1, 0, none⟩) (w.length + 1) (w.length + 1 + 1), w ++ [u], ?_⟩
              (repeat' (first | assumption | rfl | omega | (rw [hcast]) | refine And.intro ?_ ?_))
            · have ej : q = w.length := by omega
              have S2 := hS.more (A' := (Z.length + 1) * 10000) (by omega)
              have hY' : VG (h.length + 3) 46 1 h2 y q (rowV q fun j => intB (zat w j)) := by rw [ej]; exact hY
              (repeat' first | simp -dsimp (disch := first | omega | assumption | (refine OkS.sto ?_ (by omega); first | assumption | (refine OkS.sto ?_ (by omega); first | assumption | (refine OkS.sto ?_ (by omega); first | assumption | (refine OkS.sto ?_ (by omega); first | assumption | (refine OkS.sto ?_ (by omega); first | assumption | (refine OkS.sto ?_ (by omega); first | assumption)))))) | exact Pfx.refl _ | (apply Pfx.snoc; repeat (first | exact Pfx.refl _ | assumption | apply Pfx.snoc)) | with_unfolding_all exact of_eq_true (eq_true rfl) | (simp only [List.length_append, List.length_cons, List.length_nil]; omega)) only [↓wpre0, ↓wpre1, ↓reduceIte, Int.reduceToNat, Nat.reduceAdd, Nat.reduceMul, Nat.reduceEqDiff, wpost0, wpost1, wpost2, wpost3, wpost4, ite_self, ite_true, ite_false, if_true, if_false, tze38, xbld38, xst38, bin_gtr, xbls44_0, xbls44_1, bin_lss, bin_sub, xcv2_29, blt_cpx, bin_add, xfad38_0, xld36, xbls36_0, xbls36_1, xst36, xld38, fr23, wrap_int, wrap_u8, iteP_yes, iteP_no, g1, g2, g6, g7, g8, g9, g10] | refine iteP_two (fun hc hd => ?_) (fun hc hd => ?_) | refine iteP_intro (fun hc => ?_) (fun hc => ?_))
              exact ⟨y, w, by (repeat' (first | assumption | rfl | omega | refine And.intro ?_ ?_))⟩
        · rintro e h2 ⟨y, w, g1, g2, g6, g7, g8, g9, hwl, hw, d6, mc, hS, hY, apt⟩
          obtain ⟨lw1, lw2, lw3⟩ := mc.low
          have mcw : MC h (h.length + 2) (h.length + 3) q Z.length (fun i j => intB (zmat (Z ++ [w]) i j)) h2 xr R := mc.congr fun a b ha _ => by rw [zmat_left ha]
          have hYw : VG (h.length + 3) 46 1 h2 y q (rowV q ((fun i j => intB (zmat (Z ++ [w]) i j)) Z.length)) := by
            rw [rowV_congr (g := fun j => intB (zat w j)) fun j _ => by show intB (zmat (Z ++ [w]) Z.length j) = _; rw [zmat_last]]
            exact hY
          have c7 : cell h2 (h.length + 2) 0 = some xr := cellb mc.c7
          have hsh := hY.vs.shape
          obtain ⟨H, ap, vg, old, hlen⟩ := acc1 (P := Try.prog) (ro := ro) (T := 36) (h := h2) (v := y) tel36 tsz44 tby44 tze44 mc.vn (by omega) lw3 hsh.2.2 (by omega) (by omega)
          have hlo := old.2.2
          have lowb : ∀ b, b < h.length + 3 → (xr = .slice none 0 0 ∨ b ≠ bOf xr) := fun b hb => by
            rcases mc.vn with g | ⟨_, _, g⟩
            · right; have := g.bof.1; omega
            · exact .inl g
          have c7H : H[h.length + 2]? = some ⟨38, [xr]⟩ := by rw [old.2.1 _ (by omega) (lowb _ (by omega))]; exact mc.c7
          have P1 : put ro H (h.length + 2) 0 1 (.slice (some ⟨h2.length + 1, 0, none⟩) (Z.length + 1) (Z.length + 1 + 1)) = some (H.set (h.length + 2) ⟨38, [.slice (some ⟨h2.length + 1, 0, none⟩) (Z.length + 1) (Z.length + 1 + 1)]⟩) := putb (n := 1) (o := 0) c7H (by omega) rfl (by simp) rfl
          have mb' : MC h (h.length + 2) (h.length + 3) q (Z ++ [w]).length (fun i j => intB (zmat (Z ++ [w]) i j)) (H.set (h.length + 2) ⟨38, [.slice (some ⟨h2.length + 1, 0, none⟩) (Z.length + 1) (Z.length + 1 + 1)]⟩) (.slice (some ⟨h2.length + 1, 0, none⟩) (Z.length + 1) (Z.length + 1 + 1)) (R ++ [y]) := by
            rw [List.length_append, List.length_singleton]
            exact mcw.more hYw apt vg old rfl
          have hbl : bldS Try.prog h2 36 1 [(0, y)] = some (.slice (some ⟨h2.length, 0, none⟩) 1 1, h2 ++ [⟨44, [y]⟩]) := by
            have := bldS_one (h := h2) (v := y) tel36 tsz44 tze44 rfl (by decide) (by rw [hsh.2.1]; rfl) (by rw [hsh.2.1]; simp [hsh.2.2])
            rw [hsh.2.1] at this
            exact this
          have sv : SRC lo hi (h.length + 1) ((Z ++ [w]).length * 10000) x cd (H.set (h.length + 2) ⟨38, [.slice (some ⟨h2.length + 1, 0, none⟩) (Z.length + 1) (Z.length + 1 + 1)]⟩) := by
            rw [List.length_append, List.length_singleton]
            exact hS.frame (by rw [set_get (by omega), old.2.1 _ (by omega) (lowb _ (by omega))]) fun j h1 h2 => by rw [set_get (by omega), old.2.1 j (by omega) (lowb _ (by omega))]
          have d6' : ∃ v, (H.set (h.length + 2) ⟨38, [.slice (some ⟨h2.length + 1, 0, none⟩) (Z.length + 1) (Z.length + 1 + 1)]⟩)[h.length]? = some ⟨38, [v]⟩ := by obtain ⟨v, hv⟩ := d6; exact ⟨v, by rw [set_get (by omega), old.2.1 _ (by omega) (lowb _ (by omega))]; exact hv⟩
          have hz' : ∀ r ∈ Z ++ [w], ∀ z ∈ r, z.le 4 := by
            intro r hr
            rcases List.mem_append.1 hr with q | q
            · exact hz r q
            · rw [List.mem_singleton] at q; subst q; exact hw
          have hll : (Z ++ [w]).length ≤ p := by simp; omega
          have hcast : ((p - Z.length : Nat) : Int) - 1 = ((p - (Z ++ [w]).length : Nat) : Int) := by simp; omega
          (repeat' first | simp -dsimp (disch := first | omega | assumption | (refine OkS.sto ?_ (by omega); first | assumption | (refine OkS.sto ?_ (by omega); first | assumption | (refine OkS.sto ?_ (by omega); first | assumption | (refine OkS.sto ?_ (by omega); first | assumption | (refine OkS.sto ?_ (by omega); first | assumption | (refine OkS.sto ?_ (by omega); first | assumption)))))) | exact Pfx.refl _ | (apply Pfx.snoc; repeat (first | exact Pfx.refl _ | assumption | apply Pfx.snoc)) | with_unfolding_all exact of_eq_true (eq_true rfl) | (simp only [List.length_append, List.length_cons, List.length_nil]; omega)) only [↓wpre0, ↓wpre1, ↓reduceIte, Int.reduceToNat, Nat.reduceAdd, Nat.reduceMul, Nat.reduceEqDiff, wpost0, wpost1, wpost2, wpost3, wpost4, ite_self, ite_true, ite_false, if_true, if_false, tze38, xbld38, xst38, bin_gtr, xbls44_0, xbls44_1, bin_lss, bin_sub, xcv2_29, blt_cpx, bin_add, xfad38_0, xld36, xbls36_0, xbls36_1, xst36, xld38, fr23, wrap_int, wrap_u8, iteP_yes, iteP_no, g1, g2, g6, g7, g8, g9, c7, hbl, ap, P1] | refine iteP_two (fun hc hd => ?_) (fun hc hd => ?_) | refine iteP_intro (fun hc => ?_) (fun hc => ?_))
          refine ⟨p - (Z ++ [w]).length, by simp; omega, .slice (some ⟨h2.length + 1, 0, none⟩) (Z.length + 1) (Z.length + 1 + 1), R ++ [y], Z ++ [w], ?_⟩
          (repeat' (first | assumption | rfl | omega | (rw [hcast]) | refine And.intro ?_ ?_))
      · have ei : p = Z.length := by omega
        have mcp : MC h (h.length + 2) (h.length + 3) q p (fun i j => intB (zmat Z i j)) h' xr R := by rw [ei]; exact mc
        (repeat' first | simp -dsimp (disch := first | omega | assumption | (refine OkS.sto ?_ (by omega); first | assumption | (refine OkS.sto ?_ (by omega); first | assumption | (refine OkS.sto ?_ (by omega); first | assumption | (refine OkS.sto ?_ (by omega); first | assumption | (refine OkS.sto ?_ (by omega); first | assumption | (refine OkS.sto ?_ (by omega); first | assumption)))))) | exact Pfx.refl _ | (apply Pfx.snoc; repeat (first | exact Pfx.refl _ | assumption | apply Pfx.snoc)) | with_unfolding_all exact of_eq_true (eq_true rfl) | (simp only [List.length_append, List.length_cons, List.length_nil]; omega)) only [↓wpre0, ↓wpre1, ↓reduceIte, Int.reduceToNat, Nat.reduceAdd, Nat.reduceMul, Nat.reduceEqDiff, wpost0, wpost1, wpost2, wpost3, wpost4, ite_self, ite_true, ite_false, if_true, if_false, tze38, xbld38, xst38, bin_gtr, xbls44_0, xbls44_1, bin_lss, bin_sub, xcv2_29, blt_cpx, bin_add, xfad38_0, xld36, xbls36_0, xbls36_1, xst36, xld38, fr23, wrap_int, wrap_u8, iteP_yes, iteP_no, g1, g2, g6, g7, g8] | refine iteP_two (fun hc hd => ?_) (fun hc hd => ?_) | refine iteP_intro (fun hc => ?_) (fun hc => ?_))
        exact ⟨xr, R, Z, by (repeat' (first | assumption | rfl | omega | refine And.intro ?_ ?_))⟩
  · rintro e h' ⟨xr, R, Z, g6, g8, hZl, hz, ⟨v6, hv6⟩, mc⟩
    obtain ⟨lw1, lw2, lw3⟩ := mc.low
    have hsh := mc.vn.vs.shape
    have C7 : cells h' (h.length + 2) 0 1 = some (.agg ⟨[xr]⟩) := cellsb (n := 1) (o := 0) mc.c7 (by simp)
    have P6 : put ro h' h.length 0 1 (.agg ⟨[xr]⟩) = some (h'.set h.length ⟨38, [xr]⟩) := putb (n := 1) (o := 0) hv6 hro rfl (by simp) (by simp [cellsOf, hsh.2.2])
    have C6 : cells (h'.set h.length ⟨38, [xr]⟩) h.length 0 1 = some (.agg ⟨[xr]⟩) := cells_set (o := 0) (n := 1) (by omega) (by simp)
    have hnf : Sim.flat (matV xr) = false := by rcases mc.vn.vs.2 with ⟨_, rfl⟩ | ⟨b, o, cap, Bk, rfl, _⟩ <;> rfl
    have pS : Pfx h (h'.set h.length ⟨38, [xr]⟩) := mc.pre.set (Nat.le_refl _)
    have mS := (mc.mat (v := xr) (b := h.length) (by omega)).low (show h.length ≤ h.length + 3 by omega)
    (repeat' first | simp -dsimp (disch := first | omega | assumption | (refine OkS.sto ?_ (by omega); first | assumption | (refine OkS.sto ?_ (by omega); first | assumption | (refine OkS.sto ?_ (by omega); first | assumption | (refine OkS.sto ?_ (by omega); first | assumption | (refine OkS.sto ?_ (by omega); first | assumption | (refine OkS.sto ?_ (by omega); first | assumption)))))) | exact Pfx.refl _ | (apply Pfx.snoc; repeat (first | exact Pfx.refl _ | assumption | apply Pfx.snoc)) | with_unfolding_all exact of_eq_true (eq_true rfl) | (simp only [List.length_append, List.length_cons, List.length_nil]; omega)) only [↓wpre0, ↓wpre1, ↓reduceIte, Int.reduceToNat, Nat.reduceAdd, Nat.reduceMul, Nat.reduceEqDiff, wpost0, wpost1, wpost2, wpost3, wpost4, ite_self, ite_true, ite_false, if_true, if_false, tze38, xbld38, xst38, bin_gtr, xbls44_0, xbls44_1, bin_lss, bin_sub, xcv2_29, blt_cpx, bin_add, xfad38_0, xld36, xbls36_0, xbls36_1, xst36, xld38, fr23, wrap_int, wrap_u8, iteP_yes, iteP_no, g6, g8, C7, P6, C6, endH_not hnf] | refine iteP_two (fun hc hd => ?_) (fun hc hd => ?_) | refine iteP_intro (fun hc => ?_) (fun hc => ?_))
    exact ⟨zmat Z, xr, zmat_le hz, rfl, pS, mS⟩
end Go.Proofs.Ytelogajobjflfaa.Sim
