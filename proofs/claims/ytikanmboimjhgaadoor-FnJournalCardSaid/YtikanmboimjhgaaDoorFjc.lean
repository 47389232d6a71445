/- Lines of a desk, as they are drawn. Lemmas only; no condition. -/
import Derived.Test.YtikanmboimjhgaaDoorFjb
import Derived.Test.YtikanmboimjhgaaDoorArb
set_option linter.unusedSimpArgs false
set_option linter.unusedVariables false
set_option maxRecDepth 8000
namespace Go.Proofs.YtikanmboimjhgaaDoor.Sim
open Go Go.RowKit
variable {ro : Nat} {X : Ext}
theorem Dst.pfx {b : Nat} {h h1 h2 : Heap} (p : Pfx h h1) (d : Dst b h1 h2) (hb : h.length ≤ b) : Pfx h h2 := by
  have hl := p.len
  show h2.take h.length = h
  refine List.ext_getElem? fun j => ?_
  rw [List.getElem?_take]
  by_cases q : j < h.length
  · rw [if_pos q, d.2 j (by omega) (by omega)]; exact p.get q
  · rw [if_neg q, List.getElem?_eq_none (by omega)]
set_option maxHeartbeats 4000000 in
theorem Lines_c (hF : XF ro X) {pa wa sa : Option Addr} {pn pc wn wc sn sc lo hi : Nat} {x : Value} {cd : List UInt8} {h : Heap} (hV : VS lo hi 1 h x cd.length (cd.map u8v)) (hhi : hi ≤ h.length) (hpn : pn ≤ 4) (hl : cd.length ≤ 1099511627776) (hro : ro ≤ h.length) :
    CallR Tryd.prog ro X 5 [x, .agg ⟨[.slice pa pn pc, .slice wa wn wc, .slice sa sn sc]⟩] h (fun r h' => ∃ L : List (List UInt8), L.length ≤ 6 ∧ (∀ s ∈ L, tx 250 s) ∧ Pfx h h' ∧ VG h.length 9 1 h' r L.length (L.map strv)) := by
  have hW := hF.w
  have hx := hF.e.d
  have hX := hx.n
  refine callR_of (hX _ rfl) Tryd.func5 rfl (by kernel_rfl) (Nat.le_of_ble_eq_true rfl) ?_
  have hbx : boxV h 30 (.agg ⟨[.slice pa pn pc, .slice wa wn wc, .slice sa sn sc]⟩) = some (.pointer (some ⟨h.length, 0, none⟩), h ++ [⟨30, [.slice pa pn pc, .slice wa wn wc, .slice sa sn sc]⟩]) := box_go rfl
  (repeat' first | simp -dsimp (disch := first | omega | assumption | (refine OkS.sto ?_ (by omega); first | assumption | (refine OkS.sto ?_ (by omega); first | assumption | (refine OkS.sto ?_ (by omega); first | assumption | (refine OkS.sto ?_ (by omega); first | assumption | (refine OkS.sto ?_ (by omega); first | assumption | (refine OkS.sto ?_ (by omega); first | assumption)))))) | exact Pfx.refl _ | (apply Pfx.snoc; repeat (first | exact Pfx.refl _ | assumption | apply Pfx.snoc)) | with_unfolding_all exact of_eq_true (eq_true rfl) | (simp only [List.length_append, List.length_cons, List.length_nil]; omega)) only [↓wpre0, ↓wpre1, ↓reduceIte, Int.reduceToNat, Nat.reduceAdd, Nat.reduceMul, Nat.reduceEqDiff, wpost0, wpost1, wpost2, wpost3, wpost4, ite_self, ite_true, ite_false, if_true, if_false, xbls24_0, xbls24_1, bin_gtr, bin_sub, fr5, wrap_int, wrap_u8, iteP_yes, iteP_no, hbx] | refine iteP_two (fun hc hd => ?_) (fun hc hd => ?_) | refine iteP_intro (fun hc => ?_) (fun hc => ?_))
  obtain ⟨H0, hH0⟩ : ∃ H0, H0 = h ++ [(⟨30, [.slice pa pn pc, .slice wa wn wc, .slice sa sn sc]⟩ : Blk)] := ⟨_, rfl⟩
  have p0 : Pfx h H0 := by rw [hH0]; exact (Pfx.refl h).snoc
  have l0 : H0.length = h.length + 1 := by rw [hH0]; simp
  have D0 : H0[h.length]? = some ⟨30, [.slice pa pn pc, .slice wa wn wc, .slice sa sn sc]⟩ := by rw [hH0]; exact get_last rfl
  rw [← hH0]
  refine cf_rel (From_c (hX _ rfl) (hV.pre p0) (by omega)) (fun q => by cases q) ?_
  rintro r H1 ⟨rfl, p1, l1, S1⟩
  (repeat' first | simp -dsimp (disch := first | omega | assumption | (refine OkS.sto ?_ (by omega); first | assumption | (refine OkS.sto ?_ (by omega); first | assumption | (refine OkS.sto ?_ (by omega); first | assumption | (refine OkS.sto ?_ (by omega); first | assumption | (refine OkS.sto ?_ (by omega); first | assumption | (refine OkS.sto ?_ (by omega); first | assumption)))))) | exact Pfx.refl _ | (apply Pfx.snoc; repeat (first | exact Pfx.refl _ | assumption | apply Pfx.snoc)) | with_unfolding_all exact of_eq_true (eq_true rfl) | (simp only [List.length_append, List.length_cons, List.length_nil]; omega)) only [↓wpre0, ↓wpre1, ↓reduceIte, Int.reduceToNat, Nat.reduceAdd, Nat.reduceMul, Nat.reduceEqDiff, wpost0, wpost1, wpost2, wpost3, wpost4, ite_self, ite_true, ite_false, if_true, if_false, xbls24_0, xbls24_1, bin_gtr, bin_sub, fr5, wrap_int, wrap_u8, iteP_yes, iteP_no] | refine iteP_two (fun hc hd => ?_) (fun hc hd => ?_) | refine iteP_intro (fun hc => ?_) (fun hc => ?_))
  have p2 : Pfx H1 (H1 ++ [(⟨9, []⟩ : Blk)]) := (Pfx.refl H1).snoc
  refine cf_rel (pick_c hW.next hW.pick (n := 7) (S1.pre p2) (by omega) (by omega) (by omega) hl (by omega)) (fun q => by cases q) ?_
  rintro r H2 ⟨v, rfl, _, hv, S2, o2⟩
  have hv7 := hv (by omega)
  have l2 := o2.1
  rw [List.length_append, List.length_singleton] at l2
  have d2 : Dst H0.length H1 H2 := p2.dst.trans o2.dst
  have V2 : VG H1.length 9 1 H2 (.slice (some ⟨H1.length, 0, none⟩) 0 0) 0 [] := VN.dst (vg_new H1 (Nat.le_refl _)) o2.dst (by omega)
  have D2 : H2[h.length]? = some ⟨30, [.slice pa pn pc, .slice wa wn wc, .slice sa sn sc]⟩ := by rw [d2.2 _ (by omega) (by omega), p1.get (by omega)]; exact D0
  (repeat' first | simp -dsimp (disch := first | omega | assumption | (refine OkS.sto ?_ (by omega); first | assumption | (refine OkS.sto ?_ (by omega); first | assumption | (refine OkS.sto ?_ (by omega); first | assumption | (refine OkS.sto ?_ (by omega); first | assumption | (refine OkS.sto ?_ (by omega); first | assumption | (refine OkS.sto ?_ (by omega); first | assumption)))))) | exact Pfx.refl _ | (apply Pfx.snoc; repeat (first | exact Pfx.refl _ | assumption | apply Pfx.snoc)) | with_unfolding_all exact of_eq_true (eq_true rfl) | (simp only [List.length_append, List.length_cons, List.length_nil]; omega)) only [↓wpre0, ↓wpre1, ↓reduceIte, Int.reduceToNat, Nat.reduceAdd, Nat.reduceMul, Nat.reduceEqDiff, wpost0, wpost1, wpost2, wpost3, wpost4, ite_self, ite_true, ite_false, if_true, if_false, xbls24_0, xbls24_1, bin_gtr, bin_sub, fr5, wrap_int, wrap_u8, iteP_yes, iteP_no] | refine iteP_two (fun hc hd => ?_) (fun hc hd => ?_) | refine iteP_intro (fun hc => ?_) (fun hc => ?_))
  refine loop_rounds (fun m e h' => ∃ (i : Nat) (y : Value) (L : List (List UInt8)), m = v - i ∧ i ≤ v ∧ L.length = i ∧ (∀ s ∈ L, tx 250 s) ∧ e 3 = .pointer (some ⟨h.length, 0, none⟩) ∧ e 5 = .pointer (some ⟨H0.length, 0, none⟩) ∧ e 6 = y ∧ e 7 = .int .i64 ((v - i : Nat) : Int) ∧ VG H1.length 9 1 h' y i (L.map strv) ∧ SRC lo hi H0.length (2 + i * 200) x cd h' ∧ Dst H0.length H1 h') _ ⟨0, .slice (some ⟨H1.length, 0, none⟩) 0 0, [], rfl, ?_⟩ ?_
  · simp only [updO_at, updO_not, entry_at, List.getD_cons_zero, List.getD_cons_succ, ↓reduceIte, Nat.reduceEqDiff, true_and, and_true]
    exact ⟨by omega, rfl, (fun s hs => by cases hs), rfl, V2, S2.more (by omega), d2⟩
  · rintro m e h' ⟨i, y, L, hm, hle, hL, htx, g3, g5, g6, g7, hY, hSi, hd⟩
    have hl2 := hd.1
    have D3 : h'[h.length]? = some ⟨30, [.slice pa pn pc, .slice wa wn wc, .slice sa sn sc]⟩ := by rw [hd.2 _ (by omega) (by omega), p1.get (by omega)]; exact D0
    by_cases hin : i < v
    · (repeat' first | simp -dsimp (disch := first | omega | assumption | (refine OkS.sto ?_ (by omega); first | assumption | (refine OkS.sto ?_ (by omega); first | assumption | (refine OkS.sto ?_ (by omega); first | assumption | (refine OkS.sto ?_ (by omega); first | assumption | (refine OkS.sto ?_ (by omega); first | assumption | (refine OkS.sto ?_ (by omega); first | assumption)))))) | exact Pfx.refl _ | (apply Pfx.snoc; repeat (first | exact Pfx.refl _ | assumption | apply Pfx.snoc)) | with_unfolding_all exact of_eq_true (eq_true rfl) | (simp only [List.length_append, List.length_cons, List.length_nil]; omega)) only [↓wpre0, ↓wpre1, ↓reduceIte, Int.reduceToNat, Nat.reduceAdd, Nat.reduceMul, Nat.reduceEqDiff, wpost0, wpost1, wpost2, wpost3, wpost4, ite_self, ite_true, ite_false, if_true, if_false, xbls24_0, xbls24_1, bin_gtr, bin_sub, fr5, wrap_int, wrap_u8, iteP_yes, iteP_no, g3, g5, g6, g7] | refine iteP_two (fun hc hd => ?_) (fun hc hd => ?_) | refine iteP_intro (fun hc => ?_) (fun hc => ?_))
      refine cf_rel (Line_c hF D3 (by omega) hpn hSi (by omega) (by omega) (by omega) hl) (fun q => by cases q) ?_
      rintro r H4 ⟨s, rfl, ts, S4, o4⟩
      have l4 := o4.1
      have hY4 := VN.dst hY o4 (by omega)
      have hyb := hY4.bof
      obtain ⟨H, ap, vg, old, hlen⟩ := acc1 (P := Tryd.prog) (ro := ro) (T := 24) (h := H4) (v := .string ⟨⟨s⟩⟩) tel24 tsz9 tby9 tze9 (.inl hY4) (by omega) (by omega) rfl (by omega) (by omega)
      have vg' : VG H1.length 9 1 H (.slice (some ⟨H4.length + 1, 0, none⟩) (i + 1) (i + 1 + 1)) (i + 1) ((L ++ [s]).map strv) := by rw [List.map_append]; exact vg
      have sv : SRC lo hi H0.length (2 + (i + 1) * 200) x cd H := (S4.frame (old.2.1 _ (by omega) (.inr (by omega))) fun j h1 h2 => old.2.1 j (by omega) (.inr (by omega))).more (by omega)
      have dv : Dst H0.length H1 H := ⟨by omega, fun j hj hjb => by rw [old.2.1 j (by omega) (.inr (by omega))]; exact (hd.trans o4).2 j hj hjb⟩
      (repeat' first | simp -dsimp (disch := first | omega | assumption | (refine OkS.sto ?_ (by omega); first | assumption | (refine OkS.sto ?_ (by omega); first | assumption | (refine OkS.sto ?_ (by omega); first | assumption | (refine OkS.sto ?_ (by omega); first | assumption | (refine OkS.sto ?_ (by omega); first | assumption | (refine OkS.sto ?_ (by omega); first | assumption)))))) | exact Pfx.refl _ | (apply Pfx.snoc; repeat (first | exact Pfx.refl _ | assumption | apply Pfx.snoc)) | with_unfolding_all exact of_eq_true (eq_true rfl) | (simp only [List.length_append, List.length_cons, List.length_nil]; omega)) only [↓wpre0, ↓wpre1, ↓reduceIte, Int.reduceToNat, Nat.reduceAdd, Nat.reduceMul, Nat.reduceEqDiff, wpost0, wpost1, wpost2, wpost3, wpost4, ite_self, ite_true, ite_false, if_true, if_false, xbls24_0, xbls24_1, bin_gtr, bin_sub, fr5, wrap_int, wrap_u8, iteP_yes, iteP_no, g3, g5, g6, g7, ap] | refine iteP_two (fun hc hd => ?_) (fun hc hd => ?_) | refine iteP_intro (fun hc => ?_) (fun hc => ?_))
      refine ⟨_, by omega, i + 1, _, L ++ [s], rfl, by omega, by simp [hL], fun t ht => ?_, rfl, by rw [show ((v - i : Nat) : Int) - 1 = ((v - (i + 1) : Nat) : Int) by omega], vg', sv, dv⟩
      rcases List.mem_append.1 ht with q | q
      · exact htx t q
      · rw [List.mem_singleton] at q
        subst q
        exact ts
    · have ei : i = v := by omega
      subst ei
      have hnf : Sim.flat y = false := by obtain ⟨_, b, cap, rfl, _⟩ := hY; rfl
      (repeat' first | simp -dsimp (disch := first | omega | assumption | (refine OkS.sto ?_ (by omega); first | assumption | (refine OkS.sto ?_ (by omega); first | assumption | (refine OkS.sto ?_ (by omega); first | assumption | (refine OkS.sto ?_ (by omega); first | assumption | (refine OkS.sto ?_ (by omega); first | assumption | (refine OkS.sto ?_ (by omega); first | assumption)))))) | exact Pfx.refl _ | (apply Pfx.snoc; repeat (first | exact Pfx.refl _ | assumption | apply Pfx.snoc)) | with_unfolding_all exact of_eq_true (eq_true rfl) | (simp only [List.length_append, List.length_cons, List.length_nil]; omega)) only [↓wpre0, ↓wpre1, ↓reduceIte, Int.reduceToNat, Nat.reduceAdd, Nat.reduceMul, Nat.reduceEqDiff, wpost0, wpost1, wpost2, wpost3, wpost4, ite_self, ite_true, ite_false, if_true, if_false, xbls24_0, xbls24_1, bin_gtr, bin_sub, fr5, wrap_int, wrap_u8, iteP_yes, iteP_no, g3, g5, g6, g7, endH_not hnf] | refine iteP_two (fun hc hd => ?_) (fun hc hd => ?_) | refine iteP_intro (fun hc => ?_) (fun hc => ?_))
      refine ⟨L, by omega, htx, Dst.pfx (p0.trans p1) hd (by omega), ?_⟩
      rw [hL]
      exact hY.low (by omega)
theorem wei_le {k : Nat} : ∀ {L : List (List UInt8)}, (∀ s ∈ L, tx k s) → wei L ≤ k * L.length
  | [], _ => by simp [wei]
  | s :: r, h => by
    have h1 := (h s (List.mem_cons_self ..)).2
    have h2 := wei_le (L := r) fun t ht => h t (List.mem_cons_of_mem _ ht)
    simp only [wei, List.length_cons, Nat.mul_add, Nat.mul_one]
    omega
theorem lines_good {L : List (List UInt8)} (h0 : L.length ≤ 6) (h1 : ∀ s ∈ L, tx 250 s) : jgood L = true ∧ (jr 0 L).length ≤ 6000 := by
  have hw := wei_le h1
  have hj := jr_le 0 L ⟨by omega, by omega⟩
  have hk : (jr 0 L).length ≤ 6000 := by
    have : 250 * L.length ≤ 250 * 6 := Nat.mul_le_mul_left _ h0
    omega
  exact ⟨jgood_of (fun s hs => (h1 s hs).1) hk, hk⟩
theorem Long_r (hX : X 4 = none) {lo hi lo' hi' n n' : Nat} {x y : Value} {L M : List Value} {h : Heap} (hV : VS lo hi 1 h x n L) (hU : VS lo' hi' 1 h y n' M) (hn : n ≤ 140737488355328) (hn' : n' ≤ 140737488355328) : Ret Tryd.prog ro X 4 [x, y] h (.bool (decide (1048576 < n) || decide (1048576 < n'))) := by
  refine ret_of (callR_of hX Tryd.func4 rfl (by kernel_rfl) (Nat.le_of_ble_eq_true rfl) ?_)
  (repeat' first | simp -dsimp (disch := first | omega | assumption | (refine OkS.sto ?_ (by omega); first | assumption | (refine OkS.sto ?_ (by omega); first | assumption | (refine OkS.sto ?_ (by omega); first | assumption | (refine OkS.sto ?_ (by omega); first | assumption | (refine OkS.sto ?_ (by omega); first | assumption | (refine OkS.sto ?_ (by omega); first | assumption)))))) | exact Pfx.refl _ | (apply Pfx.snoc; repeat (first | exact Pfx.refl _ | assumption | apply Pfx.snoc)) | with_unfolding_all exact of_eq_true (eq_true rfl) | (simp only [List.length_append, List.length_cons, List.length_nil]; omega)) only [↓wpre0, ↓wpre1, ↓reduceIte, Int.reduceToNat, Nat.reduceAdd, Nat.reduceMul, Nat.reduceEqDiff, wpost0, wpost1, wpost2, wpost3, wpost4, ite_self, ite_true, ite_false, if_true, if_false, xlen22, bin_gtr, fr4, wrap_int, wrap_u8, iteP_yes, iteP_no, hV.len Tryd.underlying22, hU.len Tryd.underlying22] | refine iteP_two (fun hc hd => ?_) (fun hc hd => ?_) | refine iteP_intro (fun hc => ?_) (fun hc => ?_))
  all_goals first
    | (rw [decide_eq_true (p := 1048576 < n) (by omega)]; rfl)
    | (rw [decide_eq_false (p := 1048576 < n) (by omega), Bool.false_or]; congr 1; exact decide_eq_decide.2 (by omega))
end Go.Proofs.YtikanmboimjhgaaDoor.Sim
