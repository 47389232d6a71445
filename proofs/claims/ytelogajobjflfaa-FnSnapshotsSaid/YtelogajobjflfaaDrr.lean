/- Valid places, drawn. Lemmas only; no condition. -/
import Derived.Test.YtelogajobjflfaaDrp
set_option linter.unusedSimpArgs false
set_option linter.unusedVariables false
set_option maxRecDepth 8000
namespace Go.Proofs.Ytelogajobjflfaa.Sim
open Go Go.RowKit
variable {ro lo hi b A : Nat} {X : Ext} {h : Heap} {x y : Value} {cd : List UInt8}
/-- What drawn places are. -/
def RPl (lo hi b A : Nat) (x : Value) (cd : List UInt8) (h : Heap) (q : Value × Heap) : Prop :=
  ∃ (n yb yc : Nat) (l : List Int), q.1 = .slice (some ⟨yb, 0, none⟩) n yc ∧ h.length ≤ yb ∧ q.2[yb]? = some ⟨126, vints l⟩ ∧ l.length = n * 2 ∧ goodP n l ∧ (∀ j, -512 ≤ nth l j ∧ nth l j ≤ 512) ∧ Dst b h q.2 ∧ SRC lo hi b (A + 100) x cd q.2
theorem is_blk {H : Heap} {db dc n : Nat} {t : TypeId} {l : List Int} (hb : H[db]? = some ⟨t, vints l⟩) (hl : l.length = n * 2) : IS db (db + 1) 2 H (.slice (some ⟨db, 0, none⟩) n dc) n l :=
  ⟨hl, .inr ⟨db, 0, dc, _, rfl, Nat.le_refl _, Nat.lt_succ_self _, hb, by show 0 + n * 2 ≤ (vints l).length; simp [vints, hl], fun j hj => by rw [Nat.zero_add]; simp only [vints, List.getElem?_map, nth, List.getD_eq_getElem?_getD]; rw [List.getElem?_eq_getElem (by omega)]; rfl⟩⟩
theorem nth_two {l : List Int} {u v : Int} (hl : ∀ j, -512 ≤ nth l j ∧ nth l j ≤ 512) (hu : -512 ≤ u ∧ u ≤ 512) (hv : -512 ≤ v ∧ v ≤ 512) (j : Nat) : -512 ≤ nth (l ++ [u, v]) j ∧ nth (l ++ [u, v]) j ≤ 512 := by
  rcases Nat.lt_or_ge j l.length with q | q
  · have : nth (l ++ [u, v]) j = nth l j := by simp only [nth, List.getD_eq_getElem?_getD, List.getElem?_append_left q]
    rw [this]; exact hl j
  · have : nth (l ++ [u, v]) j = nth [u, v] (j - l.length) := by simp only [nth, List.getD_eq_getElem?_getD, List.getElem?_append_right q]
    rw [this]
    generalize j - l.length = m
    rcases m with _ | _ | m
    · exact hu
    · exact hv
    · simp [nth]
theorem good_one {u v : Int} (hu : -512 ≤ u ∧ u ≤ 512) (hv : -512 ≤ v ∧ v ≤ 512) : goodP 1 [u, v] := by
  refine ⟨by omega, by omega, fun i hi => ?_, fun i k hi hk => by omega⟩
  have : i = 0 := by omega
  subst this
  simp [plB, cdB, nth]
  omega
set_option maxHeartbeats 4000000 in
theorem l02Ok_w (hW : XDW X) (hX : XN X) {c : Code} (hc : Try.f127.body = some c) (hS : SRC lo hi b A x cd h) (hro : ro ≤ b) (hq : hi ≤ b) (hA : A ≤ 1152921504600000000) (hl : cd.length ≤ 1099511627776) :
    WG Try.prog ro X c (EndP Try.prog Try.f127 h fun r h' => RPl lo hi b A x cd h (r, h')) (entry [.pointer (some ⟨b, 0, none⟩)]) h := by
  cases hc
  have hbl := hS.lt
  (repeat' first | simp -dsimp (disch := first | omega | assumption | (refine OkS.sto ?_ (by omega); first | assumption | (refine OkS.sto ?_ (by omega); first | assumption | (refine OkS.sto ?_ (by omega); first | assumption | (refine OkS.sto ?_ (by omega); first | assumption | (refine OkS.sto ?_ (by omega); first | assumption | (refine OkS.sto ?_ (by omega); first | assumption)))))) | exact Pfx.refl _ | (apply Pfx.snoc; repeat (first | exact Pfx.refl _ | assumption | apply Pfx.snoc)) | with_unfolding_all exact of_eq_true (eq_true rfl) | (simp only [List.length_append, List.length_cons, List.length_nil]; omega)) only [↓gpre0, ↓wpre1, ↓reduceIte, Int.reduceToNat, Nat.reduceAdd, Nat.reduceMul, Nat.reduceEqDiff, wpost0, wpost1, wpost2, wpost3, wpost4, ite_self, ite_true, ite_false, if_true, if_false, bin_add, xbls54_0, xbls54_1, bin_lss, bin_mul, xbld126_0, tze126, xst126, un_not, bin_sub, xfad126_0, xst2, xfad126_1, xld126, fr127, wrap_int, wrap_u8, iteP_yes, iteP_no] | refine iteP_two (fun hc hd => ?_) (fun hc hd => ?_) | refine iteP_intro (fun hc => ?_) (fun hc => ?_))
  refine cf_rel (pick_c hW.next hW.pick (n := 5) hS hro hq (by omega) hl (by omega)) (fun q => by cases q) ?_
  rintro r H1 ⟨v, rfl, _, hv, S1, o1⟩
  have hv5 := hv (by omega)
  have l1 := o1.1
  (repeat' first | simp -dsimp (disch := first | omega | assumption | (refine OkS.sto ?_ (by omega); first | assumption | (refine OkS.sto ?_ (by omega); first | assumption | (refine OkS.sto ?_ (by omega); first | assumption | (refine OkS.sto ?_ (by omega); first | assumption | (refine OkS.sto ?_ (by omega); first | assumption | (refine OkS.sto ?_ (by omega); first | assumption)))))) | exact Pfx.refl _ | (apply Pfx.snoc; repeat (first | exact Pfx.refl _ | assumption | apply Pfx.snoc)) | with_unfolding_all exact of_eq_true (eq_true rfl) | (simp only [List.length_append, List.length_cons, List.length_nil]; omega)) only [↓gpre0, ↓wpre1, ↓reduceIte, Int.reduceToNat, Nat.reduceAdd, Nat.reduceMul, Nat.reduceEqDiff, wpost0, wpost1, wpost2, wpost3, wpost4, ite_self, ite_true, ite_false, if_true, if_false, bin_add, xbls54_0, xbls54_1, bin_lss, bin_mul, xbld126_0, tze126, xst126, un_not, bin_sub, xfad126_0, xst2, xfad126_1, xld126, fr127, wrap_int, wrap_u8, iteP_yes, iteP_no] | refine iteP_two (fun hc hd => ?_) (fun hc hd => ?_) | refine iteP_intro (fun hc => ?_) (fun hc => ?_))
  refine cf_rel (one_c hW.next hW.pick hW.one (n := 24) S1 hro hq (by omega) hl (by omega)) (fun q => by cases q) ?_
  rintro r H2 ⟨v2, rfl, S2, o2⟩
  have l2 := o2.1
  have o12 := Only.trans' o1 o2
  have l12 : H2.length = h.length := by omega
  obtain ⟨H3, hH3⟩ : ∃ H3, H3 = H2 ++ [(⟨126, []⟩ : Blk)] := ⟨_, rfl⟩
  have S3 : SRC lo hi b (A + 4) x cd H3 := by rw [hH3]; exact S2.pre (Pfx.refl _).snoc
  have d3 : Dst b h H3 := by rw [hH3]; exact o12.dst.trans (Pfx.refl H2).snoc.dst
  have D3 : H3[h.length]? = some ⟨126, []⟩ := by rw [hH3, ← l12]; exact get_last rfl
  have l3 : H3.length = h.length + 1 := by rw [hH3]; simp [l12]
  cases v2
  all_goals
    (repeat' first | simp -dsimp (disch := first | omega | assumption | (refine OkS.sto ?_ (by omega); first | assumption | (refine OkS.sto ?_ (by omega); first | assumption | (refine OkS.sto ?_ (by omega); first | assumption | (refine OkS.sto ?_ (by omega); first | assumption | (refine OkS.sto ?_ (by omega); first | assumption | (refine OkS.sto ?_ (by omega); first | assumption)))))) | exact Pfx.refl _ | (apply Pfx.snoc; repeat (first | exact Pfx.refl _ | assumption | apply Pfx.snoc)) | with_unfolding_all exact of_eq_true (eq_true rfl) | (simp only [List.length_append, List.length_cons, List.length_nil]; omega)) only [↓gpre0, ↓wpre1, ↓reduceIte, Int.reduceToNat, Nat.reduceAdd, Nat.reduceMul, Nat.reduceEqDiff, wpost0, wpost1, wpost2, wpost3, wpost4, ite_self, ite_true, ite_false, if_true, if_false, bin_add, xbls54_0, xbls54_1, bin_lss, bin_mul, xbld126_0, tze126, xst126, un_not, bin_sub, xfad126_0, xst2, xfad126_1, xld126, fr127, wrap_int, wrap_u8, iteP_yes, iteP_no] | refine iteP_two (fun hc hd => ?_) (fun hc hd => ?_) | refine iteP_intro (fun hc => ?_) (fun hc => ?_))
    rw [← hH3, l12]
    refine cf_rel (one_c hW.next hW.pick hW.one (n := 2) S3 hro hq (by omega) hl (by omega)) (fun q => by cases q) ?_
    rintro r H4 ⟨ln, rfl, S4, o4⟩
    have l4 := o4.1
    have d4 := d3.trans o4.dst
    have D4 := (o4.2 h.length (by omega)).trans D3
    (repeat' first | simp -dsimp (disch := first | omega | assumption | (refine OkS.sto ?_ (by omega); first | assumption | (refine OkS.sto ?_ (by omega); first | assumption | (refine OkS.sto ?_ (by omega); first | assumption | (refine OkS.sto ?_ (by omega); first | assumption | (refine OkS.sto ?_ (by omega); first | assumption | (refine OkS.sto ?_ (by omega); first | assumption)))))) | exact Pfx.refl _ | (apply Pfx.snoc; repeat (first | exact Pfx.refl _ | assumption | apply Pfx.snoc)) | with_unfolding_all exact of_eq_true (eq_true rfl) | (simp only [List.length_append, List.length_cons, List.length_nil]; omega)) only [↓gpre0, ↓wpre1, ↓reduceIte, Int.reduceToNat, Nat.reduceAdd, Nat.reduceMul, Nat.reduceEqDiff, wpost0, wpost1, wpost2, wpost3, wpost4, ite_self, ite_true, ite_false, if_true, if_false, bin_add, xbls54_0, xbls54_1, bin_lss, bin_mul, xbld126_0, tze126, xst126, un_not, bin_sub, xfad126_0, xst2, xfad126_1, xld126, fr127, wrap_int, wrap_u8, iteP_yes, iteP_no] | refine iteP_two (fun hc hd => ?_) (fun hc hd => ?_) | refine iteP_intro (fun hc => ?_) (fun hc => ?_))
    refine WG_rounds (fun mm e h' => ∃ (N i n yb yc : Nat) (l : List Int), mm = 16 - i ∧ i ≤ N ∧ 1 ≤ N ∧ N ≤ 16 ∧ e 0 = .pointer (some ⟨b, 0, none⟩) ∧ e 3 = .int .i64 N ∧ e 4 = .slice (some ⟨yb, 0, none⟩) n yc ∧ e 5 = .bool ln ∧ e 6 = .int .i64 i ∧ h.length ≤ yb ∧ h'[yb]? = some ⟨126, vints l⟩ ∧ l.length = n * 2 ∧ n ≤ 16 ∧ (0 < n → goodP n l) ∧ (0 < i → 0 < n) ∧ (i = 0 → n = 0) ∧ (∀ j, -512 ≤ nth l j ∧ nth l j ≤ 512) ∧ SRC lo hi b (A + 6 + 4 * i) x cd h' ∧ Dst b h h' ∧ yb < h'.length) ?_ 16 _ _ ?_
    · rintro mm e h' ⟨N, i, n, yb, yc, l, hmm, hle, hN1, hN16, g0, g3, g4, g5, g6, hyb, hD, hll, hn16, hgood, hpos, hzero, hrng, S5, d5, hlt⟩
      have hks : (i : Int) + 1 = ((i + 1 : Nat) : Int) := by omega
      have l5 := d5.1
      by_cases hin : i < N
      · have hin' : (i : Int) < (N : Int) := by omega
        have hw : IntKind.i64.wrap (32 * (i : Int)) = 32 * (i : Int) := wrap_int (by omega) (by omega)
        cases ln with
        | true =>
          (repeat' first | simp -dsimp (disch := first | omega | assumption | (refine OkS.sto ?_ (by omega); first | assumption | (refine OkS.sto ?_ (by omega); first | assumption | (refine OkS.sto ?_ (by omega); first | assumption | (refine OkS.sto ?_ (by omega); first | assumption | (refine OkS.sto ?_ (by omega); first | assumption | (refine OkS.sto ?_ (by omega); first | assumption)))))) | exact Pfx.refl _ | (apply Pfx.snoc; repeat (first | exact Pfx.refl _ | assumption | apply Pfx.snoc)) | with_unfolding_all exact of_eq_true (eq_true rfl) | (simp only [List.length_append, List.length_cons, List.length_nil]; omega)) only [↓gpre0, ↓wpre1, ↓reduceIte, Int.reduceToNat, Nat.reduceAdd, Nat.reduceMul, Nat.reduceEqDiff, wpost0, wpost1, wpost2, wpost3, wpost4, ite_self, ite_true, ite_false, if_true, if_false, bin_add, xbls54_0, xbls54_1, bin_lss, bin_mul, xbld126_0, tze126, xst126, un_not, bin_sub, xfad126_0, xst2, xfad126_1, xld126, fr127, wrap_int, wrap_u8, iteP_yes, iteP_no, g0, g3, g4, g5, g6, hin', hw] | refine iteP_two (fun hc hd => ?_) (fun hc hd => ?_) | refine iteP_intro (fun hc => ?_) (fun hc => ?_))
          have pH := (Pfx.refl h').snoc (C := (⟨126, [.int .i64 (32 * (i : Int)), .int .i64 0]⟩ : Blk))
          have S6 := S5.pre pH
          refine r13 (c := _) rfl (by kernel_rfl) (yb := yb) (yc := yc) (n := n) (bp := h'.length) (l := l) (u := 32 * (i : Int)) (v := 0) (by simp; have := S5.lt; omega) (by simp only [updO_some, updO_none, upd_at, Nat.reduceEqDiff, ↓reduceIte]; exact g4) (by simp only [updO_some, updO_none, upd_at, Nat.reduceEqDiff, ↓reduceIte]) ((pH.get hlt).trans hD) hll (get_last rfl) hn16 ?_
          intro e2 G db dc h35 h8 hdb hDb hp
          have k0 : e2 0 = .pointer (some ⟨b, 0, none⟩) := (h35 0 (by omega) (by omega)).trans (by simp only [updO_some, updO_none, upd_at, Nat.reduceEqDiff, ↓reduceIte]; exact g0)
          have k3 : e2 3 = .int .i64 N := (h35 3 (by omega) (by omega)).trans (by simp only [updO_some, updO_none, upd_at, Nat.reduceEqDiff, ↓reduceIte]; exact g3)
          have k4 : e2 4 = .slice (some ⟨yb, 0, none⟩) n yc := (h35 4 (by omega) (by omega)).trans (by simp only [updO_some, updO_none, upd_at, Nat.reduceEqDiff, ↓reduceIte]; exact g4)
          have k5 : e2 5 = .bool true := (h35 5 (by omega) (by omega)).trans (by simp only [updO_some, updO_none, upd_at, Nat.reduceEqDiff, ↓reduceIte]; exact g5)
          have k6 : e2 6 = .int .i64 i := (h35 6 (by omega) (by omega)).trans (by simp only [updO_some, updO_none, upd_at, Nat.reduceEqDiff, ↓reduceIte]; exact g6)
          clear h35
          have hls : (l ++ [32 * (i : Int), 0]).length = (n + 1) * 2 := by simp [hll]; omega
          have isb := is_blk (dc := dc) hDb hls
          have lgG := hp.len
          have hdb2 := Nat.le_trans (d5.trans pH.dst).1 hdb
          have hyl := Nat.lt_of_lt_of_le (Nat.lt_of_lt_of_le hlt pH.len) lgG
          (repeat' first | simp -dsimp (disch := first | omega | assumption | (refine OkS.sto ?_ (by omega); first | assumption | (refine OkS.sto ?_ (by omega); first | assumption | (refine OkS.sto ?_ (by omega); first | assumption | (refine OkS.sto ?_ (by omega); first | assumption | (refine OkS.sto ?_ (by omega); first | assumption | (refine OkS.sto ?_ (by omega); first | assumption)))))) | exact Pfx.refl _ | (apply Pfx.snoc; repeat (first | exact Pfx.refl _ | assumption | apply Pfx.snoc)) | with_unfolding_all exact of_eq_true (eq_true rfl) | (simp only [List.length_append, List.length_cons, List.length_nil]; omega)) only [↓gpre0, ↓wpre1, ↓reduceIte, Int.reduceToNat, Nat.reduceAdd, Nat.reduceMul, Nat.reduceEqDiff, wpost0, wpost1, wpost2, wpost3, wpost4, ite_self, ite_true, ite_false, if_true, if_false, bin_add, xbls54_0, xbls54_1, bin_lss, bin_mul, xbld126_0, tze126, xst126, un_not, bin_sub, xfad126_0, xst2, xfad126_1, xld126, fr127, wrap_int, wrap_u8, iteP_yes, iteP_no, k0, k3, k4, k5, k6, h8] | refine iteP_two (fun hc hd => ?_) (fun hc hd => ?_) | refine iteP_intro (fun hc => ?_) (fun hc => ?_))
          refine cf_rel (l02Is_c hX isb (by omega)) (fun q => by cases q) ?_
          rintro r G2 ⟨bb, rfl, rfl, hg⟩
          have hu := (show (-512 : Int) ≤ 32 * (i : Int) ∧ 32 * (i : Int) ≤ 512 by omega)
          have hv := (show (-512 : Int) ≤ 0 ∧ (0 : Int) ≤ 512 by omega)
          have dG := (d5.trans pH.dst).trans hp.dst
          cases bb with
          | true =>
            have gd := hg.1 rfl
            (repeat' first | simp -dsimp (disch := first | omega | assumption | (refine OkS.sto ?_ (by omega); first | assumption | (refine OkS.sto ?_ (by omega); first | assumption | (refine OkS.sto ?_ (by omega); first | assumption | (refine OkS.sto ?_ (by omega); first | assumption | (refine OkS.sto ?_ (by omega); first | assumption | (refine OkS.sto ?_ (by omega); first | assumption)))))) | exact Pfx.refl _ | (apply Pfx.snoc; repeat (first | exact Pfx.refl _ | assumption | apply Pfx.snoc)) | with_unfolding_all exact of_eq_true (eq_true rfl) | (simp only [List.length_append, List.length_cons, List.length_nil]; omega)) only [↓gpre0, ↓wpre1, ↓reduceIte, Int.reduceToNat, Nat.reduceAdd, Nat.reduceMul, Nat.reduceEqDiff, wpost0, wpost1, wpost2, wpost3, wpost4, ite_self, ite_true, ite_false, if_true, if_false, bin_add, xbls54_0, xbls54_1, bin_lss, bin_mul, xbld126_0, tze126, xst126, un_not, bin_sub, xfad126_0, xst2, xfad126_1, xld126, fr127, wrap_int, wrap_u8, iteP_yes, iteP_no, k0, k3, k4, k5, k6, h8] | refine iteP_two (fun hc hd => ?_) (fun hc hd => ?_) | refine iteP_intro (fun hc => ?_) (fun hc => ?_))
            have hks2 : IntKind.i64.wrap ((i : Int) + 1) = ((i + 1 : Nat) : Int) := (wrap_int (by omega) (by omega)).trans hks
            refine ⟨16 - (i + 1), by omega, N, i + 1, n + 1, db, dc, l ++ [32 * (i : Int), 0], rfl, by omega, hN1, hN16, ?_⟩
            (repeat' (first | assumption | rfl | omega | (exact hks2) | (rw [hks]) | (exact hDb) | (exact hls) | (exact gd.n16) | (exact fun _ => gd) | (exact fun _ => by omega) | (exact fun j => nth_two hrng hu hv j) | (exact (S6.pre hp).more (by omega)) | (exact dG) | (exact (List.getElem?_eq_some_iff.1 hDb).1) | refine And.intro ?_ ?_))
          | false =>
            have hn0 : 0 < n := by
              rcases Nat.eq_zero_or_pos n with z | z
              · subst z
                have : l = [] := List.length_eq_zero_iff.1 (by omega)
                subst this
                exact absurd (hg.2 (good_one hu hv)) (by simp)
              · exact z
            (repeat' first | simp -dsimp (disch := first | omega | assumption | (refine OkS.sto ?_ (by omega); first | assumption | (refine OkS.sto ?_ (by omega); first | assumption | (refine OkS.sto ?_ (by omega); first | assumption | (refine OkS.sto ?_ (by omega); first | assumption | (refine OkS.sto ?_ (by omega); first | assumption | (refine OkS.sto ?_ (by omega); first | assumption)))))) | exact Pfx.refl _ | (apply Pfx.snoc; repeat (first | exact Pfx.refl _ | assumption | apply Pfx.snoc)) | with_unfolding_all exact of_eq_true (eq_true rfl) | (simp only [List.length_append, List.length_cons, List.length_nil]; omega)) only [↓gpre0, ↓wpre1, ↓reduceIte, Int.reduceToNat, Nat.reduceAdd, Nat.reduceMul, Nat.reduceEqDiff, wpost0, wpost1, wpost2, wpost3, wpost4, ite_self, ite_true, ite_false, if_true, if_false, bin_add, xbls54_0, xbls54_1, bin_lss, bin_mul, xbld126_0, tze126, xst126, un_not, bin_sub, xfad126_0, xst2, xfad126_1, xld126, fr127, wrap_int, wrap_u8, iteP_yes, iteP_no, k0, k3, k4, k5, k6, h8] | refine iteP_two (fun hc hd => ?_) (fun hc hd => ?_) | refine iteP_intro (fun hc => ?_) (fun hc => ?_))
            have hks2 : IntKind.i64.wrap ((i : Int) + 1) = ((i + 1 : Nat) : Int) := (wrap_int (by omega) (by omega)).trans hks
            refine ⟨16 - (i + 1), by omega, N, i + 1, n, yb, yc, l, rfl, by omega, hN1, hN16, ?_⟩
            (repeat' (first | assumption | rfl | omega | (exact hks2) | (rw [hks]) | (exact (hp.get (Nat.lt_of_lt_of_le hlt pH.len)).trans ((pH.get hlt).trans hD)) | (exact hll) | (exact hn16) | (exact hgood) | (exact fun _ => hn0) | (exact hrng) | (exact (S6.pre hp).more (by omega)) | (exact dG) | refine And.intro ?_ ?_))
        | false =>
          have pH := (Pfx.refl h').snoc (C := (⟨126, [.int .i64 (32 * (i : Int)), .int .i64 0]⟩ : Blk))
          have S6 := S5.pre pH
          (repeat' first | simp -dsimp (disch := first | omega | assumption | (refine OkS.sto ?_ (by omega); first | assumption | (refine OkS.sto ?_ (by omega); first | assumption | (refine OkS.sto ?_ (by omega); first | assumption | (refine OkS.sto ?_ (by omega); first | assumption | (refine OkS.sto ?_ (by omega); first | assumption | (refine OkS.sto ?_ (by omega); first | assumption)))))) | exact Pfx.refl _ | (apply Pfx.snoc; repeat (first | exact Pfx.refl _ | assumption | apply Pfx.snoc)) | with_unfolding_all exact of_eq_true (eq_true rfl) | (simp only [List.length_append, List.length_cons, List.length_nil]; omega)) only [↓gpre0, ↓wpre1, ↓reduceIte, Int.reduceToNat, Nat.reduceAdd, Nat.reduceMul, Nat.reduceEqDiff, wpost0, wpost1, wpost2, wpost3, wpost4, ite_self, ite_true, ite_false, if_true, if_false, bin_add, xbls54_0, xbls54_1, bin_lss, bin_mul, xbld126_0, tze126, xst126, un_not, bin_sub, xfad126_0, xst2, xfad126_1, xld126, fr127, wrap_int, wrap_u8, iteP_yes, iteP_no, g0, g3, g4, g5, g6, hin', hw] | refine iteP_two (fun hc hd => ?_) (fun hc hd => ?_) | refine iteP_intro (fun hc => ?_) (fun hc => ?_))
          refine cf_rel (pick_c hW.next hW.pick (n := 257) S6 hro hq (by omega) hl (by omega)) (fun q => by cases q) ?_
          rintro r G1 ⟨v3, rfl, _, hv3, S7, o3⟩
          have hv3' := hv3 (by omega)
          have m1 := o3.1
          simp only [List.length_append, List.length_cons, List.length_nil, Nat.zero_add] at m1
          have P1 := (o3.2 h'.length (by omega)).trans (get_last (h := h') (C := (⟨126, [.int .i64 (32 * (i : Int)), .int .i64 0]⟩ : Blk)) rfl)
          have w1 : IntKind.i64.wrap ((v3 : Int) - 128) = (v3 : Int) - 128 := wrap_int (by omega) (by omega)
          have u1 : put ro G1 h'.length 0 1 (.int .i64 ((v3 : Int) - 128)) = some (G1.set h'.length ⟨126, [.int .i64 ((v3 : Int) - 128), .int .i64 0]⟩) := putb (n := 1) (o := 0) P1 (by omega) rfl (by simp) (by simp [cellsOf, one, Value.oneCell'])
          obtain ⟨G2, hG2⟩ : ∃ G2, G2 = G1.set h'.length (⟨126, [.int .i64 ((v3 : Int) - 128), .int .i64 0]⟩ : Blk) := ⟨_, rfl⟩
          rw [← hG2] at u1
          have m2 : G2.length = h'.length + 1 := by rw [hG2, List.length_set, m1]
          have f2 : ∀ j, j ≠ h'.length → G2[j]? = G1[j]? := fun j hj => by rw [hG2, List.getElem?_set_ne (fun q => hj q.symm)]
          have P2 : G2[h'.length]? = some (⟨126, [.int .i64 ((v3 : Int) - 128), .int .i64 0]⟩ : Blk) := by rw [hG2, List.getElem?_set_self (by omega)]
          have S8 : SRC lo hi b (A + 6 + 4 * i + 2) x cd G2 := S7.frame (f2 b (by omega)) fun j _ hj => f2 j (by omega)
          (repeat' first | simp -dsimp (disch := first | omega | assumption | (refine OkS.sto ?_ (by omega); first | assumption | (refine OkS.sto ?_ (by omega); first | assumption | (refine OkS.sto ?_ (by omega); first | assumption | (refine OkS.sto ?_ (by omega); first | assumption | (refine OkS.sto ?_ (by omega); first | assumption | (refine OkS.sto ?_ (by omega); first | assumption)))))) | exact Pfx.refl _ | (apply Pfx.snoc; repeat (first | exact Pfx.refl _ | assumption | apply Pfx.snoc)) | with_unfolding_all exact of_eq_true (eq_true rfl) | (simp only [List.length_append, List.length_cons, List.length_nil]; omega)) only [↓gpre0, ↓wpre1, ↓reduceIte, Int.reduceToNat, Nat.reduceAdd, Nat.reduceMul, Nat.reduceEqDiff, wpost0, wpost1, wpost2, wpost3, wpost4, ite_self, ite_true, ite_false, if_true, if_false, bin_add, xbls54_0, xbls54_1, bin_lss, bin_mul, xbld126_0, tze126, xst126, un_not, bin_sub, xfad126_0, xst2, xfad126_1, xld126, fr127, wrap_int, wrap_u8, iteP_yes, iteP_no, g0, g3, g4, g5, g6, w1, u1] | refine iteP_two (fun hc hd => ?_) (fun hc hd => ?_) | refine iteP_intro (fun hc => ?_) (fun hc => ?_))
          refine cf_rel (pick_c hW.next hW.pick (n := 257) S8 hro hq (by omega) hl (by omega)) (fun q => by cases q) ?_
          rintro r G3 ⟨v4, rfl, _, hv4, S9, o4'⟩
          have hv4' := hv4 (by omega)
          have m3 := o4'.1
          have P3 := (o4'.2 h'.length (by omega)).trans P2
          have w2 : IntKind.i64.wrap ((v4 : Int) - 128) = (v4 : Int) - 128 := wrap_int (by omega) (by omega)
          have u2 : put ro G3 h'.length 1 1 (.int .i64 ((v4 : Int) - 128)) = some (G3.set h'.length ⟨126, [.int .i64 ((v3 : Int) - 128), .int .i64 ((v4 : Int) - 128)]⟩) := putb (n := 1) (o := 1) P3 (by omega) rfl (by simp) (by simp [cellsOf, one, Value.oneCell'])
          obtain ⟨G4, hG4⟩ : ∃ G4, G4 = G3.set h'.length (⟨126, [.int .i64 ((v3 : Int) - 128), .int .i64 ((v4 : Int) - 128)]⟩ : Blk) := ⟨_, rfl⟩
          rw [← hG4] at u2
          have m4 : G4.length = h'.length + 1 := by rw [hG4, List.length_set]; omega
          have f4 : ∀ j, j ≠ h'.length → G4[j]? = G3[j]? := fun j hj => by rw [hG4, List.getElem?_set_ne (fun q => hj q.symm)]
          have P4 : G4[h'.length]? = some (⟨126, [.int .i64 ((v3 : Int) - 128), .int .i64 ((v4 : Int) - 128)]⟩ : Blk) := by rw [hG4, List.getElem?_set_self (by omega)]
          have SA : SRC lo hi b (A + 6 + 4 * i + 4) x cd G4 := S9.frame (f4 b (by omega)) fun j _ hj => f4 j (by omega)
          have fA : ∀ j, j < h'.length → j ≠ b → G4[j]? = h'[j]? := fun j h1 h2 => (f4 j (by omega)).trans ((o4'.2 j h2).trans ((f2 j (by omega)).trans ((o3.2 j h2).trans (pH.get h1))))
          have dA : Dst b h G4 := d5.trans ⟨by omega, fA⟩
          have D4' : G4[yb]? = some (⟨126, vints l⟩ : Blk) := (fA yb hlt (by omega)).trans hD
          (repeat' first | simp -dsimp (disch := first | omega | assumption | (refine OkS.sto ?_ (by omega); first | assumption | (refine OkS.sto ?_ (by omega); first | assumption | (refine OkS.sto ?_ (by omega); first | assumption | (refine OkS.sto ?_ (by omega); first | assumption | (refine OkS.sto ?_ (by omega); first | assumption | (refine OkS.sto ?_ (by omega); first | assumption)))))) | exact Pfx.refl _ | (apply Pfx.snoc; repeat (first | exact Pfx.refl _ | assumption | apply Pfx.snoc)) | with_unfolding_all exact of_eq_true (eq_true rfl) | (simp only [List.length_append, List.length_cons, List.length_nil]; omega)) only [↓gpre0, ↓wpre1, ↓reduceIte, Int.reduceToNat, Nat.reduceAdd, Nat.reduceMul, Nat.reduceEqDiff, wpost0, wpost1, wpost2, wpost3, wpost4, ite_self, ite_true, ite_false, if_true, if_false, bin_add, xbls54_0, xbls54_1, bin_lss, bin_mul, xbld126_0, tze126, xst126, un_not, bin_sub, xfad126_0, xst2, xfad126_1, xld126, fr127, wrap_int, wrap_u8, iteP_yes, iteP_no, g0, g3, g4, g5, g6, w2, u2] | refine iteP_two (fun hc hd => ?_) (fun hc hd => ?_) | refine iteP_intro (fun hc => ?_) (fun hc => ?_))
          refine r13 (c := _) rfl (by kernel_rfl) (yb := yb) (yc := yc) (n := n) (bp := h'.length) (l := l) (u := ((v3 : Int) - 128)) (v := ((v4 : Int) - 128)) (by rw [m4]; omega) (by simp only [updO_some, updO_none, upd_at, Nat.reduceEqDiff, ↓reduceIte]; exact g4) (by simp only [updO_some, updO_none, upd_at, Nat.reduceEqDiff, ↓reduceIte]) D4' hll P4 hn16 ?_
          intro e2 G db dc h35 h8 hdb hDb hp
          have k0 : e2 0 = .pointer (some ⟨b, 0, none⟩) := (h35 0 (by omega) (by omega)).trans (by simp only [updO_some, updO_none, upd_at, Nat.reduceEqDiff, ↓reduceIte]; exact g0)
          have k3 : e2 3 = .int .i64 N := (h35 3 (by omega) (by omega)).trans (by simp only [updO_some, updO_none, upd_at, Nat.reduceEqDiff, ↓reduceIte]; exact g3)
          have k4 : e2 4 = .slice (some ⟨yb, 0, none⟩) n yc := (h35 4 (by omega) (by omega)).trans (by simp only [updO_some, updO_none, upd_at, Nat.reduceEqDiff, ↓reduceIte]; exact g4)
          have k5 : e2 5 = .bool false := (h35 5 (by omega) (by omega)).trans (by simp only [updO_some, updO_none, upd_at, Nat.reduceEqDiff, ↓reduceIte]; exact g5)
          have k6 : e2 6 = .int .i64 i := (h35 6 (by omega) (by omega)).trans (by simp only [updO_some, updO_none, upd_at, Nat.reduceEqDiff, ↓reduceIte]; exact g6)
          clear h35
          have hls : (l ++ [((v3 : Int) - 128), ((v4 : Int) - 128)]).length = (n + 1) * 2 := by simp [hll]; omega
          have isb := is_blk (dc := dc) hDb hls
          have lgG := hp.len
          have hdb2 := Nat.le_trans (dA).1 hdb
          have hyl := Nat.lt_of_lt_of_le (show yb < G4.length by omega) lgG
          (repeat' first | simp -dsimp (disch := first | omega | assumption | (refine OkS.sto ?_ (by omega); first | assumption | (refine OkS.sto ?_ (by omega); first | assumption | (refine OkS.sto ?_ (by omega); first | assumption | (refine OkS.sto ?_ (by omega); first | assumption | (refine OkS.sto ?_ (by omega); first | assumption | (refine OkS.sto ?_ (by omega); first | assumption)))))) | exact Pfx.refl _ | (apply Pfx.snoc; repeat (first | exact Pfx.refl _ | assumption | apply Pfx.snoc)) | with_unfolding_all exact of_eq_true (eq_true rfl) | (simp only [List.length_append, List.length_cons, List.length_nil]; omega)) only [↓gpre0, ↓wpre1, ↓reduceIte, Int.reduceToNat, Nat.reduceAdd, Nat.reduceMul, Nat.reduceEqDiff, wpost0, wpost1, wpost2, wpost3, wpost4, ite_self, ite_true, ite_false, if_true, if_false, bin_add, xbls54_0, xbls54_1, bin_lss, bin_mul, xbld126_0, tze126, xst126, un_not, bin_sub, xfad126_0, xst2, xfad126_1, xld126, fr127, wrap_int, wrap_u8, iteP_yes, iteP_no, k0, k3, k4, k5, k6, h8] | refine iteP_two (fun hc hd => ?_) (fun hc hd => ?_) | refine iteP_intro (fun hc => ?_) (fun hc => ?_))
          refine cf_rel (l02Is_c hX isb (by omega)) (fun q => by cases q) ?_
          rintro r G2 ⟨bb, rfl, rfl, hg⟩
          have hu := (show (-512 : Int) ≤ (v3 : Int) - 128 ∧ (v3 : Int) - 128 ≤ 512 by omega)
          have hv := (show (-512 : Int) ≤ (v4 : Int) - 128 ∧ (v4 : Int) - 128 ≤ 512 by omega)
          have dG := dA.trans hp.dst
          cases bb with
          | true =>
            have gd := hg.1 rfl
            (repeat' first | simp -dsimp (disch := first | omega | assumption | (refine OkS.sto ?_ (by omega); first | assumption | (refine OkS.sto ?_ (by omega); first | assumption | (refine OkS.sto ?_ (by omega); first | assumption | (refine OkS.sto ?_ (by omega); first | assumption | (refine OkS.sto ?_ (by omega); first | assumption | (refine OkS.sto ?_ (by omega); first | assumption)))))) | exact Pfx.refl _ | (apply Pfx.snoc; repeat (first | exact Pfx.refl _ | assumption | apply Pfx.snoc)) | with_unfolding_all exact of_eq_true (eq_true rfl) | (simp only [List.length_append, List.length_cons, List.length_nil]; omega)) only [↓gpre0, ↓wpre1, ↓reduceIte, Int.reduceToNat, Nat.reduceAdd, Nat.reduceMul, Nat.reduceEqDiff, wpost0, wpost1, wpost2, wpost3, wpost4, ite_self, ite_true, ite_false, if_true, if_false, bin_add, xbls54_0, xbls54_1, bin_lss, bin_mul, xbld126_0, tze126, xst126, un_not, bin_sub, xfad126_0, xst2, xfad126_1, xld126, fr127, wrap_int, wrap_u8, iteP_yes, iteP_no, k0, k3, k4, k5, k6, h8] | refine iteP_two (fun hc hd => ?_) (fun hc hd => ?_) | refine iteP_intro (fun hc => ?_) (fun hc => ?_))
            have hks2 : IntKind.i64.wrap ((i : Int) + 1) = ((i + 1 : Nat) : Int) := (wrap_int (by omega) (by omega)).trans hks
            refine ⟨16 - (i + 1), by omega, N, i + 1, n + 1, db, dc, l ++ [((v3 : Int) - 128), ((v4 : Int) - 128)], rfl, by omega, hN1, hN16, ?_⟩
            (repeat' (first | assumption | rfl | omega | (exact hks2) | (rw [hks]) | (exact hDb) | (exact hls) | (exact gd.n16) | (exact fun _ => gd) | (exact fun _ => by omega) | (exact fun j => nth_two hrng hu hv j) | (exact (SA.pre hp).more (by omega)) | (exact dG) | (exact (List.getElem?_eq_some_iff.1 hDb).1) | refine And.intro ?_ ?_))
          | false =>
            have hn0 : 0 < n := by
              rcases Nat.eq_zero_or_pos n with z | z
              · subst z
                have : l = [] := List.length_eq_zero_iff.1 (by omega)
                subst this
                exact absurd (hg.2 (good_one hu hv)) (by simp)
              · exact z
            (repeat' first | simp -dsimp (disch := first | omega | assumption | (refine OkS.sto ?_ (by omega); first | assumption | (refine OkS.sto ?_ (by omega); first | assumption | (refine OkS.sto ?_ (by omega); first | assumption | (refine OkS.sto ?_ (by omega); first | assumption | (refine OkS.sto ?_ (by omega); first | assumption | (refine OkS.sto ?_ (by omega); first | assumption)))))) | exact Pfx.refl _ | (apply Pfx.snoc; repeat (first | exact Pfx.refl _ | assumption | apply Pfx.snoc)) | with_unfolding_all exact of_eq_true (eq_true rfl) | (simp only [List.length_append, List.length_cons, List.length_nil]; omega)) only [↓gpre0, ↓wpre1, ↓reduceIte, Int.reduceToNat, Nat.reduceAdd, Nat.reduceMul, Nat.reduceEqDiff, wpost0, wpost1, wpost2, wpost3, wpost4, ite_self, ite_true, ite_false, if_true, if_false, bin_add, xbls54_0, xbls54_1, bin_lss, bin_mul, xbld126_0, tze126, xst126, un_not, bin_sub, xfad126_0, xst2, xfad126_1, xld126, fr127, wrap_int, wrap_u8, iteP_yes, iteP_no, k0, k3, k4, k5, k6, h8] | refine iteP_two (fun hc hd => ?_) (fun hc hd => ?_) | refine iteP_intro (fun hc => ?_) (fun hc => ?_))
            have hks2 : IntKind.i64.wrap ((i : Int) + 1) = ((i + 1 : Nat) : Int) := (wrap_int (by omega) (by omega)).trans hks
            refine ⟨16 - (i + 1), by omega, N, i + 1, n, yb, yc, l, rfl, by omega, hN1, hN16, ?_⟩
            (repeat' (first | assumption | rfl | omega | (exact hks2) | (rw [hks]) | (exact (hp.get (show yb < G4.length by omega)).trans D4') | (exact hll) | (exact hn16) | (exact hgood) | (exact fun _ => hn0) | (exact hrng) | (exact (SA.pre hp).more (by omega)) | (exact dG) | refine And.intro ?_ ?_))
      · have hin' : ¬ (i : Int) < (N : Int) := by omega
        (repeat' first | simp -dsimp (disch := first | omega | assumption | (refine OkS.sto ?_ (by omega); first | assumption | (refine OkS.sto ?_ (by omega); first | assumption | (refine OkS.sto ?_ (by omega); first | assumption | (refine OkS.sto ?_ (by omega); first | assumption | (refine OkS.sto ?_ (by omega); first | assumption | (refine OkS.sto ?_ (by omega); first | assumption)))))) | exact Pfx.refl _ | (apply Pfx.snoc; repeat (first | exact Pfx.refl _ | assumption | apply Pfx.snoc)) | with_unfolding_all exact of_eq_true (eq_true rfl) | (simp only [List.length_append, List.length_cons, List.length_nil]; omega)) only [↓gpre0, ↓wpre1, ↓reduceIte, Int.reduceToNat, Nat.reduceAdd, Nat.reduceMul, Nat.reduceEqDiff, wpost0, wpost1, wpost2, wpost3, wpost4, ite_self, ite_true, ite_false, if_true, if_false, bin_add, xbls54_0, xbls54_1, bin_lss, bin_mul, xbld126_0, tze126, xst126, un_not, bin_sub, xfad126_0, xst2, xfad126_1, xld126, fr127, wrap_int, wrap_u8, iteP_yes, iteP_no, g0, g3, g4, g5, g6, hin'] | refine iteP_two (fun hc hd => ?_) (fun hc hd => ?_) | refine iteP_intro (fun hc => ?_) (fun hc => ?_))
        exact ⟨n, yb, yc, l, rfl, hyb, hD, hll, hgood (hpos (by omega)), hrng, d5, S5.more (by omega)⟩
    · simp only [updO_at, updO_not, entry_at, List.getD_cons_zero, List.getD_cons_succ, ↓reduceIte, Nat.reduceEqDiff, true_and, and_true]
      first
        | exact ⟨v + 1, 0, 0, h.length, 0, [], by omega, by omega, by omega, by omega, by rw [Int.natCast_add, Int.add_comm]; rfl, rfl, rfl, Nat.le_refl _, D4, rfl, by omega, fun q => absurd q (by omega), fun q => absurd q (by omega), fun _ => rfl, fun j => by simp [nth], S4.more (by omega), d4, by omega⟩
        | exact ⟨16, 0, 0, h.length, 0, [], by omega, by omega, by omega, by omega, rfl, rfl, rfl, Nat.le_refl _, D4, rfl, by omega, fun q => absurd q (by omega), fun q => absurd q (by omega), fun _ => rfl, fun j => by simp [nth], S4.more (by omega), d4, by omega⟩
end Go.Proofs.Ytelogajobjflfaa.Sim

/- Valid places and directions of a law, drawn. Lemmas only; no condition. -/
set_option linter.unusedSimpArgs false
set_option linter.unusedVariables false
set_option maxRecDepth 8000
namespace Go.Proofs.Ytelogajobjflfaa.Sim
open Go Go.RowKit
variable {ro lo hi b A n : Nat} {X X' : Ext} {h : Heap} {x : Value} {cd : List UInt8}
structure PI where
  lo : Nat
  hi : Nat
  b : Nat
  A : Nat
  x : Value
  cd : List UInt8
noncomputable def cPl : Code := (Try.f127.body).get rfl
theorem cPl_body : Try.f127.body = some cPl := (Option.some_get _).symm
def prePl (ro : Nat) (i : PI) (args : List Value) (h : Heap) : Prop := args = [.pointer (some ⟨i.b, 0, none⟩)] ∧ SRC i.lo i.hi i.b i.A i.x i.cd h ∧ ro ≤ i.b ∧ i.hi ≤ i.b ∧ i.A ≤ 1152921504600000000 ∧ i.cd.length ≤ 1099511627776
def rPl (i : PI) (args : List Value) (h : Heap) (q : Value × Heap) : Prop := RPl i.lo i.hi i.b i.A i.x i.cd h q
noncomputable def xPl (ro : Nat) (X : Ext) : Ext := fun g => if g = 127 then some (fG Try.prog ro X Try.f127 cPl (RA (prePl ro) rPl)) else none
theorem xPl_ok {B : Base} (hX : XOk Try.prog ro B X) : XOk Try.prog ro B (xPl ro X) := fGX_ok mixed hX Try.func127 cPl_body (by decide) (by kernel_rfl)
theorem DrawOk_c (hW : XDW X) (hX : XN X) (hx : X' 127 = xPl ro X 127) (hS : SRC lo hi b A x cd h) (hro : ro ≤ b) (hq : hi ≤ b) (hA : A ≤ 1152921504600000000) (hl : cd.length ≤ 1099511627776) :
    CallR Try.prog ro X' 127 [.pointer (some ⟨b, 0, none⟩)] h (fun r h' => RPl lo hi b A x cd h (r, h')) := by
  refine fG_callA (pre := prePl ro) (R := rPl) (hx.trans (by unfold xPl; rw [if_pos rfl])) (Nat.le_of_ble_eq_true rfl) (fun i hi => ?_) ⟨lo, hi, b, A, x, cd⟩ ⟨rfl, hS, hro, hq, hA, hl⟩
  obtain ⟨lo', hi', b', A', x', cd'⟩ := i
  obtain ⟨h1, h2, h3, h4, h5, h6⟩ := hi
  have e : b = b' := by
    simp only [List.cons.injEq, and_true] at h1
    injection h1 with h1
    injection h1 with h1
    injection h1
  subst e
  exact l02Ok_w hW hX cPl_body h2 h3 h4 h5 h6
theorem Dst.pfx {h0 h1 h2 : Heap} {b : Nat} (p : Pfx h0 h1) (d : Dst b h1 h2) (hb : h0.length ≤ b) : Pfx h0 h2 := by
  refine List.ext_getElem? fun j => ?_
  rw [List.getElem?_take]
  have l1 := p.len
  by_cases q : j < h0.length
  · rw [if_pos q, d.2 j (by omega) (by omega)]; exact p.get q
  · rw [if_neg q, List.getElem?_eq_none (by omega)]
/-- Valid places, as a law draws them. -/
def Places (h : Heap) (r : Value) (h' : Heap) : Prop := ∃ (n yb yc : Nat) (l : List Int), r = .slice (some ⟨yb, 0, none⟩) n yc ∧ h.length ≤ yb ∧ h'[yb]? = some ⟨126, vints l⟩ ∧ l.length = n * 2 ∧ goodP n l ∧ (∀ j, -512 ≤ nth l j ∧ nth l j ≤ 512) ∧ Pfx h h'
theorem Places_c (hW : XDW X) (hX : XN X) (hF : X' 104 = none) (hR : X' 70 = none) (hx : X' 127 = xPl ro X 127) (hV : VS lo hi 1 h x n (cd.map u8v)) (hro : ro ≤ h.length) (hhi : hi ≤ h.length) (hl : cd.length ≤ 1099511627776) :
    CallR Try.prog ro X' 70 [x] h (fun r h' => Places h r h') := by
  refine callR_of hR Try.func70 rfl (by kernel_rfl) (Nat.le_of_ble_eq_true rfl) ?_
  (repeat' first | simp -dsimp (disch := first | omega | assumption | (refine OkS.sto ?_ (by omega); first | assumption | (refine OkS.sto ?_ (by omega); first | assumption | (refine OkS.sto ?_ (by omega); first | assumption | (refine OkS.sto ?_ (by omega); first | assumption | (refine OkS.sto ?_ (by omega); first | assumption | (refine OkS.sto ?_ (by omega); first | assumption)))))) | exact Pfx.refl _ | (apply Pfx.snoc; repeat (first | exact Pfx.refl _ | assumption | apply Pfx.snoc)) | with_unfolding_all exact of_eq_true (eq_true rfl) | (simp only [List.length_append, List.length_cons, List.length_nil]; omega)) only [↓wpre0, ↓wpre1, ↓reduceIte, Int.reduceToNat, Nat.reduceAdd, Nat.reduceMul, Nat.reduceEqDiff, wpost0, wpost1, wpost2, wpost3, wpost4, ite_self, ite_true, ite_false, if_true, if_false, fr70, wrap_int, wrap_u8, iteP_yes, iteP_no] | refine iteP_two (fun hc hd => ?_) (fun hc hd => ?_) | refine iteP_intro (fun hc => ?_) (fun hc => ?_))
  refine cf_rel (From_c hF hV hro) (fun q => by cases q) ?_
  rintro r H1 ⟨rfl, p1, l1, S1⟩
  (repeat' first | simp -dsimp (disch := first | omega | assumption | (refine OkS.sto ?_ (by omega); first | assumption | (refine OkS.sto ?_ (by omega); first | assumption | (refine OkS.sto ?_ (by omega); first | assumption | (refine OkS.sto ?_ (by omega); first | assumption | (refine OkS.sto ?_ (by omega); first | assumption | (refine OkS.sto ?_ (by omega); first | assumption)))))) | exact Pfx.refl _ | (apply Pfx.snoc; repeat (first | exact Pfx.refl _ | assumption | apply Pfx.snoc)) | with_unfolding_all exact of_eq_true (eq_true rfl) | (simp only [List.length_append, List.length_cons, List.length_nil]; omega)) only [↓wpre0, ↓wpre1, ↓reduceIte, Int.reduceToNat, Nat.reduceAdd, Nat.reduceMul, Nat.reduceEqDiff, wpost0, wpost1, wpost2, wpost3, wpost4, ite_self, ite_true, ite_false, if_true, if_false, fr70, wrap_int, wrap_u8, iteP_yes, iteP_no] | refine iteP_two (fun hc hd => ?_) (fun hc hd => ?_) | refine iteP_intro (fun hc => ?_) (fun hc => ?_))
  refine cf_rel (DrawOk_c hW hX hx S1 hro hhi (by omega) hl) (fun q => by cases q) ?_
  rintro r H2 ⟨n, yb, yc, l, rfl, hyb, hD, hll, hg, hr, d2, S2⟩
  have hnf : ∀ a m c, Sim.flat (.slice a m c) = false := fun a m c => rfl
  (repeat' first | simp -dsimp (disch := first | omega | assumption | (refine OkS.sto ?_ (by omega); first | assumption | (refine OkS.sto ?_ (by omega); first | assumption | (refine OkS.sto ?_ (by omega); first | assumption | (refine OkS.sto ?_ (by omega); first | assumption | (refine OkS.sto ?_ (by omega); first | assumption | (refine OkS.sto ?_ (by omega); first | assumption)))))) | exact Pfx.refl _ | (apply Pfx.snoc; repeat (first | exact Pfx.refl _ | assumption | apply Pfx.snoc)) | with_unfolding_all exact of_eq_true (eq_true rfl) | (simp only [List.length_append, List.length_cons, List.length_nil]; omega)) only [↓wpre0, ↓wpre1, ↓reduceIte, Int.reduceToNat, Nat.reduceAdd, Nat.reduceMul, Nat.reduceEqDiff, wpost0, wpost1, wpost2, wpost3, wpost4, ite_self, ite_true, ite_false, if_true, if_false, fr70, wrap_int, wrap_u8, iteP_yes, iteP_no, endH_not (hnf _ _ _)] | refine iteP_two (fun hc hd => ?_) (fun hc hd => ?_) | refine iteP_intro (fun hc => ?_) (fun hc => ?_))
  exact ⟨n, yb, yc, l, rfl, by omega, hD, hll, hg, hr, Dst.pfx p1 d2 (Nat.le_refl _)⟩
end Go.Proofs.Ytelogajobjflfaa.Sim
