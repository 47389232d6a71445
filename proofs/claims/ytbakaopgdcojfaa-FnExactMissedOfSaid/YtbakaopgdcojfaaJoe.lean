/- What jobsOf comes to. Lemmas only; no condition. -/
import Derived.Test.YtbakaopgdcojfaaJod
set_option linter.unusedSimpArgs false
set_option linter.unusedVariables false
set_option maxRecDepth 8000
namespace Go.Proofs.Ytbakaopgdcojfaa.Sim
open Go Go.RowKit Go.Maps
variable {ro B : Nat}
theorem last_c {n : Nat} {l : List Int} {x : Value} {h3 : Heap} {w0 : World} {mb B3 : Nat} {ρ2 : List Loc} {ρ' : List Loc} {h' : Heap} {e : Env} {a : Act} {w : World} {y : Value} {D : DataW Unit} {Q : Exit → Act → World → Prop} (hn : n ≤ 1099511627776)
    (hmb : w0.heap.size ≤ mb) (hmb3 : mb < B3) (hj : JI n l x h3 w0 mb B3 ρ2 n ρ' h' e a w y D) (hQ : ∀ ρ' e a w y D, JI n l x h3 w0 mb B3 ρ2 n ρ' h' e a w y D → Q (.exit 0) a w) :
    (match Try.f94.body with | some (.seq _ (.seq _ (.seq (.seq _ (.block _ (.loop c))) _))) => c | _ => .skip).wp Try.prog Q a w := by
  obtain ⟨p, px, s, b, A, bel, own, mc, g3, g4, g9, g10, g11, gy⟩ := hj
  show Code.wp _ _ _ _ _
  refine wp_seq ?_
  refine wp_of_W mixed noX_ok (by kernel_rfl) s b A (R := fun z e2 h2 => z = .normal ∧ h' = h2 ∧ e2 12 = .bool false ∧ ∀ t, t ≠ 12 → e2 t = e t) ?_ ?_
  · (repeat' first | simp -dsimp (disch := first | omega | assumption | (refine OkS.sto ?_ (by omega); first | assumption | (refine OkS.sto ?_ (by omega); first | assumption | (refine OkS.sto ?_ (by omega); first | assumption | (refine OkS.sto ?_ (by omega); first | assumption | (refine OkS.sto ?_ (by omega); first | assumption | (refine OkS.sto ?_ (by omega); first | assumption)))))) | exact Pfx.refl _ | (apply Pfx.snoc; repeat (first | exact Pfx.refl _ | assumption | apply Pfx.snoc)) | with_unfolding_all exact of_eq_true (eq_true rfl) | (simp only [List.length_append, List.length_cons, List.length_nil]; omega)) only [↓wpre0, ↓wpre1, ↓reduceIte, Int.reduceToNat, Nat.reduceAdd, Nat.reduceMul, Nat.reduceEqDiff, wpost0, wpost1, wpost2, wpost3, wpost4, ite_self, ite_true, ite_false, if_true, if_false, xbls63_0, xbls63_1, xlen56, bin_lss, xiad56, xld115, tze115, xst115, xfad115_0, xld2, bin_add, fr94, wrap_int, wrap_u8, iteP_yes, iteP_no, g10, g11] | refine iteP_two (fun hc hd => ?_) (fun hc hd => ?_) | refine iteP_intro (fun hc => ?_) (fun hc => ?_))
    exact ⟨by simp, fun t h1 => by simp [h1]⟩
  rintro z e1 h1 ⟨rfl, rfl, c12, ce⟩ a1 w1 ρ1 p1 s1 A1 b1
  simp only [exOf, Exit.then]
  refine wp_seq ?_
  refine wp_of_W mixed noX_ok (by kernel_rfl) s1 (Nat.le_trans b b1.size) A1 (R := fun z e2 h2 => z = .exit 0 ∧ h' = h2 ∧ e2 = e1) ?_ ?_
  · (repeat' first | simp -dsimp (disch := first | omega | assumption | (refine OkS.sto ?_ (by omega); first | assumption | (refine OkS.sto ?_ (by omega); first | assumption | (refine OkS.sto ?_ (by omega); first | assumption | (refine OkS.sto ?_ (by omega); first | assumption | (refine OkS.sto ?_ (by omega); first | assumption | (refine OkS.sto ?_ (by omega); first | assumption)))))) | exact Pfx.refl _ | (apply Pfx.snoc; repeat (first | exact Pfx.refl _ | assumption | apply Pfx.snoc)) | with_unfolding_all exact of_eq_true (eq_true rfl) | (simp only [List.length_append, List.length_cons, List.length_nil]; omega)) only [↓wpre0, ↓wpre1, ↓reduceIte, Int.reduceToNat, Nat.reduceAdd, Nat.reduceMul, Nat.reduceEqDiff, wpost0, wpost1, wpost2, wpost3, wpost4, ite_self, ite_true, ite_false, if_true, if_false, xbls63_0, xbls63_1, xlen56, bin_lss, xiad56, xld115, tze115, xst115, xfad115_0, xld2, bin_add, fr94, wrap_int, wrap_u8, iteP_yes, iteP_no, c12] | refine iteP_two (fun hc hd => ?_) (fun hc hd => ?_) | refine iteP_intro (fun hc => ?_) (fun hc => ?_))
    all_goals exact ⟨rfl, rfl, rfl⟩
  rintro z e2 h2 ⟨rfl, rfl, rfl⟩ a2 w2 ρ2' p2 s2 A2 b2
  simp only [exOf, Exit.then]
  have B2 := b1.trans b2
  have hle : w0.heap.size ≤ B3 := by omega
  exact hQ ρ2' e2 a2 w2 y D ⟨p.trans (p1.trans p2), px, s2, Nat.le_trans b B2.size, A2, bel.trans (B2.mono hle), own_below own B2 hmb3, mc, (ce 3 (by decide)).trans g3, (ce 4 (by decide)).trans g4, (ce 9 (by decide)).trans g9, (ce 10 (by decide)).trans g10, (ce 11 (by decide)).trans g11, gy⟩
theorem jobsF_ok {B : Nat} {args : List Value} {h : Heap} {r : Value} {h' : Heap} (hr : jobsF ro args h = some (r, h')) {ρ : List Loc} {w : World} {args' : List Value} (hs : SR Try.prog ro B ρ h w) (hB : B ≤ w.heap.size) (hargs : VRs Try.prog ro ρ args args') :
    CallOk Try.prog 94 ⟨args'⟩ w fun r' w' => ∃ ρ', Pre ρ ρ' ∧ SR Try.prog ro B ρ' h' w' ∧ VR Try.prog ro ρ' r r' ∧ Below B w w' := by
  match args, hr, hargs with
  | [x], hr, hargs =>
    have hr0 := hr
    simp only [jobsF] at hr
    split at hr
    · rename_i hh
      obtain ⟨⟨n, l⟩, hq⟩ := hh
      rw [jobsF_eq hq] at hr0
      clear hr
      obtain ⟨hI, hr64, hn, hro⟩ := hq
      simp only at hI hr64 hn
      simp only [Option.some.injEq, Prod.mk.injEq] at hr0
      obtain ⟨rfl, rfl⟩ := hr0
      have hA := AR_entry (fn := Try.f94) hargs (show [x].length ≤ Try.f94.ntmps from Nat.le_of_ble_eq_true rfl)
      refine callOk_of Try.func94 (by decide) rfl ?_
      have s0 := hs.rebase hro w.heap.size
      have A0 := hA.up hro
      refine wp_seq ?_
      refine wp_of_W mixed noX_ok (by kernel_rfl) s0 (Nat.le_refl _) A0 (R := fun z e2 h2 => z = .normal ∧ h = h2 ∧ e2 0 = x) ?_ ?_
      · (repeat' first | simp -dsimp (disch := first | omega | assumption | (refine OkS.sto ?_ (by omega); first | assumption | (refine OkS.sto ?_ (by omega); first | assumption | (refine OkS.sto ?_ (by omega); first | assumption | (refine OkS.sto ?_ (by omega); first | assumption | (refine OkS.sto ?_ (by omega); first | assumption | (refine OkS.sto ?_ (by omega); first | assumption)))))) | exact Pfx.refl _ | (apply Pfx.snoc; repeat (first | exact Pfx.refl _ | assumption | apply Pfx.snoc)) | with_unfolding_all exact of_eq_true (eq_true rfl) | (simp only [List.length_append, List.length_cons, List.length_nil]; omega)) only [↓wpre0, ↓wpre1, ↓reduceIte, Int.reduceToNat, Nat.reduceAdd, Nat.reduceMul, Nat.reduceEqDiff, wpost0, wpost1, wpost2, wpost3, wpost4, ite_self, ite_true, ite_false, if_true, if_false, xbls63_0, xbls63_1, xlen56, bin_lss, xiad56, xld115, tze115, xst115, xfad115_0, xld2, bin_add, fr94, wrap_int, wrap_u8, iteP_yes, iteP_no] | refine iteP_two (fun hc hd => ?_) (fun hc hd => ?_) | refine iteP_intro (fun hc => ?_) (fun hc => ?_))
      rintro z e1 h2 ⟨rfl, rfl, c0⟩ a1 w1 ρ1 p1 s1 A1 b1
      simp only [exOf, Exit.then]
      have hB1 : w.heap.size ≤ w1.heap.size := b1.size
      refine wp_seq (wp_region_list ?_)
      refine wpList_of_WO mixed noX_ok _ _ [_] (by kernel_rfl) s1 hB1 A1 (K := fun e2 h2 => h ++ [⟨2, []⟩] = h2 ∧ e2 0 = x ∧ e2 7 = .slice (some ⟨h.length, 0, none⟩) 0 0) ?_ ?_
      · (repeat' first | simp -dsimp (disch := first | omega | assumption | (refine OkS.sto ?_ (by omega); first | assumption | (refine OkS.sto ?_ (by omega); first | assumption | (refine OkS.sto ?_ (by omega); first | assumption | (refine OkS.sto ?_ (by omega); first | assumption | (refine OkS.sto ?_ (by omega); first | assumption | (refine OkS.sto ?_ (by omega); first | assumption)))))) | exact Pfx.refl _ | (apply Pfx.snoc; repeat (first | exact Pfx.refl _ | assumption | apply Pfx.snoc)) | with_unfolding_all exact of_eq_true (eq_true rfl) | (simp only [List.length_append, List.length_cons, List.length_nil]; omega)) only [↓wpre0, ↓wpre1, ↓reduceIte, Int.reduceToNat, Nat.reduceAdd, Nat.reduceMul, Nat.reduceEqDiff, wpost0, wpost1, wpost2, wpost3, wpost4, ite_self, ite_true, ite_false, if_true, if_false, xbls63_0, xbls63_1, xlen56, bin_lss, xiad56, xld115, tze115, xst115, xfad115_0, xld2, bin_add, fr94, wrap_int, wrap_u8, iteP_yes, iteP_no, c0] | refine iteP_two (fun hc hd => ?_) (fun hc hd => ?_) | refine iteP_intro (fun hc => ?_) (fun hc => ?_))
      rintro e2 h2 ⟨rfl, d0, d7⟩ a2 w2 ρ2 p2 s2 A2 b2
      have hB2 : w.heap.size ≤ w2.heap.size := Nat.le_trans hB1 b2.size
      refine wpList_run (v := .map (some w2.heap.size)) (w' := w2.alloc (.map #[] 0)) rfl rfl ?_
      have A3 := A2.put (d := some 8) (v := .map (some w2.heap.size)) (v' := .map (some w2.heap.size)) (fun t ht => by cases ht; exact Nat.le_of_ble_eq_true rfl) (.opq _)
      have b3 : Below w.heap.size w2 (w2.alloc (.map #[] 0)) := (Below.refl _ _).alloc hB2 _
      have own3 := World.ownsMap_made (H := Unit) w2 Try.prog 2 (plainElem Try.prog 2)
      have hsz3 : (w2.alloc (.map #[] 0)).heap.size = w2.heap.size + 1 := by simp
      have hl3 : (h ++ [(⟨2, []⟩ : Blk)]).length = h.length + 1 := by simp
      have gl3 : (h ++ [(⟨2, []⟩ : Blk)])[h.length]? = some ⟨2, []⟩ := by simp
      have px3 : Pfx h (h ++ [(⟨2, []⟩ : Blk)]) := (Pfx.refl h).snoc
      have s3' := s2.below (w' := w2.alloc (.map #[] 0)) ((Below.refl _ _).alloc (Nat.le_refl _) _)
      have s3 := s3'.rebase (by omega) (w2.alloc (.map #[] 0)).heap.size
      have A3' := A3.up (ro' := (h ++ [(⟨2, []⟩ : Blk)]).length) (by omega)
      have bw3 : Below w.heap.size w (w2.alloc (.map #[] 0)) := b1.trans (b2.trans b3)
      have hmb : w.heap.size ≤ w2.heap.size := Nat.le_trans b1.size b2.size
      have hmb3 : w2.heap.size < (w2.alloc (.map #[] 0)).heap.size := by omega
      generalize hw3 : w2.alloc (.map #[] 0) = w3 at *
      generalize hh3 : h ++ [(⟨2, []⟩ : Blk)] = h3 at *
      refine wpList_of_WO mixed noX_ok _ [] [_, _] (by kernel_rfl) s3 (Nat.le_refl _) A3' (K := fun e3 h2 => h3 = h2 ∧ e3 0 = x ∧ e3 3 = .slice (some ⟨h.length, 0, none⟩) 0 0 ∧ e3 4 = .map (some w2.heap.size)) ?_ ?_
      · (repeat' first | simp -dsimp (disch := first | omega | assumption | (refine OkS.sto ?_ (by omega); first | assumption | (refine OkS.sto ?_ (by omega); first | assumption | (refine OkS.sto ?_ (by omega); first | assumption | (refine OkS.sto ?_ (by omega); first | assumption | (refine OkS.sto ?_ (by omega); first | assumption | (refine OkS.sto ?_ (by omega); first | assumption)))))) | exact Pfx.refl _ | (apply Pfx.snoc; repeat (first | exact Pfx.refl _ | assumption | apply Pfx.snoc)) | with_unfolding_all exact of_eq_true (eq_true rfl) | (simp only [List.length_append, List.length_cons, List.length_nil]; omega)) only [↓wpre0, ↓wpre1, ↓reduceIte, Int.reduceToNat, Nat.reduceAdd, Nat.reduceMul, Nat.reduceEqDiff, wpost0, wpost1, wpost2, wpost3, wpost4, ite_self, ite_true, ite_false, if_true, if_false, xbls63_0, xbls63_1, xlen56, bin_lss, xiad56, xld115, tze115, xst115, xfad115_0, xld2, bin_add, fr94, wrap_int, wrap_u8, iteP_yes, iteP_no, d0, d7] | refine iteP_two (fun hc hd => ?_) (fun hc hd => ?_) | refine iteP_intro (fun hc => ?_) (fun hc => ?_))
      rintro e4 h4 ⟨rfl, d0, d3, d4⟩ a4 w4 ρ4 p4 s4 A4 b4
      simp only [wpList, Exit.then]
      have hI3 := hI.pre px3
      refine wp_seq (wp_seq ?_)
      refine wp_of_W mixed noX_ok (by kernel_rfl) s4 b4.size A4 (R := fun z e2 h2 => z = .normal ∧ h3 = h2 ∧ e2 9 = x ∧ e2 10 = .int .i64 n ∧ e2 11 = .int .i64 0 ∧ e2 3 = .slice (some ⟨h.length, 0, none⟩) 0 0 ∧ e2 4 = .map (some w2.heap.size)) ?_ ?_
      · (repeat' first | simp -dsimp (disch := first | omega | assumption | (refine OkS.sto ?_ (by omega); first | assumption | (refine OkS.sto ?_ (by omega); first | assumption | (refine OkS.sto ?_ (by omega); first | assumption | (refine OkS.sto ?_ (by omega); first | assumption | (refine OkS.sto ?_ (by omega); first | assumption | (refine OkS.sto ?_ (by omega); first | assumption)))))) | exact Pfx.refl _ | (apply Pfx.snoc; repeat (first | exact Pfx.refl _ | assumption | apply Pfx.snoc)) | with_unfolding_all exact of_eq_true (eq_true rfl) | (simp only [List.length_append, List.length_cons, List.length_nil]; omega)) only [↓wpre0, ↓wpre1, ↓reduceIte, Int.reduceToNat, Nat.reduceAdd, Nat.reduceMul, Nat.reduceEqDiff, wpost0, wpost1, wpost2, wpost3, wpost4, ite_self, ite_true, ite_false, if_true, if_false, xbls63_0, xbls63_1, xlen56, bin_lss, xiad56, xld115, tze115, xst115, xfad115_0, xld2, bin_add, fr94, wrap_int, wrap_u8, iteP_yes, iteP_no, d0, d3, d4, IS.len hI3 Try.underlying56] | refine iteP_two (fun hc hd => ?_) (fun hc hd => ?_) | refine iteP_intro (fun hc => ?_) (fun hc => ?_))
      rintro z e5 h5 ⟨rfl, rfl, g9, g10, g11, g3, g4⟩ a5 w5 ρ5 p5 s5 A5 b5
      simp only [exOf, Exit.then]
      refine wp_block ?_
      have b45 := b4.trans b5
      have j0 : JI n l x h3 w w2.heap.size w3.heap.size ρ2 0 ρ5 h3 e5 a5 w5 (.slice (some ⟨h.length, 0, none⟩) 0 0) (.map []) :=
        ⟨p4.trans p5, Pfx.refl _, s5, b45.size, A5, bw3.trans (b45.mono (by omega)), own_below own3 b45 hmb3, MapC.zero _, g3, g4, g9, g10, g11, .inl ⟨rfl, by rw [jobsL_zero]; rfl, by rw [hl3]; rfl, by omega, by rw [hl3]; exact gl3⟩⟩
      refine wp_loop_by (fun m a w' => ∃ (i : Nat) (ρ' : List Loc) (h' : Heap) (e : Env) (y : Value) (D : DataW Unit), m = n - i ∧ i ≤ n ∧ JI n l x h3 w w2.heap.size w3.heap.size ρ2 i ρ' h' e a w' y D) ?_ n a5 w5 ⟨0, ρ5, h3, e5, _, _, rfl, by omega, j0⟩
      rintro m a6 w6 ⟨i, ρ6, h6, e6, y6, D6, hm, hle, J⟩
      by_cases hin : i < n
      · exact round_c hI hr64 hn px3 hmb hmb3 hin J fun ρ' h' e a w y D J' => .inl ⟨rfl, _, by omega, i + 1, ρ', h', e, y, D, rfl, by omega, J'⟩
      · have : i = n := by omega
        subst this
        refine last_c hn hmb hmb3 J fun ρ7 e7 a7 w7 y7 D7 J' => .inr ⟨by simp, ?_⟩
        obtain ⟨p, px, s, b, A, bel, own, mc, g3, g4, g9, g10, g11, gy⟩ := J'
        simp only [Exit.inBlock, if_true, Exit.then]
        refine wp_seq ?_
        refine wp_of_W mixed noX_ok (by kernel_rfl) s b A (R := fun z e2 h2 => z = .normal ∧ h6 = h2 ∧ e2 2 = y7) ?_ ?_
        · (repeat' first | simp -dsimp (disch := first | omega | assumption | (refine OkS.sto ?_ (by omega); first | assumption | (refine OkS.sto ?_ (by omega); first | assumption | (refine OkS.sto ?_ (by omega); first | assumption | (refine OkS.sto ?_ (by omega); first | assumption | (refine OkS.sto ?_ (by omega); first | assumption | (refine OkS.sto ?_ (by omega); first | assumption)))))) | exact Pfx.refl _ | (apply Pfx.snoc; repeat (first | exact Pfx.refl _ | assumption | apply Pfx.snoc)) | with_unfolding_all exact of_eq_true (eq_true rfl) | (simp only [List.length_append, List.length_cons, List.length_nil]; omega)) only [↓wpre0, ↓wpre1, ↓reduceIte, Int.reduceToNat, Nat.reduceAdd, Nat.reduceMul, Nat.reduceEqDiff, wpost0, wpost1, wpost2, wpost3, wpost4, ite_self, ite_true, ite_false, if_true, if_false, xbls63_0, xbls63_1, xlen56, bin_lss, xiad56, xld115, tze115, xst115, xfad115_0, xld2, bin_add, fr94, wrap_int, wrap_u8, iteP_yes, iteP_no, g3] | refine iteP_two (fun hc hd => ?_) (fun hc hd => ?_) | refine iteP_intro (fun hc => ?_) (fun hc => ?_))
        rintro z e8 h8 ⟨rfl, rfl, g2⟩ a8 w8 ρ8 p8 s8 A8 b8
        simp only [exOf, Exit.then]
        refine wp_ret ?_
        have hb8 : Below w.heap.size w w8 := bel.trans (b8.mono (by omega))
        have v2 := A8.er 2
        rw [g2] at v2
        have hres : ∃ ρ', Pre ρ ρ' ∧ SR Try.prog ro B ρ' (h ++ [⟨2, vints (jobsL (keysL i l) i)⟩]) w8 ∧ VR Try.prog ro ρ' (.slice (some ⟨h.length, 0, none⟩) i (if i = 0 then 0 else i + 1)) (a8.tmps.getD 2 undef) := by
          rcases gy with ⟨rfl, q2, q3, q4, q5⟩ | ⟨q1, bb, cap, q2, q3, q4, q5⟩
          · have hl2 := s2.len
            obtain ⟨L, hL⟩ : ∃ L, ρ2[h.length]? = some L := ⟨_, List.getElem?_eq_getElem (show h.length < ρ2.length by omega)⟩
            have b2' : Below w.heap.size w w2 := b1.trans b2
            have hρ : Pre ρ ρ2 := p1.trans p2
            have s2w := s2.same (w' := w8) fun b L Bk z1 z2 z3 => by
              have hb : b < h.length := by
                rcases Nat.lt_trichotomy b h.length with q | q | q
                · exact q
                · subst q; rw [← hh3] at z2; simp at z2; subst z2; exact absurd rfl z3
                · have := lt_get z2; omega
              obtain ⟨L0, hL0⟩ : ∃ L0, ρ[b]? = some L0 := ⟨_, List.getElem?_eq_getElem (show b < ρ.length by rw [hs.len]; exact hb)⟩
              have := hρ.get hL0
              rw [this] at z1; cases z1
              have z4 : h[b]? = some Bk := by rw [← hh3, List.getElem?_append_left hb] at z2; exact z2
              have hlt := hs.lt hL0 z4 z3
              exact (hb8.block L.g hlt).trans (b2'.block L.g hlt).symm
            refine ⟨ρ ++ [L], ⟨_, rfl⟩, ?_, ?_⟩
            · rw [jobsL_zero]
              exact hs.pick hB hb8 s2w (Nat.le_refl _) hL (by rw [← hh3]; simp [vints]) (Nat.le_refl _) (by simp [vints])
            · rw [if_pos rfl]
              subst q3
              refine VR.pick0 (b := h3.length - 1) hs.len ?_ v2
              rw [hl3]
              exact (p.trans p8).get hL
          · subst q2
            have hl8 := s8.len
            have hbb := lt_get q4
            obtain ⟨L, hL⟩ : ∃ L, ρ8[bb]? = some L := ⟨_, List.getElem?_eq_getElem (show bb < ρ8.length by omega)⟩
            refine ⟨ρ ++ [L], ⟨_, rfl⟩, hs.pick hB hb8 s8 (by omega) hL q4 q3 ?_, VR.pick hs.len hL q3 ?_ v2⟩
            · intro v hv
              obtain ⟨n, _, rfl⟩ := List.mem_map.1 hv
              exact ⟨_, _, rfl⟩
            · split
              · rename_i q; exact fun _ => (q5 q).trans q.symm
              · omega
        obtain ⟨ρ9, r1, r2, r3⟩ := hres
        refine ⟨A8.defers, a8.tmps.getD 2 undef, ?_, _, rfl, ρ9, r1, r2, r3, hb8.mono hB⟩
        exact results_tmp rfl _ _ _
    · cases hr
end Go.Proofs.Ytbakaopgdcojfaa.Sim
