/- The reference's RecoverJournal. Lemmas only; no condition. -/
import Derived.Test.YtbakaopgdcojfaaDoorDre
set_option linter.unusedSimpArgs false
set_option linter.unusedVariables false
set_option maxRecDepth 8000
namespace Go.Proofs.YtbakaopgdcojfaaDoor.Sim
open Go Go.RowKit
variable {ro : Nat} {X : Ext}
/-- What is found in a text. -/
def jrn (t : List UInt8) : List (List UInt8) × Nat := if t.length ≤ 6000 then recS 0 (lns (t.length + 1) t) else ([], 0)
def RJ (t : List UInt8) (h h' : Heap) (r : Value) : Prop :=
  Pfx h h' ∧ ∃ y, r = .tuple ⟨[y, .int .i64 (jrn t).2, .bool (decide (t.length ≤ 6000))]⟩ ∧ VS h.length h'.length 1 h' y (jrn t).1.length ((jrn t).1.map strv)
theorem sth_mem {l : List (List UInt8)} {i : Nat} (h : i < l.length) : sth l i ∈ l := by
  simp [sth, List.getD_eq_getElem?_getD, List.getElem?_eq_getElem h]
theorem drop_sth {l : List (List UInt8)} {i : Nat} (h : i < l.length) : l.drop i = sth l i :: l.drop (i + 1) := by
  rw [List.drop_eq_getElem_cons h]
  simp [sth, List.getD_eq_getElem?_getD, List.getElem?_eq_getElem h]
theorem bth_get {s : List UInt8} {k : Nat} (hk : k < s.length) (h : bth s k = 32) : s[k]? = some 32 := by
  rw [List.getElem?_eq_getElem hk]
  simp only [bth, List.getD_eq_getElem?_getD, List.getElem?_eq_getElem hk, Option.getD_some] at h
  congr 1
  exact UInt8.toNat_inj.1 (by have e : (32 : UInt8).toNat = 32 := rfl; omega)
theorem fnd_at {s : List UInt8} {k : Nat} (hk : k < s.length) (h : bth s k = 32) (hb : ∀ j : Nat, j < k → s[j]? ≠ some 32) : fnd s 32 = true ∧ wrd s 32 = s.take k ∧ rst s 32 = s.drop (k + 1) := by
  have e := idx_eq (bth_get hk h) hb
  have e1 : fnd s 32 = true := by unfold fnd; rw [e]; exact decide_eq_true (by omega)
  refine ⟨e1, ?_, ?_⟩
  · rw [wrd, if_pos e1, e]; rfl
  · rw [rst, if_pos e1, e]; rfl
theorem fnd_not {s : List UInt8} (hb : ∀ j : Nat, j < s.length → s[j]? ≠ some 32) : fnd s 32 = false := by
  unfold fnd
  rw [idx_neg fun k q => hb k (List.getElem?_eq_some_iff.1 q).1 q]
  rfl
/-- How far the reckoning goes. -/
theorem recS_len : ∀ (n : Int) (ls : List (List UInt8)), (recS n ls).2 ≤ wei ls + ls.length
  | n, [] => by simp [recS]
  | n, s :: r => by
    simp only [recS]
    split
    · have := recS_len (chk n (rst s 32)) r
      simp only [wei, List.length_cons]
      omega
    · simp
theorem wei_lns : ∀ (n : Nat) (t : List UInt8), wei (lns n t) + (lns n t).length ≤ t.length
  | 0, t => by simp [lns, wei]
  | n + 1, t => by
    simp only [lns]
    split
    · simp [wei]
    · have := wei_lns n (t.drop ((Lib.indexByte t 10).toNat + 1))
      have hi := idx_lt t 10
      rw [List.length_drop] at this
      simp only [wei, List.length_cons, List.length_take]
      omega
theorem sRecover_no (hx : XD X) {t : List UInt8} {h : Heap} (hl : t.length ≤ 1048576) (ht : 6000 < t.length) :
    CallR Tryd.prog ro X 10 [.string ⟨⟨t⟩⟩] h (fun r h' => RJ t h h' r) := by
  have hX := hx.n
  refine callR_of (hX _ rfl) Tryd.func10 rfl (by kernel_rfl) (Nat.le_of_ble_eq_true rfl) ?_
  have e1 : jrn t = ([], 0) := if_neg (by omega)
  (repeat' first | simp -dsimp (disch := first | omega | assumption | (refine OkS.sto ?_ (by omega); first | assumption | (refine OkS.sto ?_ (by omega); first | assumption | (refine OkS.sto ?_ (by omega); first | assumption | (refine OkS.sto ?_ (by omega); first | assumption | (refine OkS.sto ?_ (by omega); first | assumption | (refine OkS.sto ?_ (by omega); first | assumption)))))) | exact Pfx.refl _ | (apply Pfx.snoc; repeat (first | exact Pfx.refl _ | assumption | apply Pfx.snoc)) | with_unfolding_all exact of_eq_true (eq_true rfl) | (simp only [List.length_append, List.length_cons, List.length_nil]; omega)) only [↓wpre0, ↓wpre1, ↓reduceIte, Int.reduceToNat, Nat.reduceAdd, Nat.reduceMul, Nat.reduceEqDiff, wpost0, wpost1, wpost2, wpost3, wpost4, ite_self, ite_true, ite_false, if_true, if_false, len_bl Tryd.underlying9, bin_gtr, xbls22_0, xbls22_1, xlen22, bin_lss, xiad22, xld9, idx_bl Tryd.underlying9, bin_neq, bin_add, bin_eql, sl_bl Tryd.underlying9, slo_bl Tryd.underlying9, shi_bl Tryd.underlying9, sneq_bl, fr10, wrap_int, wrap_u8, iteP_yes, iteP_no] | refine iteP_two (fun hc hd => ?_) (fun hc hd => ?_) | refine iteP_intro (fun hc => ?_) (fun hc => ?_))
  refine ⟨Pfx.refl h, _, by rw [e1, decide_eq_false (by omega)]; rfl, ?_⟩
  rw [e1]
  exact ⟨rfl, .inl ⟨rfl, rfl⟩⟩
set_option maxHeartbeats 4000000 in
theorem sRecover_yes (hx : XD X) {t : List UInt8} {h : Heap} (hl : t.length ≤ 1048576) (hro : ro ≤ h.length) (ht : t.length ≤ 6000) :
    CallR Tryd.prog ro X 10 [.string ⟨⟨t⟩⟩] h (fun r h' => RJ t h h' r) := by
  have hX := hx.n
  refine callR_of (hX _ rfl) Tryd.func10 rfl (by kernel_rfl) (Nat.le_of_ble_eq_true rfl) ?_
  have ej : jrn t = recS 0 (lns (t.length + 1) t) := if_pos ht
  (repeat' first | simp -dsimp (disch := first | omega | assumption | (refine OkS.sto ?_ (by omega); first | assumption | (refine OkS.sto ?_ (by omega); first | assumption | (refine OkS.sto ?_ (by omega); first | assumption | (refine OkS.sto ?_ (by omega); first | assumption | (refine OkS.sto ?_ (by omega); first | assumption | (refine OkS.sto ?_ (by omega); first | assumption)))))) | exact Pfx.refl _ | (apply Pfx.snoc; repeat (first | exact Pfx.refl _ | assumption | apply Pfx.snoc)) | with_unfolding_all exact of_eq_true (eq_true rfl) | (simp only [List.length_append, List.length_cons, List.length_nil]; omega)) only [↓wpre0, ↓wpre1, ↓reduceIte, Int.reduceToNat, Nat.reduceAdd, Nat.reduceMul, Nat.reduceEqDiff, wpost0, wpost1, wpost2, wpost3, wpost4, ite_self, ite_true, ite_false, if_true, if_false, len_bl Tryd.underlying9, bin_gtr, xbls22_0, xbls22_1, xlen22, bin_lss, xiad22, xld9, idx_bl Tryd.underlying9, bin_neq, bin_add, bin_eql, sl_bl Tryd.underlying9, slo_bl Tryd.underlying9, shi_bl Tryd.underlying9, sneq_bl, fr10, wrap_int, wrap_u8, iteP_yes, iteP_no] | refine iteP_two (fun hc hd => ?_) (fun hc hd => ?_) | refine iteP_intro (fun hc => ?_) (fun hc => ?_))
  refine cf_rel (l11Lines_c hx hl hro) (fun q => by cases q) ?_
  rintro r h1 ⟨p1, x, z, rfl, hV⟩
  have L1 := p1.len
  have hle := lns_le (t.length + 1) t
  have hmm := lns_mem (t.length + 1) t
  have hww := wei_lns (t.length + 1) t
  generalize hls : lns (t.length + 1) t = ls at *
  (repeat' first | simp -dsimp (disch := first | omega | assumption | (refine OkS.sto ?_ (by omega); first | assumption | (refine OkS.sto ?_ (by omega); first | assumption | (refine OkS.sto ?_ (by omega); first | assumption | (refine OkS.sto ?_ (by omega); first | assumption | (refine OkS.sto ?_ (by omega); first | assumption | (refine OkS.sto ?_ (by omega); first | assumption)))))) | exact Pfx.refl _ | (apply Pfx.snoc; repeat (first | exact Pfx.refl _ | assumption | apply Pfx.snoc)) | with_unfolding_all exact of_eq_true (eq_true rfl) | (simp only [List.length_append, List.length_cons, List.length_nil]; omega)) only [↓wpre0, ↓wpre1, ↓reduceIte, Int.reduceToNat, Nat.reduceAdd, Nat.reduceMul, Nat.reduceEqDiff, wpost0, wpost1, wpost2, wpost3, wpost4, ite_self, ite_true, ite_false, if_true, if_false, len_bl Tryd.underlying9, bin_gtr, xbls22_0, xbls22_1, xlen22, bin_lss, xiad22, xld9, idx_bl Tryd.underlying9, bin_neq, bin_add, bin_eql, sl_bl Tryd.underlying9, slo_bl Tryd.underlying9, shi_bl Tryd.underlying9, sneq_bl, fr10, wrap_int, wrap_u8, iteP_yes, iteP_no] | refine iteP_two (fun hc hd => ?_) (fun hc hd => ?_) | refine iteP_intro (fun hc => ?_) (fun hc => ?_))
  refine loop_exit 0 (fun e2 h2 => ∃ (y : Value) (A : List (List UInt8)) (m : Nat), e2 7 = y ∧ e2 9 = .int .i64 m ∧ Pfx h1 h2 ∧ VG h1.length 9 1 h2 y A.length (A.map strv) ∧ recS 0 ls = (A, m)) ?_ ?_
  · refine loop_rounds (fun k e h' => ∃ (i m : Nat) (n : Int) (y : Value) (A : List (List UInt8)), k = ls.length - i ∧ i ≤ ls.length ∧ Pfx h1 h' ∧ (0 ≤ n ∧ n ≤ 65002) ∧ e 5 = x ∧ e 7 = y ∧ e 8 = .int .i64 n ∧ e 9 = .int .i64 m ∧ e 10 = .int .i64 i ∧ VG h1.length 9 1 h' y A.length (A.map strv) ∧ A.length ≤ i ∧ m + wei (ls.drop i) + (ls.drop i).length ≤ t.length ∧ Jst ls A m n (ls.drop i)) _ ⟨0, 0, 0, .slice (some ⟨h1.length, 0, none⟩) 0 0, [], rfl, ?_⟩ ?_
    · simp only [updO_at, updO_not, entry_at, List.getD_cons_zero, List.getD_cons_succ, ↓reduceIte, Nat.reduceEqDiff, true_and, and_true]
      exact ⟨by omega, (Pfx.refl h1).snoc, ⟨by omega, by omega⟩, rfl, rfl, vg_new h1 (Nat.le_refl _), Nat.le_refl _, by simpa using hww, by simpa using Jst.start ls⟩
    · rintro k e h' ⟨i, m, n, y, A, hk, hle2, hp, hn, g5, g7, g8, g9, g10, hY, hA, hm, hJ⟩
      have hl2 := hp.len
      have hV' := hV.pre hp
      by_cases hin : i < ls.length
      · have hld := ss_ld hV' tsz9 tag9 hin
        have hsl := hmm _ (sth_mem hin)
        have hds := drop_sth hin
        generalize hs : sth ls i = s at *
        (repeat' first | simp -dsimp (disch := first | omega | assumption | (refine OkS.sto ?_ (by omega); first | assumption | (refine OkS.sto ?_ (by omega); first | assumption | (refine OkS.sto ?_ (by omega); first | assumption | (refine OkS.sto ?_ (by omega); first | assumption | (refine OkS.sto ?_ (by omega); first | assumption | (refine OkS.sto ?_ (by omega); first | assumption)))))) | exact Pfx.refl _ | (apply Pfx.snoc; repeat (first | exact Pfx.refl _ | assumption | apply Pfx.snoc)) | with_unfolding_all exact of_eq_true (eq_true rfl) | (simp only [List.length_append, List.length_cons, List.length_nil]; omega)) only [↓wpre0, ↓wpre1, ↓reduceIte, Int.reduceToNat, Nat.reduceAdd, Nat.reduceMul, Nat.reduceEqDiff, wpost0, wpost1, wpost2, wpost3, wpost4, ite_self, ite_true, ite_false, if_true, if_false, len_bl Tryd.underlying9, bin_gtr, xbls22_0, xbls22_1, xlen22, bin_lss, xiad22, xld9, idx_bl Tryd.underlying9, bin_neq, bin_add, bin_eql, sl_bl Tryd.underlying9, slo_bl Tryd.underlying9, shi_bl Tryd.underlying9, sneq_bl, fr10, wrap_int, wrap_u8, iteP_yes, iteP_no, g5, g7, g8, g9, g10, hV'.len Tryd.underlying22] | refine iteP_two (fun hc hd => ?_) (fun hc hd => ?_) | refine iteP_intro (fun hc => ?_) (fun hc => ?_))
        refine loop_exit 2 (fun e2 h2 => ∃ c : Nat, c ≤ s.length ∧ h2 = h' ∧ e2 5 = x ∧ e2 7 = y ∧ e2 8 = .int .i64 n ∧ e2 9 = .int .i64 m ∧ e2 10 = .int .i64 i ∧ e2 11 = .int .i64 c ∧ (∀ j : Nat, j < c → s[j]? ≠ some 32) ∧ (c = s.length ∨ bth s c = 32)) ?_ ?_
        · refine loop_rounds (fun k2 e2 h2 => ∃ c : Nat, k2 = s.length - c ∧ c ≤ s.length ∧ h2 = h' ∧ e2 5 = x ∧ e2 7 = y ∧ e2 8 = .int .i64 n ∧ e2 9 = .int .i64 m ∧ e2 10 = .int .i64 i ∧ e2 11 = .int .i64 c ∧ (∀ j : Nat, j < c → s[j]? ≠ some 32)) _ ⟨0, rfl, ?_⟩ ?_
          · simp only [updO_at, updO_not, entry_at, List.getD_cons_zero, List.getD_cons_succ, ↓reduceIte, Nat.reduceEqDiff, true_and, and_true]
            exact ⟨by omega, g5, g7, g8, g9, g10, rfl, fun j hj => by omega⟩
          · rintro k2 e2 h2 ⟨c, hk2, hc, rfl, f5, f7, f8, f9, f10, f11, hb⟩
            by_cases hcs : c < s.length
            · by_cases hbc : bth s c = 32
              · (repeat' first | simp -dsimp (disch := first | omega | assumption | (refine OkS.sto ?_ (by omega); first | assumption | (refine OkS.sto ?_ (by omega); first | assumption | (refine OkS.sto ?_ (by omega); first | assumption | (refine OkS.sto ?_ (by omega); first | assumption | (refine OkS.sto ?_ (by omega); first | assumption | (refine OkS.sto ?_ (by omega); first | assumption)))))) | exact Pfx.refl _ | (apply Pfx.snoc; repeat (first | exact Pfx.refl _ | assumption | apply Pfx.snoc)) | with_unfolding_all exact of_eq_true (eq_true rfl) | (simp only [List.length_append, List.length_cons, List.length_nil]; omega)) only [↓wpre0, ↓wpre1, ↓reduceIte, Int.reduceToNat, Nat.reduceAdd, Nat.reduceMul, Nat.reduceEqDiff, wpost0, wpost1, wpost2, wpost3, wpost4, ite_self, ite_true, ite_false, if_true, if_false, len_bl Tryd.underlying9, bin_gtr, xbls22_0, xbls22_1, xlen22, bin_lss, xiad22, xld9, idx_bl Tryd.underlying9, bin_neq, bin_add, bin_eql, sl_bl Tryd.underlying9, slo_bl Tryd.underlying9, shi_bl Tryd.underlying9, sneq_bl, fr10, wrap_int, wrap_u8, iteP_yes, iteP_no, f5, f7, f8, f9, f10, f11, hV'.iad Tryd.underlying22 tsz9, Nat.mul_one, Int.toNat_natCast, hld, hbc] | refine iteP_two (fun hc hd => ?_) (fun hc hd => ?_) | refine iteP_intro (fun hc => ?_) (fun hc => ?_))
                exact ⟨c, hc, rfl, hb, .inr hbc⟩
              · (repeat' first | simp -dsimp (disch := first | omega | assumption | (refine OkS.sto ?_ (by omega); first | assumption | (refine OkS.sto ?_ (by omega); first | assumption | (refine OkS.sto ?_ (by omega); first | assumption | (refine OkS.sto ?_ (by omega); first | assumption | (refine OkS.sto ?_ (by omega); first | assumption | (refine OkS.sto ?_ (by omega); first | assumption)))))) | exact Pfx.refl _ | (apply Pfx.snoc; repeat (first | exact Pfx.refl _ | assumption | apply Pfx.snoc)) | with_unfolding_all exact of_eq_true (eq_true rfl) | (simp only [List.length_append, List.length_cons, List.length_nil]; omega)) only [↓wpre0, ↓wpre1, ↓reduceIte, Int.reduceToNat, Nat.reduceAdd, Nat.reduceMul, Nat.reduceEqDiff, wpost0, wpost1, wpost2, wpost3, wpost4, ite_self, ite_true, ite_false, if_true, if_false, len_bl Tryd.underlying9, bin_gtr, xbls22_0, xbls22_1, xlen22, bin_lss, xiad22, xld9, idx_bl Tryd.underlying9, bin_neq, bin_add, bin_eql, sl_bl Tryd.underlying9, slo_bl Tryd.underlying9, shi_bl Tryd.underlying9, sneq_bl, fr10, wrap_int, wrap_u8, iteP_yes, iteP_no, f5, f7, f8, f9, f10, f11, hV'.iad Tryd.underlying22 tsz9, Nat.mul_one, Int.toNat_natCast, hld, hbc] | refine iteP_two (fun hc hd => ?_) (fun hc hd => ?_) | refine iteP_intro (fun hc => ?_) (fun hc => ?_))
                refine ⟨_, by omega, c + 1, rfl, by omega, rfl, fun j hj q => ?_⟩
                by_cases ej2 : j = c
                · subst ej2
                  apply hbc
                  simp [bth, List.getD_eq_getElem?_getD, q]
                · exact hb j (by omega) q
            · (repeat' first | simp -dsimp (disch := first | omega | assumption | (refine OkS.sto ?_ (by omega); first | assumption | (refine OkS.sto ?_ (by omega); first | assumption | (refine OkS.sto ?_ (by omega); first | assumption | (refine OkS.sto ?_ (by omega); first | assumption | (refine OkS.sto ?_ (by omega); first | assumption | (refine OkS.sto ?_ (by omega); first | assumption)))))) | exact Pfx.refl _ | (apply Pfx.snoc; repeat (first | exact Pfx.refl _ | assumption | apply Pfx.snoc)) | with_unfolding_all exact of_eq_true (eq_true rfl) | (simp only [List.length_append, List.length_cons, List.length_nil]; omega)) only [↓wpre0, ↓wpre1, ↓reduceIte, Int.reduceToNat, Nat.reduceAdd, Nat.reduceMul, Nat.reduceEqDiff, wpost0, wpost1, wpost2, wpost3, wpost4, ite_self, ite_true, ite_false, if_true, if_false, len_bl Tryd.underlying9, bin_gtr, xbls22_0, xbls22_1, xlen22, bin_lss, xiad22, xld9, idx_bl Tryd.underlying9, bin_neq, bin_add, bin_eql, sl_bl Tryd.underlying9, slo_bl Tryd.underlying9, shi_bl Tryd.underlying9, sneq_bl, fr10, wrap_int, wrap_u8, iteP_yes, iteP_no, f5, f7, f8, f9, f10, f11, hV'.iad Tryd.underlying22 tsz9, Nat.mul_one, Int.toNat_natCast, hld] | refine iteP_two (fun hc hd => ?_) (fun hc hd => ?_) | refine iteP_intro (fun hc => ?_) (fun hc => ?_))
              exact ⟨c, hc, rfl, hb, .inl (by omega)⟩
        · rintro e2 h2 ⟨c, hc, rfl, f5, f7, f8, f9, f10, f11, hb, hcc⟩
          have hrl : (s.drop (c + 1)).length ≤ 1099511627776 := by rw [List.length_drop]; omega
          have e3 : ((c : Int) + 1).toNat = c + 1 := by omega
          by_cases hcs : c < s.length
          · obtain ⟨q1, q2, q3⟩ := fnd_at hcs (hcc.resolve_left (by omega)) hb
            have hck := chk_range hn (s.drop (c + 1))
            obtain ⟨H, ap, vg, old, _⟩ := acc1 (P := Tryd.prog) (ro := ro) (T := 22) (h := h2) (v := .string ⟨⟨s.drop (c + 1)⟩⟩) tel22 tsz9 tby9 tze9 (.inl hY) (by omega) hl2 rfl (by omega) (by omega)
            by_cases hcmp : (s.take c == dec (chk n (s.drop (c + 1)))) = true
            · have hjok : jok n s = true := by unfold jok; rw [q1, q2, q3, hcmp]; rfl
              have pfH : Pfx h1 H := old.1 h1 hp (Nat.le_refl _)
              have hldH : ld Tryd.prog H 9 (ea x i) = some (.string ⟨⟨s⟩⟩) := by rw [ss_ld (hV.pre pfH) tsz9 tag9 hin, hs]
              have hmw : m + (s.length + 1) + wei (ls.drop (i + 1)) + (ls.drop (i + 1)).length ≤ t.length := by
                rw [hds] at hm
                simp only [wei, List.length_cons] at hm
                omega
              have hJ2 := hJ
              rw [hds] at hJ2
              have hJ3 := hJ2.step hjok
              rw [q3] at hJ3
              have vg' : VG h1.length 9 1 H (.slice (some ⟨h2.length + 1, 0, none⟩) (A.length + 1) (A.length + 1 + 1)) (A ++ [s.drop (c + 1)]).length ((A ++ [s.drop (c + 1)]).map strv) := by
                rw [List.length_append, List.map_append]
                exact vg
              (repeat' first | simp -dsimp (disch := first | omega | assumption | (refine OkS.sto ?_ (by omega); first | assumption | (refine OkS.sto ?_ (by omega); first | assumption | (refine OkS.sto ?_ (by omega); first | assumption | (refine OkS.sto ?_ (by omega); first | assumption | (refine OkS.sto ?_ (by omega); first | assumption | (refine OkS.sto ?_ (by omega); first | assumption)))))) | exact Pfx.refl _ | (apply Pfx.snoc; repeat (first | exact Pfx.refl _ | assumption | apply Pfx.snoc)) | with_unfolding_all exact of_eq_true (eq_true rfl) | (simp only [List.length_append, List.length_cons, List.length_nil]; omega)) only [↓wpre0, ↓wpre1, ↓reduceIte, Int.reduceToNat, Nat.reduceAdd, Nat.reduceMul, Nat.reduceEqDiff, wpost0, wpost1, wpost2, wpost3, wpost4, ite_self, ite_true, ite_false, if_true, if_false, len_bl Tryd.underlying9, bin_gtr, xbls22_0, xbls22_1, xlen22, bin_lss, xiad22, xld9, idx_bl Tryd.underlying9, bin_neq, bin_add, bin_eql, sl_bl Tryd.underlying9, slo_bl Tryd.underlying9, shi_bl Tryd.underlying9, sneq_bl, fr10, wrap_int, wrap_u8, iteP_yes, iteP_no, f5, f7, f8, f9, f10, f11, hV'.len Tryd.underlying22, hV'.iad Tryd.underlying22 tsz9, Nat.mul_one, Int.toNat_natCast, hld, hldH, e3, l01Check_r hx hn hrl, l01Dec_r hx, hcmp, ap] | refine iteP_two (fun hc hd => ?_) (fun hc hd => ?_) | refine iteP_intro (fun hc => ?_) (fun hc => ?_))
              exact ⟨_, by omega, i + 1, m + (s.length + 1), _, _, _, rfl, by omega, pfH, hck, rfl, rfl, by rw [show (m : Int) + ((s.length : Int) + 1) = ((m + (s.length + 1) : Nat) : Int) by omega], rfl, vg', by simp; omega, hmw, hJ3⟩
            · have hcmp' : (s.take c == dec (chk n (s.drop (c + 1)))) = false := by simpa using hcmp
              have hjok : jok n s = false := by unfold jok; rw [q1, q2, q3, hcmp']; rfl
              (repeat' first | simp -dsimp (disch := first | omega | assumption | (refine OkS.sto ?_ (by omega); first | assumption | (refine OkS.sto ?_ (by omega); first | assumption | (refine OkS.sto ?_ (by omega); first | assumption | (refine OkS.sto ?_ (by omega); first | assumption | (refine OkS.sto ?_ (by omega); first | assumption | (refine OkS.sto ?_ (by omega); first | assumption)))))) | exact Pfx.refl _ | (apply Pfx.snoc; repeat (first | exact Pfx.refl _ | assumption | apply Pfx.snoc)) | with_unfolding_all exact of_eq_true (eq_true rfl) | (simp only [List.length_append, List.length_cons, List.length_nil]; omega)) only [↓wpre0, ↓wpre1, ↓reduceIte, Int.reduceToNat, Nat.reduceAdd, Nat.reduceMul, Nat.reduceEqDiff, wpost0, wpost1, wpost2, wpost3, wpost4, ite_self, ite_true, ite_false, if_true, if_false, len_bl Tryd.underlying9, bin_gtr, xbls22_0, xbls22_1, xlen22, bin_lss, xiad22, xld9, idx_bl Tryd.underlying9, bin_neq, bin_add, bin_eql, sl_bl Tryd.underlying9, slo_bl Tryd.underlying9, shi_bl Tryd.underlying9, sneq_bl, fr10, wrap_int, wrap_u8, iteP_yes, iteP_no, f5, f7, f8, f9, f10, f11, hV'.len Tryd.underlying22, hV'.iad Tryd.underlying22 tsz9, Nat.mul_one, Int.toNat_natCast, hld, e3, l01Check_r hx hn hrl, l01Dec_r hx, hcmp'] | refine iteP_two (fun hc hd => ?_) (fun hc hd => ?_) | refine iteP_intro (fun hc => ?_) (fun hc => ?_))
              rw [hds] at hJ
              exact ⟨_, A, m, rfl, rfl, hp, hY, hJ.stop hjok⟩
          · have ec : c = s.length := by omega
            subst ec
            have hjok : jok n s = false := by unfold jok; rw [fnd_not hb]; rfl
            (repeat' first | simp -dsimp (disch := first | omega | assumption | (refine OkS.sto ?_ (by omega); first | assumption | (refine OkS.sto ?_ (by omega); first | assumption | (refine OkS.sto ?_ (by omega); first | assumption | (refine OkS.sto ?_ (by omega); first | assumption | (refine OkS.sto ?_ (by omega); first | assumption | (refine OkS.sto ?_ (by omega); first | assumption)))))) | exact Pfx.refl _ | (apply Pfx.snoc; repeat (first | exact Pfx.refl _ | assumption | apply Pfx.snoc)) | with_unfolding_all exact of_eq_true (eq_true rfl) | (simp only [List.length_append, List.length_cons, List.length_nil]; omega)) only [↓wpre0, ↓wpre1, ↓reduceIte, Int.reduceToNat, Nat.reduceAdd, Nat.reduceMul, Nat.reduceEqDiff, wpost0, wpost1, wpost2, wpost3, wpost4, ite_self, ite_true, ite_false, if_true, if_false, len_bl Tryd.underlying9, bin_gtr, xbls22_0, xbls22_1, xlen22, bin_lss, xiad22, xld9, idx_bl Tryd.underlying9, bin_neq, bin_add, bin_eql, sl_bl Tryd.underlying9, slo_bl Tryd.underlying9, shi_bl Tryd.underlying9, sneq_bl, fr10, wrap_int, wrap_u8, iteP_yes, iteP_no, f5, f7, f8, f9, f10, f11, hV'.len Tryd.underlying22, hV'.iad Tryd.underlying22 tsz9, Nat.mul_one, Int.toNat_natCast, hld] | refine iteP_two (fun hc hd => ?_) (fun hc hd => ?_) | refine iteP_intro (fun hc => ?_) (fun hc => ?_))
            rw [hds] at hJ
            exact ⟨_, A, m, rfl, rfl, hp, hY, hJ.stop hjok⟩
      · (repeat' first | simp -dsimp (disch := first | omega | assumption | (refine OkS.sto ?_ (by omega); first | assumption | (refine OkS.sto ?_ (by omega); first | assumption | (refine OkS.sto ?_ (by omega); first | assumption | (refine OkS.sto ?_ (by omega); first | assumption | (refine OkS.sto ?_ (by omega); first | assumption | (refine OkS.sto ?_ (by omega); first | assumption)))))) | exact Pfx.refl _ | (apply Pfx.snoc; repeat (first | exact Pfx.refl _ | assumption | apply Pfx.snoc)) | with_unfolding_all exact of_eq_true (eq_true rfl) | (simp only [List.length_append, List.length_cons, List.length_nil]; omega)) only [↓wpre0, ↓wpre1, ↓reduceIte, Int.reduceToNat, Nat.reduceAdd, Nat.reduceMul, Nat.reduceEqDiff, wpost0, wpost1, wpost2, wpost3, wpost4, ite_self, ite_true, ite_false, if_true, if_false, len_bl Tryd.underlying9, bin_gtr, xbls22_0, xbls22_1, xlen22, bin_lss, xiad22, xld9, idx_bl Tryd.underlying9, bin_neq, bin_add, bin_eql, sl_bl Tryd.underlying9, slo_bl Tryd.underlying9, shi_bl Tryd.underlying9, sneq_bl, fr10, wrap_int, wrap_u8, iteP_yes, iteP_no, g5, g7, g8, g9, g10, hV'.len Tryd.underlying22] | refine iteP_two (fun hc hd => ?_) (fun hc hd => ?_) | refine iteP_intro (fun hc => ?_) (fun hc => ?_))
        have ei : i = ls.length := by omega
        subst ei
        rw [List.drop_length] at hJ
        exact ⟨_, A, m, rfl, rfl, hp, hY, hJ.nil⟩
  · rintro e2 h2 ⟨y, A, m, g7, g9, hp, hY, hr⟩
    (repeat' first | simp -dsimp (disch := first | omega | assumption | (refine OkS.sto ?_ (by omega); first | assumption | (refine OkS.sto ?_ (by omega); first | assumption | (refine OkS.sto ?_ (by omega); first | assumption | (refine OkS.sto ?_ (by omega); first | assumption | (refine OkS.sto ?_ (by omega); first | assumption | (refine OkS.sto ?_ (by omega); first | assumption)))))) | exact Pfx.refl _ | (apply Pfx.snoc; repeat (first | exact Pfx.refl _ | assumption | apply Pfx.snoc)) | with_unfolding_all exact of_eq_true (eq_true rfl) | (simp only [List.length_append, List.length_cons, List.length_nil]; omega)) only [↓wpre0, ↓wpre1, ↓reduceIte, Int.reduceToNat, Nat.reduceAdd, Nat.reduceMul, Nat.reduceEqDiff, wpost0, wpost1, wpost2, wpost3, wpost4, ite_self, ite_true, ite_false, if_true, if_false, len_bl Tryd.underlying9, bin_gtr, xbls22_0, xbls22_1, xlen22, bin_lss, xiad22, xld9, idx_bl Tryd.underlying9, bin_neq, bin_add, bin_eql, sl_bl Tryd.underlying9, slo_bl Tryd.underlying9, shi_bl Tryd.underlying9, sneq_bl, fr10, wrap_int, wrap_u8, iteP_yes, iteP_no, g7, g9] | refine iteP_two (fun hc hd => ?_) (fun hc hd => ?_) | refine iteP_intro (fun hc => ?_) (fun hc => ?_))
    have hnf : Sim.flat (.tuple ⟨[y, .int .i64 m, .bool true]⟩) = false := by obtain ⟨_, b, cap, rfl, _⟩ := hY; rfl
    rw [endH_not hnf]
    refine ⟨p1.trans hp, y, ?_, ?_⟩
    · rw [ej, hr, decide_eq_true ht]
    · rw [ej, hr]
      exact hY.vsl.wide L1 (Nat.le_refl _)
theorem sRecover_c (hx : XD X) {t : List UInt8} {h : Heap} (hl : t.length ≤ 1048576) (hro : ro ≤ h.length) :
    CallR Tryd.prog ro X 10 [.string ⟨⟨t⟩⟩] h (fun r h' => RJ t h h' r) := by
  rcases Nat.lt_or_ge 6000 t.length with ht | ht
  · exact sRecover_no hx hl ht
  · exact sRecover_yes hx hl hro ht
end Go.Proofs.YtbakaopgdcojfaaDoor.Sim
