/- Journals of lines: the reference's and the program's. Lemmas only; no condition. -/
import Derived.Test.YtbakaopgdcojfaaDoorDsb
set_option linter.unusedSimpArgs false
set_option linter.unusedVariables false
set_option maxRecDepth 8000
namespace Go.Proofs.YtbakaopgdcojfaaDoor.Sim
open Go Go.RowKit
variable {ro : Nat} {X : Ext}
/-- A line of a journal. -/
def jl (n : Int) (s : List UInt8) : List UInt8 := dec (chk n s) ++ [32] ++ s ++ [10]
/-- A journal. -/
def jr : Int → List (List UInt8) → List UInt8
  | _, [] => []
  | n, s :: r => jl n s ++ jr (chk n s) r
theorem jl_len (n : Int) (s : List UInt8) : (jl n s).length = (dec (chk n s)).length + s.length + 2 := by
  simp [jl]
  omega
theorem jr_ge : ∀ (n : Int) (l : List (List UInt8)), wei l + 3 * l.length ≤ (jr n l).length
  | n, [] => by simp [wei]
  | n, s :: r => by
    have := jr_ge (chk n s) r
    have h1 := dec_pos (chk n s)
    simp only [wei, jr, List.length_cons, List.length_append, jl_len]
    omega
theorem jr_le : ∀ (n : Int) (l : List (List UInt8)), 0 ≤ n ∧ n ≤ 65002 → (jr n l).length ≤ wei l + 7 * l.length
  | n, [], _ => by simp [jr, wei]
  | n, s :: r, hn => by
    have hc := chk_range hn s
    have := jr_le (chk n s) r hc
    have h1 := dec_le hc.2
    simp only [wei, jr, List.length_cons, List.length_append, jl_len]
    omega
/-- Whether lines have a journal; what is handed back. -/
def jgood (l : List (List UInt8)) : Bool := l.all (fun s => !fnd s 10) && decide ((jr 0 l).length ≤ 6000)
def jout (l : List (List UInt8)) : List UInt8 := if jgood l then jr 0 l else []
theorem sth_memD {l : List (List UInt8)} {i : Nat} (h : i < l.length) : sth l i ∈ l := by
  simp [sth, List.getD_eq_getElem?_getD, List.getElem?_eq_getElem h]
theorem jgood_nl {l : List (List UInt8)} {i : Nat} (hi : i < l.length) (h : fnd (sth l i) 10 = true) : jgood l = false := by
  unfold jgood
  rw [Bool.and_eq_false_iff]
  left
  rw [List.all_eq_false]
  exact ⟨_, sth_memD hi, by simp [h]⟩
theorem jgood_long {l : List (List UInt8)} (h : 6000 < (jr 0 l).length) : jgood l = false := by
  unfold jgood
  rw [decide_eq_false (by omega), Bool.and_false]
theorem jgood_yes {l : List (List UInt8)} (h1 : ∀ i, i < l.length → fnd (sth l i) 10 = false) (h2 : (jr 0 l).length ≤ 6000) : jgood l = true := by
  unfold jgood
  rw [decide_eq_true h2, Bool.and_true, List.all_eq_true]
  intro s hs
  obtain ⟨i, hi, rfl⟩ := List.getElem_of_mem hs
  have := h1 i hi
  simp [sth, List.getD_eq_getElem?_getD, List.getElem?_eq_getElem hi] at this
  simp [this]
theorem jout_no {l : List (List UInt8)} (h : jgood l = false) : jout l = [] := by unfold jout; rw [h]; rfl
theorem jout_yes {l : List (List UInt8)} (h : jgood l = true) : jout l = jr 0 l := by unfold jout; rw [if_pos h]
theorem drop_sth' {l : List (List UInt8)} {i : Nat} (h : i < l.length) : l.drop i = sth l i :: l.drop (i + 1) := by
  rw [List.drop_eq_getElem_cons h]
  simp [sth, List.getD_eq_getElem?_getD, List.getElem?_eq_getElem h]
/-- What stands when the first lines are done. -/
def Jrn (l : List (List UInt8)) (i : Nat) (n : Int) (out : List UInt8) : Prop := (0 ≤ n ∧ n ≤ 65002) ∧ jr 0 l = out ++ jr n (l.drop i)
theorem Jrn.start (l : List (List UInt8)) : Jrn l 0 0 [] := ⟨⟨by omega, by omega⟩, by simp⟩
theorem Jrn.step {l : List (List UInt8)} {i : Nat} {n : Int} {out : List UInt8} (j : Jrn l i n out) (hi : i < l.length) : Jrn l (i + 1) (chk n (sth l i)) (out ++ jl n (sth l i)) := by
  obtain ⟨h1, h2⟩ := j
  refine ⟨chk_range h1 _, ?_⟩
  rw [h2, drop_sth' hi, jr, List.append_assoc]
theorem Jrn.le {l : List (List UInt8)} {i : Nat} {n : Int} {out : List UInt8} (j : Jrn l i n out) : out.length ≤ (jr 0 l).length := by
  rw [j.2, List.length_append]; omega
theorem Jrn.end {l : List (List UInt8)} {n : Int} {out : List UInt8} (j : Jrn l l.length n out) : out = jr 0 l := by
  rw [j.2, List.drop_length]; simp [jr]
theorem l11Journal_r (hx : XD X) {lo hi n : Nat} {l : List (List UInt8)} {x : Value} {h : Heap} (hI : VS lo hi 1 h x n (l.map strv)) (hn : n ≤ 1048576) (hw : wei l ≤ 1048576) (hro : ro ≤ h.length) :
    Ret Tryd.prog ro X 14 [x] h (.string ⟨⟨jr 0 l⟩⟩) := by
  have hX := hx.n
  have i1 := hI.1
  rw [List.length_map] at i1
  have hjl := jr_le 0 l ⟨by omega, by omega⟩
  refine ret_of (callR_of (hX _ rfl) Tryd.func14 rfl (by kernel_rfl) (Nat.le_of_ble_eq_true rfl) ?_)
  (repeat' first | simp -dsimp (disch := first | omega | assumption | (refine OkS.sto ?_ (by omega); first | assumption | (refine OkS.sto ?_ (by omega); first | assumption | (refine OkS.sto ?_ (by omega); first | assumption | (refine OkS.sto ?_ (by omega); first | assumption | (refine OkS.sto ?_ (by omega); first | assumption | (refine OkS.sto ?_ (by omega); first | assumption)))))) | exact Pfx.refl _ | (apply Pfx.snoc; repeat (first | exact Pfx.refl _ | assumption | apply Pfx.snoc)) | with_unfolding_all exact of_eq_true (eq_true rfl) | (simp only [List.length_append, List.length_cons, List.length_nil]; omega)) only [↓wpre0, ↓wpre1, ↓reduceIte, Int.reduceToNat, Nat.reduceAdd, Nat.reduceMul, Nat.reduceEqDiff, wpost0, wpost1, wpost2, wpost3, wpost4, ite_self, ite_true, ite_false, if_true, if_false, xlen22, bin_lss, xiad22, xld9, sadd_bl, bin_add, fr14, wrap_int, wrap_u8, iteP_yes, iteP_no] | refine iteP_two (fun hc hd => ?_) (fun hc hd => ?_) | refine iteP_intro (fun hc => ?_) (fun hc => ?_))
  refine loop_rounds (fun m e h' => ∃ (i : Nat) (c : Int) (out : List UInt8), m = n - i ∧ i ≤ n ∧ h' = h ∧ e 0 = x ∧ e 3 = .string ⟨⟨out⟩⟩ ∧ e 4 = .int .i64 c ∧ e 5 = .int .i64 i ∧ Jrn l i c out) _ ⟨0, 0, [], rfl, ?_⟩ ?_
  · simp only [updO_at, updO_not, entry_at, List.getD_cons_zero, List.getD_cons_succ, ↓reduceIte, Nat.reduceEqDiff, true_and, and_true]
    exact ⟨by omega, rfl, Jrn.start l⟩
  · rintro m e h' ⟨i, c, out, hm, hle, rfl, g0, g3, g4, g5, hJ⟩
    by_cases hin : i < n
    · have hld := ss_ld hI tsz9 tag9 hin
      have hst := hJ.step (by omega)
      have hlen := hst.le
      have hsl : (sth l i).length ≤ (jl c (sth l i)).length := by rw [jl_len]; omega
      rw [List.length_append] at hlen
      have hc := hJ.1
      have hck := chk_range hc (sth l i)
      have hds := dec_le hck.2
      have a1 : ∀ t, abin Tryd.prog .add t (.string ⟨⟨dec (chk c (sth l i))⟩⟩) (.string ⟨⟨[32]⟩⟩) = some (.string ⟨⟨dec (chk c (sth l i)) ++ [32]⟩⟩) := fun t => sadd_bl (by simp; omega)
      have a2 : ∀ t, abin Tryd.prog .add t (.string ⟨⟨dec (chk c (sth l i)) ++ [32]⟩⟩) (.string ⟨⟨sth l i⟩⟩) = some (.string ⟨⟨dec (chk c (sth l i)) ++ [32] ++ sth l i⟩⟩) := fun t => sadd_bl (by simp; omega)
      have a3 : ∀ t, abin Tryd.prog .add t (.string ⟨⟨dec (chk c (sth l i)) ++ [32] ++ sth l i⟩⟩) (.string ⟨⟨[10]⟩⟩) = some (.string ⟨⟨jl c (sth l i)⟩⟩) := fun t => sadd_bl (by simp; omega)
      have a4 : ∀ t, abin Tryd.prog .add t (.string ⟨⟨out⟩⟩) (.string ⟨⟨jl c (sth l i)⟩⟩) = some (.string ⟨⟨out ++ jl c (sth l i)⟩⟩) := fun t => sadd_bl (by omega)
      (repeat' first | simp -dsimp (disch := first | omega | assumption | (refine OkS.sto ?_ (by omega); first | assumption | (refine OkS.sto ?_ (by omega); first | assumption | (refine OkS.sto ?_ (by omega); first | assumption | (refine OkS.sto ?_ (by omega); first | assumption | (refine OkS.sto ?_ (by omega); first | assumption | (refine OkS.sto ?_ (by omega); first | assumption)))))) | exact Pfx.refl _ | (apply Pfx.snoc; repeat (first | exact Pfx.refl _ | assumption | apply Pfx.snoc)) | with_unfolding_all exact of_eq_true (eq_true rfl) | (simp only [List.length_append, List.length_cons, List.length_nil]; omega)) only [↓wpre0, ↓wpre1, ↓reduceIte, Int.reduceToNat, Nat.reduceAdd, Nat.reduceMul, Nat.reduceEqDiff, wpost0, wpost1, wpost2, wpost3, wpost4, ite_self, ite_true, ite_false, if_true, if_false, xlen22, bin_lss, xiad22, xld9, sadd_bl, bin_add, fr14, wrap_int, wrap_u8, iteP_yes, iteP_no, g0, g3, g4, g5, hI.len Tryd.underlying22, hI.iad Tryd.underlying22 tsz9, Nat.mul_one, Int.toNat_natCast, hld, l01Check_r hx hc, l01Dec_r hx, a1, a2, a3, a4] | refine iteP_two (fun hc hd => ?_) (fun hc hd => ?_) | refine iteP_intro (fun hc => ?_) (fun hc => ?_))
      exact ⟨_, by omega, i + 1, _, _, rfl, by omega, rfl, rfl, rfl, hst⟩
    · have ei : i = n := by omega
      subst ei
      have he : i = l.length := by omega
      subst he
      have ho := hJ.end
      (repeat' first | simp -dsimp (disch := first | omega | assumption | (refine OkS.sto ?_ (by omega); first | assumption | (refine OkS.sto ?_ (by omega); first | assumption | (refine OkS.sto ?_ (by omega); first | assumption | (refine OkS.sto ?_ (by omega); first | assumption | (refine OkS.sto ?_ (by omega); first | assumption | (refine OkS.sto ?_ (by omega); first | assumption)))))) | exact Pfx.refl _ | (apply Pfx.snoc; repeat (first | exact Pfx.refl _ | assumption | apply Pfx.snoc)) | with_unfolding_all exact of_eq_true (eq_true rfl) | (simp only [List.length_append, List.length_cons, List.length_nil]; omega)) only [↓wpre0, ↓wpre1, ↓reduceIte, Int.reduceToNat, Nat.reduceAdd, Nat.reduceMul, Nat.reduceEqDiff, wpost0, wpost1, wpost2, wpost3, wpost4, ite_self, ite_true, ite_false, if_true, if_false, xlen22, bin_lss, xiad22, xld9, sadd_bl, bin_add, fr14, wrap_int, wrap_u8, iteP_yes, iteP_no, g0, g3, g4, g5, hI.len Tryd.underlying22, ho] | refine iteP_two (fun hc hd => ?_) (fun hc hd => ?_) | refine iteP_intro (fun hc => ?_) (fun hc => ?_))
theorem wei_drop {l : List (List UInt8)} {i : Nat} (h : i < l.length) : wei (l.drop i) = (sth l i).length + wei (l.drop (i + 1)) := by
  rw [drop_sth' h, wei]
set_option maxHeartbeats 2000000 in
theorem sJournal_r (hx : XD X) {lo hi n : Nat} {l : List (List UInt8)} {x : Value} {h : Heap} (hI : VS lo hi 1 h x n (l.map strv)) (hn : n ≤ 1048576) (hw : wei l ≤ 1048576) (hro : ro ≤ h.length) :
    Ret Tryd.prog ro X 6 [x] h (.tuple ⟨[.string ⟨⟨jout l⟩⟩, .bool (jgood l)]⟩) := by
  have hX := hx.n
  have i1 := hI.1
  rw [List.length_map] at i1
  have hge := jr_ge 0 l
  have hjl := jr_le 0 l ⟨by omega, by omega⟩
  refine ret_of (callR_of (hX _ rfl) Tryd.func6 rfl (by kernel_rfl) (Nat.le_of_ble_eq_true rfl) ?_)
  (repeat' first | simp -dsimp (disch := first | omega | assumption | (refine OkS.sto ?_ (by omega); first | assumption | (refine OkS.sto ?_ (by omega); first | assumption | (refine OkS.sto ?_ (by omega); first | assumption | (refine OkS.sto ?_ (by omega); first | assumption | (refine OkS.sto ?_ (by omega); first | assumption | (refine OkS.sto ?_ (by omega); first | assumption)))))) | exact Pfx.refl _ | (apply Pfx.snoc; repeat (first | exact Pfx.refl _ | assumption | apply Pfx.snoc)) | with_unfolding_all exact of_eq_true (eq_true rfl) | (simp only [List.length_append, List.length_cons, List.length_nil]; omega)) only [↓wpre0, ↓wpre1, ↓reduceIte, Int.reduceToNat, Nat.reduceAdd, Nat.reduceMul, Nat.reduceEqDiff, wpost0, wpost1, wpost2, wpost3, wpost4, ite_self, ite_true, ite_false, if_true, if_false, xlen22, bin_lss, xiad22, xld9, len_bl Tryd.underlying9, bin_add, bin_gtr, idx_bl Tryd.underlying9, bin_eql, fr6, wrap_int, wrap_u8, iteP_yes, iteP_no] | refine iteP_two (fun hc hd => ?_) (fun hc hd => ?_) | refine iteP_intro (fun hc => ?_) (fun hc => ?_))
  refine loop_rounds (fun m e h' => ∃ (i tot : Nat), m = n - i ∧ i ≤ n ∧ h' = h ∧ e 0 = x ∧ e 4 = .int .i64 tot ∧ e 5 = .int .i64 i ∧ tot + wei (l.drop i) + 3 * (l.drop i).length = wei l + 3 * l.length ∧ ∀ j, j < i → fnd (sth l j) 10 = false) _ ⟨0, 0, rfl, ?_⟩ ?_
  · simp only [updO_at, updO_not, entry_at, List.getD_cons_zero, List.getD_cons_succ, ↓reduceIte, Nat.reduceEqDiff, true_and, and_true]
    exact ⟨by omega, rfl, rfl, by simp, fun j hj => by omega⟩
  · rintro m e h' ⟨i, tot, hm, hle, rfl, g0, g4, g5, ht, hf⟩
    by_cases hin : i < n
    · have hld := ss_ld hI tsz9 tag9 hin
      have hwd := wei_drop (l := l) (i := i) (by omega)
      have hdl : (l.drop i).length = (l.drop (i + 1)).length + 1 := by rw [List.length_drop, List.length_drop]; omega
      have hsn : fnd (sth l i) 10 = true → jgood l = false := fun q => jgood_nl (by omega) q
      generalize hs : sth l i = s at *
      by_cases hlong : tot + (s.length + 3) ≤ 6000
      · (repeat' first | simp -dsimp (disch := first | omega | assumption | (refine OkS.sto ?_ (by omega); first | assumption | (refine OkS.sto ?_ (by omega); first | assumption | (refine OkS.sto ?_ (by omega); first | assumption | (refine OkS.sto ?_ (by omega); first | assumption | (refine OkS.sto ?_ (by omega); first | assumption | (refine OkS.sto ?_ (by omega); first | assumption)))))) | exact Pfx.refl _ | (apply Pfx.snoc; repeat (first | exact Pfx.refl _ | assumption | apply Pfx.snoc)) | with_unfolding_all exact of_eq_true (eq_true rfl) | (simp only [List.length_append, List.length_cons, List.length_nil]; omega)) only [↓wpre0, ↓wpre1, ↓reduceIte, Int.reduceToNat, Nat.reduceAdd, Nat.reduceMul, Nat.reduceEqDiff, wpost0, wpost1, wpost2, wpost3, wpost4, ite_self, ite_true, ite_false, if_true, if_false, xlen22, bin_lss, xiad22, xld9, len_bl Tryd.underlying9, bin_add, bin_gtr, idx_bl Tryd.underlying9, bin_eql, fr6, wrap_int, wrap_u8, iteP_yes, iteP_no, g0, g4, g5, hI.len Tryd.underlying22, hI.iad Tryd.underlying22 tsz9, Nat.mul_one, Int.toNat_natCast, hld] | refine iteP_two (fun hc hd => ?_) (fun hc hd => ?_) | refine iteP_intro (fun hc => ?_) (fun hc => ?_))
        refine loop_rounds (fun k2 e2 h2 => ∃ c : Nat, k2 = s.length - c ∧ c ≤ s.length ∧ h2 = h' ∧ e2 0 = x ∧ e2 4 = .int .i64 ((tot + (s.length + 3) : Nat) : Int) ∧ e2 5 = .int .i64 i ∧ e2 6 = .int .i64 c ∧ (∀ j : Nat, j < c → s[j]? ≠ some 10)) _ ⟨0, rfl, ?_⟩ ?_
        · simp only [updO_at, updO_not, entry_at, List.getD_cons_zero, List.getD_cons_succ, ↓reduceIte, Nat.reduceEqDiff, true_and, and_true]
          exact ⟨by omega, g0, by rw [show (tot : Int) + ((s.length : Int) + 3) = ((tot + (s.length + 3) : Nat) : Int) by omega], g5, rfl, fun j hj => by omega⟩
        · rintro k2 e2 h2 ⟨c, hk2, hc, rfl, f0, f4, f5, f6, hb⟩
          by_cases hcs : c < s.length
          · by_cases hbc : bth s c = 10
            · have hfn : fnd s 10 = true := by
                unfold fnd
                have e1 : s[c]? = some 10 := by
                  rw [List.getElem?_eq_getElem hcs]
                  simp only [bth, List.getD_eq_getElem?_getD, List.getElem?_eq_getElem hcs, Option.getD_some] at hbc
                  congr 1
                  exact UInt8.toNat_inj.1 (by have e : (10 : UInt8).toNat = 10 := rfl; omega)
                rw [idx_eq e1 hb]
                exact decide_eq_true (by omega)
              have hg := hsn hfn
              have ho := jout_no hg
              (repeat' first | simp -dsimp (disch := first | omega | assumption | (refine OkS.sto ?_ (by omega); first | assumption | (refine OkS.sto ?_ (by omega); first | assumption | (refine OkS.sto ?_ (by omega); first | assumption | (refine OkS.sto ?_ (by omega); first | assumption | (refine OkS.sto ?_ (by omega); first | assumption | (refine OkS.sto ?_ (by omega); first | assumption)))))) | exact Pfx.refl _ | (apply Pfx.snoc; repeat (first | exact Pfx.refl _ | assumption | apply Pfx.snoc)) | with_unfolding_all exact of_eq_true (eq_true rfl) | (simp only [List.length_append, List.length_cons, List.length_nil]; omega)) only [↓wpre0, ↓wpre1, ↓reduceIte, Int.reduceToNat, Nat.reduceAdd, Nat.reduceMul, Nat.reduceEqDiff, wpost0, wpost1, wpost2, wpost3, wpost4, ite_self, ite_true, ite_false, if_true, if_false, xlen22, bin_lss, xiad22, xld9, len_bl Tryd.underlying9, bin_add, bin_gtr, idx_bl Tryd.underlying9, bin_eql, fr6, wrap_int, wrap_u8, iteP_yes, iteP_no, f0, f4, f5, f6, hI.len Tryd.underlying22, hI.iad Tryd.underlying22 tsz9, Nat.mul_one, Int.toNat_natCast, hld, hbc, hg, ho] | refine iteP_two (fun hc hd => ?_) (fun hc hd => ?_) | refine iteP_intro (fun hc => ?_) (fun hc => ?_))
            · (repeat' first | simp -dsimp (disch := first | omega | assumption | (refine OkS.sto ?_ (by omega); first | assumption | (refine OkS.sto ?_ (by omega); first | assumption | (refine OkS.sto ?_ (by omega); first | assumption | (refine OkS.sto ?_ (by omega); first | assumption | (refine OkS.sto ?_ (by omega); first | assumption | (refine OkS.sto ?_ (by omega); first | assumption)))))) | exact Pfx.refl _ | (apply Pfx.snoc; repeat (first | exact Pfx.refl _ | assumption | apply Pfx.snoc)) | with_unfolding_all exact of_eq_true (eq_true rfl) | (simp only [List.length_append, List.length_cons, List.length_nil]; omega)) only [↓wpre0, ↓wpre1, ↓reduceIte, Int.reduceToNat, Nat.reduceAdd, Nat.reduceMul, Nat.reduceEqDiff, wpost0, wpost1, wpost2, wpost3, wpost4, ite_self, ite_true, ite_false, if_true, if_false, xlen22, bin_lss, xiad22, xld9, len_bl Tryd.underlying9, bin_add, bin_gtr, idx_bl Tryd.underlying9, bin_eql, fr6, wrap_int, wrap_u8, iteP_yes, iteP_no, f0, f4, f5, f6, hI.len Tryd.underlying22, hI.iad Tryd.underlying22 tsz9, Nat.mul_one, Int.toNat_natCast, hld, hbc] | refine iteP_two (fun hc hd => ?_) (fun hc hd => ?_) | refine iteP_intro (fun hc => ?_) (fun hc => ?_))
              refine ⟨_, by omega, c + 1, rfl, by omega, rfl, fun j hj q => ?_⟩
              by_cases ej2 : j = c
              · subst ej2
                apply hbc
                simp [bth, List.getD_eq_getElem?_getD, q]
              · exact hb j (by omega) q
          · have hfn : fnd s 10 = false := by
              unfold fnd
              rw [idx_neg fun k q => hb k (by have := (List.getElem?_eq_some_iff.1 q).1; omega) q]
              rfl
            (repeat' first | simp -dsimp (disch := first | omega | assumption | (refine OkS.sto ?_ (by omega); first | assumption | (refine OkS.sto ?_ (by omega); first | assumption | (refine OkS.sto ?_ (by omega); first | assumption | (refine OkS.sto ?_ (by omega); first | assumption | (refine OkS.sto ?_ (by omega); first | assumption | (refine OkS.sto ?_ (by omega); first | assumption)))))) | exact Pfx.refl _ | (apply Pfx.snoc; repeat (first | exact Pfx.refl _ | assumption | apply Pfx.snoc)) | with_unfolding_all exact of_eq_true (eq_true rfl) | (simp only [List.length_append, List.length_cons, List.length_nil]; omega)) only [↓wpre0, ↓wpre1, ↓reduceIte, Int.reduceToNat, Nat.reduceAdd, Nat.reduceMul, Nat.reduceEqDiff, wpost0, wpost1, wpost2, wpost3, wpost4, ite_self, ite_true, ite_false, if_true, if_false, xlen22, bin_lss, xiad22, xld9, len_bl Tryd.underlying9, bin_add, bin_gtr, idx_bl Tryd.underlying9, bin_eql, fr6, wrap_int, wrap_u8, iteP_yes, iteP_no, f0, f4, f5, f6, hI.len Tryd.underlying22, hI.iad Tryd.underlying22 tsz9, Nat.mul_one, Int.toNat_natCast, hld] | refine iteP_two (fun hc hd => ?_) (fun hc hd => ?_) | refine iteP_intro (fun hc => ?_) (fun hc => ?_))
            refine ⟨_, by omega, i + 1, tot + (s.length + 3), rfl, by omega, rfl, rfl, by omega, fun j hj => ?_⟩
            by_cases ej2 : j = i
            · subst ej2; rw [hs]; exact hfn
            · exact hf j (by omega)
      · have hg : jgood l = false := jgood_long (by omega)
        have ho := jout_no hg
        (repeat' first | simp -dsimp (disch := first | omega | assumption | (refine OkS.sto ?_ (by omega); first | assumption | (refine OkS.sto ?_ (by omega); first | assumption | (refine OkS.sto ?_ (by omega); first | assumption | (refine OkS.sto ?_ (by omega); first | assumption | (refine OkS.sto ?_ (by omega); first | assumption | (refine OkS.sto ?_ (by omega); first | assumption)))))) | exact Pfx.refl _ | (apply Pfx.snoc; repeat (first | exact Pfx.refl _ | assumption | apply Pfx.snoc)) | with_unfolding_all exact of_eq_true (eq_true rfl) | (simp only [List.length_append, List.length_cons, List.length_nil]; omega)) only [↓wpre0, ↓wpre1, ↓reduceIte, Int.reduceToNat, Nat.reduceAdd, Nat.reduceMul, Nat.reduceEqDiff, wpost0, wpost1, wpost2, wpost3, wpost4, ite_self, ite_true, ite_false, if_true, if_false, xlen22, bin_lss, xiad22, xld9, len_bl Tryd.underlying9, bin_add, bin_gtr, idx_bl Tryd.underlying9, bin_eql, fr6, wrap_int, wrap_u8, iteP_yes, iteP_no, g0, g4, g5, hI.len Tryd.underlying22, hI.iad Tryd.underlying22 tsz9, Nat.mul_one, Int.toNat_natCast, hld, hg, ho] | refine iteP_two (fun hc hd => ?_) (fun hc hd => ?_) | refine iteP_intro (fun hc => ?_) (fun hc => ?_))
    · have hJ := l11Journal_r (ro := ro) hx hI hn hw hro
      have hf' : ∀ i, i < l.length → fnd (sth l i) 10 = false := fun j hj => hf j (by omega)
      by_cases hl6 : (jr 0 l).length ≤ 6000
      · have hg := jgood_yes hf' hl6
        have ho := jout_yes hg
        (repeat' first | simp -dsimp (disch := first | omega | assumption | (refine OkS.sto ?_ (by omega); first | assumption | (refine OkS.sto ?_ (by omega); first | assumption | (refine OkS.sto ?_ (by omega); first | assumption | (refine OkS.sto ?_ (by omega); first | assumption | (refine OkS.sto ?_ (by omega); first | assumption | (refine OkS.sto ?_ (by omega); first | assumption)))))) | exact Pfx.refl _ | (apply Pfx.snoc; repeat (first | exact Pfx.refl _ | assumption | apply Pfx.snoc)) | with_unfolding_all exact of_eq_true (eq_true rfl) | (simp only [List.length_append, List.length_cons, List.length_nil]; omega)) only [↓wpre0, ↓wpre1, ↓reduceIte, Int.reduceToNat, Nat.reduceAdd, Nat.reduceMul, Nat.reduceEqDiff, wpost0, wpost1, wpost2, wpost3, wpost4, ite_self, ite_true, ite_false, if_true, if_false, xlen22, bin_lss, xiad22, xld9, len_bl Tryd.underlying9, bin_add, bin_gtr, idx_bl Tryd.underlying9, bin_eql, fr6, wrap_int, wrap_u8, iteP_yes, iteP_no, g0, g4, g5, hI.len Tryd.underlying22, hJ, hg, ho] | refine iteP_two (fun hc hd => ?_) (fun hc hd => ?_) | refine iteP_intro (fun hc => ?_) (fun hc => ?_))
      · have hg : jgood l = false := jgood_long (by omega)
        have ho := jout_no hg
        (repeat' first | simp -dsimp (disch := first | omega | assumption | (refine OkS.sto ?_ (by omega); first | assumption | (refine OkS.sto ?_ (by omega); first | assumption | (refine OkS.sto ?_ (by omega); first | assumption | (refine OkS.sto ?_ (by omega); first | assumption | (refine OkS.sto ?_ (by omega); first | assumption | (refine OkS.sto ?_ (by omega); first | assumption)))))) | exact Pfx.refl _ | (apply Pfx.snoc; repeat (first | exact Pfx.refl _ | assumption | apply Pfx.snoc)) | with_unfolding_all exact of_eq_true (eq_true rfl) | (simp only [List.length_append, List.length_cons, List.length_nil]; omega)) only [↓wpre0, ↓wpre1, ↓reduceIte, Int.reduceToNat, Nat.reduceAdd, Nat.reduceMul, Nat.reduceEqDiff, wpost0, wpost1, wpost2, wpost3, wpost4, ite_self, ite_true, ite_false, if_true, if_false, xlen22, bin_lss, xiad22, xld9, len_bl Tryd.underlying9, bin_add, bin_gtr, idx_bl Tryd.underlying9, bin_eql, fr6, wrap_int, wrap_u8, iteP_yes, iteP_no, g0, g4, g5, hI.len Tryd.underlying22, hJ, hg, ho] | refine iteP_two (fun hc hd => ?_) (fun hc hd => ?_) | refine iteP_intro (fun hc => ?_) (fun hc => ?_))
end Go.Proofs.YtbakaopgdcojfaaDoor.Sim
