/- The law FnExactJournalOf on the abstract machine. Lemmas only; no condition. -/
import Derived.Test.YtbakaopgdcojfaaDoorDsd
import Derived.Test.YtbakaopgdcojfaaDoorArg
set_option linter.unusedSimpArgs false
set_option linter.unusedVariables false
set_option maxRecDepth 8000
namespace Go.Proofs.YtbakaopgdcojfaaDoor.Sim
open Go Go.RowKit Go.ChangeShapes Go.WideShapes Go.Deep
variable {ro : Nat} {X : Ext}
theorem ArgS.vs {P : Program} {w : World} {v : Value} {n k : Nat} {L : List Value} {aS : AS} {x : Nat → Value} (a : ArgS P w v n L aS x) (hl : L.length = n * k) {h : Heap} {b : Nat} (hb : h[b]? = some ⟨0, aS.L⟩) : VS b (b + 1) k h (x b) n L := by
  refine ⟨hl, ?_⟩
  rcases a.form with ⟨h0, hx⟩ | hx
  · exact .inl ⟨h0, hx b⟩
  · rw [a.cells] at hb
    exact .inr ⟨b, 0, n + 1, _, hx b, Nat.le_refl _, by omega, hb, by simp only [hl]; omega, fun j hj => by rw [Nat.zero_add]; exact vth_get (show j < L.length by omega)⟩
theorem strs_of {L : List Value} (h : ∀ v ∈ L, ∃ b : List UInt8, v = strv b) : ∃ l : List (List UInt8), L = l.map strv := by
  induction L with
  | nil => exact ⟨[], rfl⟩
  | cons v r ih =>
    obtain ⟨n, rfl⟩ := h _ (List.mem_cons_self ..)
    obtain ⟨l, rfl⟩ := ih fun v hv => h v (List.mem_cons_of_mem _ hv)
    exact ⟨n :: l, rfl⟩
theorem arg_strs {H : Type} {enc : TypeId × Value → H} {P : Program} {w : World} {held : Bool} {t e : TypeId} {r : Reach} {b0 : Nat} {v : Value} {d : DataW H} {ps : List MemPlace} (hu : P.underlying t = some (.slice e)) (he : P.underlying e = some .string) (hk : P.cellsOf e = 1)
    (hval : Value.okWide P w r b0 t v) (h : DataW.Trod enc P w 0 (fun _ => true) held t v d ps) :
    ∃ (n : Nat) (l : List (List UInt8)) (aS : AS) (x : Nat → Value), ArgS P w v n (l.map strv) aS x ∧ l.length = n ∧ (n = 0 ∨ ∃ elems sp, d = .slice elems sp ∧ elems.length = n) ∧ ∀ s ∈ l, s.length ≤ 9223372036854775807 := by
  obtain ⟨n, L, aS, x, h1, h2, h3, h4⟩ := arg_slice hu hk (by decide) (fun v => ∃ b : List UInt8, v = strv b ∧ b.length ≤ 9223372036854775807) (fun v ⟨n, h, _⟩ => by rw [h]; rfl) (fun fuel cs x h j v hv => by
    obtain ⟨s, rfl, _, hw⟩ := DataW.trod_string he h
    match j, hv with
    | 0, hv =>
      simp only [List.getElem?_cons_zero, Option.some.injEq] at hv
      subst hv
      exact ⟨s.data.toList, rfl, by rw [Array.length_toList]; exact Nat.le_trans hw (by decide)⟩
    | j + 1, hv => simp at hv) hval h
  obtain ⟨l, rfl⟩ := strs_of fun v hv => (h3 v hv).imp fun b hb => hb.1
  refine ⟨n, l, aS, x, h1, by rw [← Nat.mul_one n, ← h2, List.length_map], h4, fun s hs => ?_⟩
  obtain ⟨b, hb, hl⟩ := h3 (strv s) (List.mem_map_of_mem hs)
  have : s = b := by
    simp only [strv, Value.string.injEq, ByteArray.mk.injEq, Array.mk.injEq] at hb
    exact hb
  rw [this]
  exact hl
theorem wei_app (a b : List (List UInt8)) : wei (a ++ b) = wei a + wei b := by
  induction a with
  | nil => simp [wei]
  | cons s r ih => simp only [List.cons_append, wei, ih]; omega
theorem wei_take_le (l : List (List UInt8)) (i : Nat) : wei (l.take i) ≤ wei l := by
  have := wei_app (l.take i) (l.drop i)
  rw [List.take_append_drop] at this
  omega
theorem szStringS_r (hx : XD X) {lo hi n : Nat} {l : List (List UInt8)} {x : Value} {h : Heap} {c : Nat} (hI : VS lo hi 1 h x n (l.map strv)) (hn : n ≤ 140737488355328) (hs : ∀ s ∈ l, s.length ≤ 9223372036854775807) (hc1 : c ≤ 1152921504606846976) : Ret Tryd.prog ro X 5 [x, .int .i64 c] h (.int .i64 (if n + wei l ≤ c then ((c - n - wei l : Nat) : Int) else -1)) := by
  have hX := hx.n
  have i1 := hI.1
  rw [List.length_map] at i1
  refine ret_of (callR_of (hX _ rfl) Tryd.func5 rfl (by kernel_rfl) (Nat.le_of_ble_eq_true rfl) ?_)
  by_cases hnc : n ≤ c
  · (repeat' first | simp -dsimp (disch := first | omega | assumption | (refine OkS.sto ?_ (by omega); first | assumption | (refine OkS.sto ?_ (by omega); first | assumption | (refine OkS.sto ?_ (by omega); first | assumption | (refine OkS.sto ?_ (by omega); first | assumption | (refine OkS.sto ?_ (by omega); first | assumption | (refine OkS.sto ?_ (by omega); first | assumption)))))) | exact Pfx.refl _ | (apply Pfx.snoc; repeat (first | exact Pfx.refl _ | assumption | apply Pfx.snoc)) | with_unfolding_all exact of_eq_true (eq_true rfl) | (simp only [List.length_append, List.length_cons, List.length_nil]; omega)) only [↓wpre0, ↓wpre1, ↓reduceIte, Int.reduceToNat, Nat.reduceAdd, Nat.reduceMul, Nat.reduceEqDiff, wpost0, wpost1, wpost2, wpost3, wpost4, ite_self, ite_true, ite_false, if_true, if_false, xlen22, bin_sub, bin_lss, xiad22, xld9, len_bl Tryd.underlying9, bin_add, fr5, wrap_int, wrap_u8, iteP_yes, iteP_no, hI.len Tryd.underlying22] | refine iteP_two (fun hc hd => ?_) (fun hc hd => ?_) | refine iteP_intro (fun hc => ?_) (fun hc => ?_))
    refine loop_rounds (fun m e h' => ∃ i : Nat, m = n - i ∧ i ≤ n ∧ h' = h ∧ e 0 = x ∧ e 1 = .int .i64 ((c - n - wei (l.take i) : Nat) : Int) ∧ e 5 = .int .i64 i ∧ n + wei (l.take i) ≤ c) _ ⟨0, rfl, ?_⟩ ?_
    · simp only [updO_at, updO_not, entry_at, List.getD_cons_zero, List.getD_cons_succ, ↓reduceIte, Nat.reduceEqDiff, true_and, and_true]
      rw [List.take_zero]
      refine ⟨by omega, ?_, rfl, by simp [wei]; omega⟩
      congr 1
      simp only [wei]
      omega
    · rintro m e h' ⟨i, hm, hle, rfl, g0, g1, g5, hw⟩
      by_cases hin : i < n
      · have hld := ss_ld hI tsz9 tag9 hin
        have hwe := wei_snoc l (i := i) (by omega)
        have hsl := hs _ (sth_memD (l := l) (i := i) (by omega))
        by_cases hf : n + wei (l.take (i + 1)) ≤ c
        · (repeat' first | simp -dsimp (disch := first | omega | assumption | (refine OkS.sto ?_ (by omega); first | assumption | (refine OkS.sto ?_ (by omega); first | assumption | (refine OkS.sto ?_ (by omega); first | assumption | (refine OkS.sto ?_ (by omega); first | assumption | (refine OkS.sto ?_ (by omega); first | assumption | (refine OkS.sto ?_ (by omega); first | assumption)))))) | exact Pfx.refl _ | (apply Pfx.snoc; repeat (first | exact Pfx.refl _ | assumption | apply Pfx.snoc)) | with_unfolding_all exact of_eq_true (eq_true rfl) | (simp only [List.length_append, List.length_cons, List.length_nil]; omega)) only [↓wpre0, ↓wpre1, ↓reduceIte, Int.reduceToNat, Nat.reduceAdd, Nat.reduceMul, Nat.reduceEqDiff, wpost0, wpost1, wpost2, wpost3, wpost4, ite_self, ite_true, ite_false, if_true, if_false, xlen22, bin_sub, bin_lss, xiad22, xld9, len_bl Tryd.underlying9, bin_add, fr5, wrap_int, wrap_u8, iteP_yes, iteP_no, g0, g1, g5, hI.len Tryd.underlying22, hI.iad Tryd.underlying22 tsz9, Nat.mul_one, Int.toNat_natCast, hld] | refine iteP_two (fun hc hd => ?_) (fun hc hd => ?_) | refine iteP_intro (fun hc => ?_) (fun hc => ?_))
          refine ⟨_, by omega, i + 1, rfl, by omega, ?_, rfl, hf⟩
          congr 1
          omega
        · (repeat' first | simp -dsimp (disch := first | omega | assumption | (refine OkS.sto ?_ (by omega); first | assumption | (refine OkS.sto ?_ (by omega); first | assumption | (refine OkS.sto ?_ (by omega); first | assumption | (refine OkS.sto ?_ (by omega); first | assumption | (refine OkS.sto ?_ (by omega); first | assumption | (refine OkS.sto ?_ (by omega); first | assumption)))))) | exact Pfx.refl _ | (apply Pfx.snoc; repeat (first | exact Pfx.refl _ | assumption | apply Pfx.snoc)) | with_unfolding_all exact of_eq_true (eq_true rfl) | (simp only [List.length_append, List.length_cons, List.length_nil]; omega)) only [↓wpre0, ↓wpre1, ↓reduceIte, Int.reduceToNat, Nat.reduceAdd, Nat.reduceMul, Nat.reduceEqDiff, wpost0, wpost1, wpost2, wpost3, wpost4, ite_self, ite_true, ite_false, if_true, if_false, xlen22, bin_sub, bin_lss, xiad22, xld9, len_bl Tryd.underlying9, bin_add, fr5, wrap_int, wrap_u8, iteP_yes, iteP_no, g0, g1, g5, hI.len Tryd.underlying22, hI.iad Tryd.underlying22 tsz9, Nat.mul_one, Int.toNat_natCast, hld] | refine iteP_two (fun hc hd => ?_) (fun hc hd => ?_) | refine iteP_intro (fun hc => ?_) (fun hc => ?_))
          have := wei_take_le l (i + 1)
          rw [if_neg (by omega)]
      · have ei : i = n := by omega
        have hta : l.take i = l := List.take_of_length_le (by omega)
        rw [hta] at g1 hw
        (repeat' first | simp -dsimp (disch := first | omega | assumption | (refine OkS.sto ?_ (by omega); first | assumption | (refine OkS.sto ?_ (by omega); first | assumption | (refine OkS.sto ?_ (by omega); first | assumption | (refine OkS.sto ?_ (by omega); first | assumption | (refine OkS.sto ?_ (by omega); first | assumption | (refine OkS.sto ?_ (by omega); first | assumption)))))) | exact Pfx.refl _ | (apply Pfx.snoc; repeat (first | exact Pfx.refl _ | assumption | apply Pfx.snoc)) | with_unfolding_all exact of_eq_true (eq_true rfl) | (simp only [List.length_append, List.length_cons, List.length_nil]; omega)) only [↓wpre0, ↓wpre1, ↓reduceIte, Int.reduceToNat, Nat.reduceAdd, Nat.reduceMul, Nat.reduceEqDiff, wpost0, wpost1, wpost2, wpost3, wpost4, ite_self, ite_true, ite_false, if_true, if_false, xlen22, bin_sub, bin_lss, xiad22, xld9, len_bl Tryd.underlying9, bin_add, fr5, wrap_int, wrap_u8, iteP_yes, iteP_no, g0, g1, g5, hI.len Tryd.underlying22] | refine iteP_two (fun hc hd => ?_) (fun hc hd => ?_) | refine iteP_intro (fun hc => ?_) (fun hc => ?_))
        rw [if_pos hw]
  · (repeat' first | simp -dsimp (disch := first | omega | assumption | (refine OkS.sto ?_ (by omega); first | assumption | (refine OkS.sto ?_ (by omega); first | assumption | (refine OkS.sto ?_ (by omega); first | assumption | (refine OkS.sto ?_ (by omega); first | assumption | (refine OkS.sto ?_ (by omega); first | assumption | (refine OkS.sto ?_ (by omega); first | assumption)))))) | exact Pfx.refl _ | (apply Pfx.snoc; repeat (first | exact Pfx.refl _ | assumption | apply Pfx.snoc)) | with_unfolding_all exact of_eq_true (eq_true rfl) | (simp only [List.length_append, List.length_cons, List.length_nil]; omega)) only [↓wpre0, ↓wpre1, ↓reduceIte, Int.reduceToNat, Nat.reduceAdd, Nat.reduceMul, Nat.reduceEqDiff, wpost0, wpost1, wpost2, wpost3, wpost4, ite_self, ite_true, ite_false, if_true, if_false, xlen22, bin_sub, bin_lss, xiad22, xld9, len_bl Tryd.underlying9, bin_add, fr5, wrap_int, wrap_u8, iteP_yes, iteP_no, hI.len Tryd.underlying22] | refine iteP_two (fun hc hd => ?_) (fun hc hd => ?_) | refine iteP_intro (fun hc => ?_) (fun hc => ?_))
    rw [if_neg (by omega)]
theorem mk_strs {h : Heap} {k1 k2 : IntKind} {n : Nat} (h1 : n ≤ 1099511627776) : mk Tryd.prog h 22 (.int k1 n) (.int k2 n) = some (.slice (some ⟨h.length, 0, none⟩) n n, h ++ [⟨9, (List.replicate n ([] : List UInt8)).map strv⟩]) := by
  simp only [mk, tel22, tsz9, tby9, tze9, Option.bind_some]
  rw [if_pos ⟨by omega, trivial, by omega, by omega, by decide⟩]
  have e : cellsOf (Value.string ⟨#[]⟩) = [strv []] := rfl
  simp only [Int.toNat_natCast, e, List.map_replicate]
  have e2 : ∀ k : Nat, (List.replicate k [strv []]).flatten = List.replicate k (strv []) := by
    intro k
    induction k with
    | zero => rfl
    | succ k ih => rw [List.replicate_succ, List.flatten_cons, ih]; rfl
  rw [e2]
theorem toStringS_c (hx : XD X) {lo hi n : Nat} {l : List (List UInt8)} {x : Value} {h : Heap} (hI : VS lo hi 1 h x n (l.map strv)) (hn : n ≤ 1048576) (hro : ro ≤ h.length) :
    CallR Tryd.prog ro X 7 [x] h (fun r h' => Pfx h h' ∧ h'.length = h.length + 1 ∧ VS h.length (h.length + 1) 1 h' r n (l.map strv)) := by
  have hX := hx.n
  have i1 := hI.1
  rw [List.length_map] at i1
  refine callR_of (hX _ rfl) Tryd.func7 rfl (by kernel_rfl) (Nat.le_of_ble_eq_true rfl) ?_
  (repeat' first | simp -dsimp (disch := first | omega | assumption | (refine OkS.sto ?_ (by omega); first | assumption | (refine OkS.sto ?_ (by omega); first | assumption | (refine OkS.sto ?_ (by omega); first | assumption | (refine OkS.sto ?_ (by omega); first | assumption | (refine OkS.sto ?_ (by omega); first | assumption | (refine OkS.sto ?_ (by omega); first | assumption)))))) | exact Pfx.refl _ | (apply Pfx.snoc; repeat (first | exact Pfx.refl _ | assumption | apply Pfx.snoc)) | with_unfolding_all exact of_eq_true (eq_true rfl) | (simp only [List.length_append, List.length_cons, List.length_nil]; omega)) only [↓wpre0, ↓wpre1, ↓reduceIte, Int.reduceToNat, Nat.reduceAdd, Nat.reduceMul, Nat.reduceEqDiff, wpost0, wpost1, wpost2, wpost3, wpost4, ite_self, ite_true, ite_false, if_true, if_false, xlen22, bin_lss, xiad22, xld9, xst9, bin_add, fr7, wrap_int, wrap_u8, iteP_yes, iteP_no, hI.len Tryd.underlying22, mk_strs] | refine iteP_two (fun hc hd => ?_) (fun hc hd => ?_) | refine iteP_intro (fun hc => ?_) (fun hc => ?_))
  have hJ : VS h.length (h.length + 1) 1 (h ++ [⟨9, (List.replicate n ([] : List UInt8)).map strv⟩]) (.slice (some ⟨h.length, 0, none⟩) n n) n ((List.replicate n ([] : List UInt8)).map strv) := (vg_lit (k := 1) (n := n) h (Nat.le_refl _) (by simp)).vs
  generalize hr : Value.slice (some ⟨h.length, 0, none⟩) n n = r at hJ
  refine loop_rounds (fun m e h' => ∃ i : Nat, m = n - i ∧ i ≤ n ∧ VS h.length (h.length + 1) 1 h' r n ((l.take i ++ List.replicate (n - i) []).map strv) ∧ Only h.length (h ++ [⟨9, (List.replicate n ([] : List UInt8)).map strv⟩]) h' ∧ e 0 = x ∧ e 3 = r ∧ e 4 = .int .i64 i) _ ⟨0, rfl, ?_⟩ ?_
  · simp only [updO_at, updO_not, entry_at, List.getD_cons_zero, List.getD_cons_succ, ↓reduceIte, Nat.reduceEqDiff, true_and, and_true]
    exact ⟨by omega, by simpa using hJ, .refl _ _, rfl⟩
  · rintro m e h' ⟨i, hm, hle, hI2, ho, g0, g3, g4⟩
    have hlen : h'.length = h.length + 1 := by rw [ho.1]; simp
    have hpx : Pfx h h' := by
      have e1 : h'.take h.length = h := by
        refine List.ext_getElem? fun j => ?_
        rw [List.getElem?_take]
        by_cases q : j < h.length
        · rw [if_pos q, ho.2 j (by omega), List.getElem?_append_left q]
        · rw [if_neg q, List.getElem?_eq_none (by omega)]
      exact e1
    have hI' := hI.pre hpx
    by_cases hin : i < n
    · have hld := ss_ld hI' tsz9 tag9 hin
      have st := hI2.stv (P := Tryd.prog) (ro := ro) (t := 9) (c := i) (v := .string ⟨⟨sth l i⟩⟩) tsz9 hro rfl rfl (by omega)
      (repeat' first | simp -dsimp (disch := first | omega | assumption | (refine OkS.sto ?_ (by omega); first | assumption | (refine OkS.sto ?_ (by omega); first | assumption | (refine OkS.sto ?_ (by omega); first | assumption | (refine OkS.sto ?_ (by omega); first | assumption | (refine OkS.sto ?_ (by omega); first | assumption | (refine OkS.sto ?_ (by omega); first | assumption)))))) | exact Pfx.refl _ | (apply Pfx.snoc; repeat (first | exact Pfx.refl _ | assumption | apply Pfx.snoc)) | with_unfolding_all exact of_eq_true (eq_true rfl) | (simp only [List.length_append, List.length_cons, List.length_nil]; omega)) only [↓wpre0, ↓wpre1, ↓reduceIte, Int.reduceToNat, Nat.reduceAdd, Nat.reduceMul, Nat.reduceEqDiff, wpost0, wpost1, wpost2, wpost3, wpost4, ite_self, ite_true, ite_false, if_true, if_false, xlen22, bin_lss, xiad22, xld9, xst9, bin_add, fr7, wrap_int, wrap_u8, iteP_yes, iteP_no, g0, g3, g4, hI'.len Tryd.underlying22, hI'.iad Tryd.underlying22 tsz9, hI2.iad Tryd.underlying22 tsz9, Nat.mul_one, Int.toNat_natCast, hld, st] | refine iteP_two (fun hc hd => ?_) (fun hc hd => ?_) | refine iteP_intro (fun hc => ?_) (fun hc => ?_))
      refine ⟨_, by omega, i + 1, rfl, by omega, ?_, ho.trans ?_, rfl⟩
      · have s1 := hI2.sto (c := i) (by omega) (.string ⟨⟨sth l i⟩⟩)
        have e2 : ((l.take i ++ List.replicate (n - i) []).map strv).set i (.string ⟨⟨sth l i⟩⟩) = (l.take (i + 1) ++ List.replicate (n - (i + 1)) []).map strv := by
          have hlt : i < l.length := by omega
          rw [List.map_append, List.map_append, List.set_append, if_neg (by simp; omega), List.take_succ_eq_append_getElem hlt, List.map_append, List.append_assoc]
          rw [show n - i = (n - (i + 1)) + 1 by omega, List.replicate_succ]
          rw [show i - (List.map strv (List.take i l)).length = 0 by simp; omega]
          simp [strv, sth, hlt]
        rw [e2] at s1
        exact s1
      · have := only_sto h' r i (.string ⟨⟨sth l i⟩⟩)
        rw [show bOf r = h.length by rw [← hr]; rfl] at this
        exact this
    · have ei : i = n := by omega
      subst ei
      have hnf : Sim.flat r = false := by rw [← hr]; rfl
      (repeat' first | simp -dsimp (disch := first | omega | assumption | (refine OkS.sto ?_ (by omega); first | assumption | (refine OkS.sto ?_ (by omega); first | assumption | (refine OkS.sto ?_ (by omega); first | assumption | (refine OkS.sto ?_ (by omega); first | assumption | (refine OkS.sto ?_ (by omega); first | assumption | (refine OkS.sto ?_ (by omega); first | assumption)))))) | exact Pfx.refl _ | (apply Pfx.snoc; repeat (first | exact Pfx.refl _ | assumption | apply Pfx.snoc)) | with_unfolding_all exact of_eq_true (eq_true rfl) | (simp only [List.length_append, List.length_cons, List.length_nil]; omega)) only [↓wpre0, ↓wpre1, ↓reduceIte, Int.reduceToNat, Nat.reduceAdd, Nat.reduceMul, Nat.reduceEqDiff, wpost0, wpost1, wpost2, wpost3, wpost4, ite_self, ite_true, ite_false, if_true, if_false, xlen22, bin_lss, xiad22, xld9, xst9, bin_add, fr7, wrap_int, wrap_u8, iteP_yes, iteP_no, g0, g3, g4, hI'.len Tryd.underlying22, endH_not hnf] | refine iteP_two (fun hc hd => ?_) (fun hc hd => ?_) | refine iteP_intro (fun hc => ?_) (fun hc => ?_))
      refine ⟨hpx, hlen, ?_⟩
      rw [Nat.sub_self, List.replicate_zero, List.append_nil, List.take_of_length_le (by omega)] at hI2
      exact hI2
set_option maxHeartbeats 4000000 in
theorem lawJournal_c (hE : XE ro X) {lo hi n : Nat} {l : List (List UInt8)} {x : Value} {h : Heap} (hI : VS lo hi 1 h x n (l.map strv)) (hn0 : n ≤ 140737488355328) (hs : ∀ s ∈ l, s.length ≤ 9223372036854775807) (hro : ro ≤ h.length) :
    CallR Tryd.prog ro X 3 [x] h (fun r h' => r = .bool true) := by
  have hx := hE.d
  have hX := hx.n
  have i1 := hI.1
  rw [List.length_map] at i1
  refine callR_of (hX _ rfl) Tryd.func3 rfl (by kernel_rfl) (Nat.le_of_ble_eq_true rfl) ?_
  have sz : Ret Tryd.prog ro X 5 [x, .int .i64 1048576] h (.int .i64 (if n + wei l ≤ 1048576 then ((1048576 - n - wei l : Nat) : Int) else -1)) := szStringS_r (ro := ro) (c := 1048576) hx hI hn0 hs (by decide)
  by_cases hw : n + wei l ≤ 1048576
  · rw [if_pos hw] at sz
    (repeat' first | simp -dsimp (disch := first | omega | assumption | (refine OkS.sto ?_ (by omega); first | assumption | (refine OkS.sto ?_ (by omega); first | assumption | (refine OkS.sto ?_ (by omega); first | assumption | (refine OkS.sto ?_ (by omega); first | assumption | (refine OkS.sto ?_ (by omega); first | assumption | (refine OkS.sto ?_ (by omega); first | assumption)))))) | exact Pfx.refl _ | (apply Pfx.snoc; repeat (first | exact Pfx.refl _ | assumption | apply Pfx.snoc)) | with_unfolding_all exact of_eq_true (eq_true rfl) | (simp only [List.length_append, List.length_cons, List.length_nil]; omega)) only [↓wpre0, ↓wpre1, ↓reduceIte, Int.reduceToNat, Nat.reduceAdd, Nat.reduceMul, Nat.reduceEqDiff, wpost0, wpost1, wpost2, wpost3, wpost4, ite_self, ite_true, ite_false, if_true, if_false, bin_lss, sneq_bl, xbneq4, un_not, fr3, wrap_int, wrap_u8, iteP_yes, iteP_no, sz] | refine iteP_two (fun hc hd => ?_) (fun hc hd => ?_) | refine iteP_intro (fun hc => ?_) (fun hc => ?_))
    refine cf_rel (toStringS_c (ro := ro) hx hI (by omega) hro) (fun q => by cases q) ?_
    rintro r h1 ⟨p1, l1, V1⟩
    have sj := sJournal_r (ro := ro) (X := X) hx V1 (by omega) (by omega) (by omega)
    (repeat' first | simp -dsimp (disch := first | omega | assumption | (refine OkS.sto ?_ (by omega); first | assumption | (refine OkS.sto ?_ (by omega); first | assumption | (refine OkS.sto ?_ (by omega); first | assumption | (refine OkS.sto ?_ (by omega); first | assumption | (refine OkS.sto ?_ (by omega); first | assumption | (refine OkS.sto ?_ (by omega); first | assumption)))))) | exact Pfx.refl _ | (apply Pfx.snoc; repeat (first | exact Pfx.refl _ | assumption | apply Pfx.snoc)) | with_unfolding_all exact of_eq_true (eq_true rfl) | (simp only [List.length_append, List.length_cons, List.length_nil]; omega)) only [↓wpre0, ↓wpre1, ↓reduceIte, Int.reduceToNat, Nat.reduceAdd, Nat.reduceMul, Nat.reduceEqDiff, wpost0, wpost1, wpost2, wpost3, wpost4, ite_self, ite_true, ite_false, if_true, if_false, bin_lss, sneq_bl, xbneq4, un_not, fr3, wrap_int, wrap_u8, iteP_yes, iteP_no, sj] | refine iteP_two (fun hc hd => ?_) (fun hc hd => ?_) | refine iteP_intro (fun hc => ?_) (fun hc => ?_))
    refine cf_rel (toStringS_c (ro := ro) hx (hI.pre p1) (by omega) (by omega)) (fun q => by cases q) ?_
    rintro r2 h2 ⟨p2, l2, V2⟩
    (repeat' first | simp -dsimp (disch := first | omega | assumption | (refine OkS.sto ?_ (by omega); first | assumption | (refine OkS.sto ?_ (by omega); first | assumption | (refine OkS.sto ?_ (by omega); first | assumption | (refine OkS.sto ?_ (by omega); first | assumption | (refine OkS.sto ?_ (by omega); first | assumption | (refine OkS.sto ?_ (by omega); first | assumption)))))) | exact Pfx.refl _ | (apply Pfx.snoc; repeat (first | exact Pfx.refl _ | assumption | apply Pfx.snoc)) | with_unfolding_all exact of_eq_true (eq_true rfl) | (simp only [List.length_append, List.length_cons, List.length_nil]; omega)) only [↓wpre0, ↓wpre1, ↓reduceIte, Int.reduceToNat, Nat.reduceAdd, Nat.reduceMul, Nat.reduceEqDiff, wpost0, wpost1, wpost2, wpost3, wpost4, ite_self, ite_true, ite_false, if_true, if_false, bin_lss, sneq_bl, xbneq4, un_not, fr3, wrap_int, wrap_u8, iteP_yes, iteP_no] | refine iteP_two (fun hc hd => ?_) (fun hc hd => ?_) | refine iteP_intro (fun hc => ?_) (fun hc => ?_))
    refine cf_rel (iJournal_c (ro := ro) hE V2 (by omega) (by omega) (by omega)) (fun q => by cases q) ?_
    rintro r3 h3 ⟨rfl, rfl⟩
    (repeat' first | simp -dsimp (disch := first | omega | assumption | (refine OkS.sto ?_ (by omega); first | assumption | (refine OkS.sto ?_ (by omega); first | assumption | (refine OkS.sto ?_ (by omega); first | assumption | (refine OkS.sto ?_ (by omega); first | assumption | (refine OkS.sto ?_ (by omega); first | assumption | (refine OkS.sto ?_ (by omega); first | assumption)))))) | exact Pfx.refl _ | (apply Pfx.snoc; repeat (first | exact Pfx.refl _ | assumption | apply Pfx.snoc)) | with_unfolding_all exact of_eq_true (eq_true rfl) | (simp only [List.length_append, List.length_cons, List.length_nil]; omega)) only [↓wpre0, ↓wpre1, ↓reduceIte, Int.reduceToNat, Nat.reduceAdd, Nat.reduceMul, Nat.reduceEqDiff, wpost0, wpost1, wpost2, wpost3, wpost4, ite_self, ite_true, ite_false, if_true, if_false, bin_lss, sneq_bl, xbneq4, un_not, fr3, wrap_int, wrap_u8, iteP_yes, iteP_no, beq_self_eq_true, bne_self_eq_false, Bool.not_true] | refine iteP_two (fun hc hd => ?_) (fun hc hd => ?_) | refine iteP_intro (fun hc => ?_) (fun hc => ?_))
    refine cf_rel (toStringS_c (ro := ro) hx (hI.pre (p1.trans p2)) (by omega) (by omega)) (fun q => by cases q) ?_
    rintro r4 h4 ⟨p4, l4, V4⟩
    (repeat' first | simp -dsimp (disch := first | omega | assumption | (refine OkS.sto ?_ (by omega); first | assumption | (refine OkS.sto ?_ (by omega); first | assumption | (refine OkS.sto ?_ (by omega); first | assumption | (refine OkS.sto ?_ (by omega); first | assumption | (refine OkS.sto ?_ (by omega); first | assumption | (refine OkS.sto ?_ (by omega); first | assumption)))))) | exact Pfx.refl _ | (apply Pfx.snoc; repeat (first | exact Pfx.refl _ | assumption | apply Pfx.snoc)) | with_unfolding_all exact of_eq_true (eq_true rfl) | (simp only [List.length_append, List.length_cons, List.length_nil]; omega)) only [↓wpre0, ↓wpre1, ↓reduceIte, Int.reduceToNat, Nat.reduceAdd, Nat.reduceMul, Nat.reduceEqDiff, wpost0, wpost1, wpost2, wpost3, wpost4, ite_self, ite_true, ite_false, if_true, if_false, bin_lss, sneq_bl, xbneq4, un_not, fr3, wrap_int, wrap_u8, iteP_yes, iteP_no, eqStringS_r (ro := ro) hx (V2.pre p4) V4 (by omega) (by omega)] | refine iteP_two (fun hc hd => ?_) (fun hc hd => ?_) | refine iteP_intro (fun hc => ?_) (fun hc => ?_))
  · rw [if_neg hw] at sz
    (repeat' first | simp -dsimp (disch := first | omega | assumption | (refine OkS.sto ?_ (by omega); first | assumption | (refine OkS.sto ?_ (by omega); first | assumption | (refine OkS.sto ?_ (by omega); first | assumption | (refine OkS.sto ?_ (by omega); first | assumption | (refine OkS.sto ?_ (by omega); first | assumption | (refine OkS.sto ?_ (by omega); first | assumption)))))) | exact Pfx.refl _ | (apply Pfx.snoc; repeat (first | exact Pfx.refl _ | assumption | apply Pfx.snoc)) | with_unfolding_all exact of_eq_true (eq_true rfl) | (simp only [List.length_append, List.length_cons, List.length_nil]; omega)) only [↓wpre0, ↓wpre1, ↓reduceIte, Int.reduceToNat, Nat.reduceAdd, Nat.reduceMul, Nat.reduceEqDiff, wpost0, wpost1, wpost2, wpost3, wpost4, ite_self, ite_true, ite_false, if_true, if_false, bin_lss, sneq_bl, xbneq4, un_not, fr3, wrap_int, wrap_u8, iteP_yes, iteP_no, sz] | refine iteP_two (fun hc hd => ?_) (fun hc hd => ?_) | refine iteP_intro (fun hc => ?_) (fun hc => ?_))
end Go.Proofs.YtbakaopgdcojfaaDoor.Sim
