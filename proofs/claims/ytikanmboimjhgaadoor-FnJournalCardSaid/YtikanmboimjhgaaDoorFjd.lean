/- A desk, as it is drawn. Lemmas only; no condition. -/
import Derived.Test.YtikanmboimjhgaaDoorFjb
import Derived.Test.YtikanmboimjhgaaDoorSimXc
set_option linter.unusedSimpArgs false
set_option linter.unusedVariables false
set_option maxRecDepth 8000
namespace Go.Proofs.YtikanmboimjhgaaDoor.Sim
open Go Go.RowKit
variable {ro : Nat} {X : Ext}
def dynB (P : Program) (ops : Array Oper) (nz : Nat → Bool) (ex : Nat → Nat → Bool) : Bool :=
  let m := befs ops.toList []
  (List.range ops.size).all fun i => match ops[i]? with
    | none => true
    | some o => ((edgesOf o).all fun e => Region.binds .any e && decide (e.on < i)) &&
      (List.range ops.size).all fun j => match ops[j]? with
        | none => true
        | some p => i == j || ((!(clash ops o p) || ordB m i j || ordB m j i) && (!(nz i && nz j) || ordB m i j || ordB m j i) && (!(nz i && !nz j) || ordB m i j || ordB m j i || deafOp P p.op || ex i j))
theorem dynFacts_of {P : Program} {ro : Nat} {C : Fns} {ops : Array Oper} {E : Nat → Env} {H : Nat → Heap} {V : Nat → Value} {nz : Nat → Bool} {ex : Nat → Nat → Bool} (hB : dynB P ops nz ex = true) (hq : ∀ i, nz i = false → H (i + 1) = H i)
    (hex : ∀ i j p, ops[j]? = some p → ex i j = true → aop P ro C p.op (E j) (H i) = some (V j, H i) ∧ aop P ro C p.op (E j) (H (i + 1)) = some (V j, H (i + 1))) : DynFacts P ro C ops E H V nz := by
  unfold dynB at hB
  simp only [List.all_eq_true, List.mem_range] at hB
  have get : ∀ (i j : Nat) (o p : Oper), ops[i]? = some o → ops[j]? = some p → i ≠ j → (clash ops o p = false ∨ ordB (befs ops.toList []) i j = true ∨ ordB (befs ops.toList []) j i = true) ∧ (nz i = true → nz j = true → ordB (befs ops.toList []) i j = true ∨ ordB (befs ops.toList []) j i = true) ∧ (nz i = true → nz j = false → ordB (befs ops.toList []) i j = true ∨ ordB (befs ops.toList []) j i = true ∨ deafOp P p.op = true ∨ ex i j = true) := by
    intro i j o p hi hj hne
    have h1 := hB i (lt_of_get hi)
    rw [hi] at h1
    simp only [Bool.and_eq_true, List.all_eq_true, List.mem_range] at h1
    have h2 := h1.2 j (lt_of_get hj)
    rw [hj] at h2
    simp only [Bool.or_eq_true, Bool.and_eq_true, beq_iff_eq, Bool.not_eq_true', Bool.and_eq_false_iff, Bool.not_eq_false'] at h2
    rcases h2 with q | ⟨⟨a, b⟩, c⟩
    · exact absurd q hne
    · refine ⟨?_, fun x y => ?_, fun x y => ?_⟩
      · rcases a with (a | a) | a
        · exact .inl a
        · exact .inr (.inl a)
        · exact .inr (.inr a)
      · rcases b with ((b | b) | b) | b
        · rw [x] at b; cases b
        · rw [y] at b; cases b
        · exact .inl b
        · exact .inr b
      · rcases c with ((((c | c) | c) | c) | c) | c
        · rw [x] at c; cases c
        · rw [y] at c; cases c
        · exact .inl c
        · exact .inr (.inl c)
        · exact .inr (.inr (.inl c))
        · exact .inr (.inr (.inr c))
  refine ⟨fun i o e hi he => ?_, fun i j o p hi hj hne => (get i j o p hi hj hne).1, hq, fun i j hne hi hj a b => (get i j _ _ (Array.getElem?_eq_getElem hi) (Array.getElem?_eq_getElem hj) hne).2.1 a b, fun i j p hj hi a b _ => ?_⟩
  · have h1 := hB i (lt_of_get hi)
    rw [hi] at h1
    simp only [Bool.and_eq_true, List.all_eq_true, decide_eq_true_eq] at h1
    exact h1.1 e he
  · have hne : i ≠ j := fun q => by rw [q] at a; rw [a] at b; cases b
    rcases (get i j _ p (Array.getElem?_eq_getElem hi) hj hne).2.2 a b with q | q | q | q
    · exact .inl q
    · exact .inr (.inl q)
    · exact .inr (.inr (.inl q))
    · exact .inr (.inr (.inr (hex i j p hj q)))
def RDesk (args : List Value) (h : Heap) (q : Value × Heap) : Prop := ∃ (b : Nat) (pa wa sa : Option Addr) (pn pc wn wc sn sc : Nat), args = [.pointer (some ⟨b, 0, none⟩)] ∧ q.1 = .agg ⟨[.slice pa pn pc, .slice wa wn wc, .slice sa sn sc]⟩ ∧ pn ≤ 4 ∧ Dst b h q.2
variable {lo hi b A : Nat} {x : Value} {cd : List UInt8} {h : Heap}
set_option maxHeartbeats 4000000 in
theorem deskG (hF : XF ro X) {c : Code} (hb : Tryd.f13.body = some c) (hS : SRC lo hi b A x cd h) (hro : ro ≤ b) (hq : hi ≤ b) (hA : A ≤ 1152921504600000000) (hl : cd.length ≤ 1099511627776) :
    ∃ n r h', runG Tryd.prog ro X Tryd.f13 c n [.pointer (some ⟨b, 0, none⟩)] h = some (r, h') ∧ RDesk [.pointer (some ⟨b, 0, none⟩)] h (r, h') := by
  have hW := hF.w
  have hX := hF.e.d.n
  have hbl := hS.lt
  refine runG_of (R := fun r h' => RDesk [.pointer (some ⟨b, 0, none⟩)] h (r, h')) ?_
  cases hb
  refine WG_seq.2 (WG_good (N := 50) (by kernel_rfl) ?_)
  (repeat' first | simp -dsimp (disch := first | omega | assumption | (refine OkS.sto ?_ (by omega); first | assumption | (refine OkS.sto ?_ (by omega); first | assumption | (refine OkS.sto ?_ (by omega); first | assumption | (refine OkS.sto ?_ (by omega); first | assumption | (refine OkS.sto ?_ (by omega); first | assumption | (refine OkS.sto ?_ (by omega); first | assumption)))))) | exact Pfx.refl _ | (apply Pfx.snoc; repeat (first | exact Pfx.refl _ | assumption | apply Pfx.snoc)) | with_unfolding_all exact of_eq_true (eq_true rfl) | (simp only [List.length_append, List.length_cons, List.length_nil]; omega)) only [↓wpre0, ↓wpre1, ↓reduceIte, Int.reduceToNat, Nat.reduceAdd, Nat.reduceMul, Nat.reduceEqDiff, wpost0, wpost1, wpost2, wpost3, wpost4, ite_self, ite_true, ite_false, if_true, if_false, tze30, xbls26_0, xbls26_1, xbls28_0, xbls28_1, xbld30_0_2, xst30, bin_add, bin_lss, xfad30_0, xld26, bin_mul, xbld69_0, xst26, xfad30_1, xst27, bin_gtr, xfad30_2, xld28, xst28, bin_sub, xld30, fr13, wrap_int, wrap_u8, iteP_yes, iteP_no] | refine iteP_two (fun hc hd => ?_) (fun hc hd => ?_) | refine iteP_intro (fun hc => ?_) (fun hc => ?_))
  refine WG_seq.2 (WG_good (N := 50) (by kernel_rfl) ?_)
  (repeat' first | simp -dsimp (disch := first | omega | assumption | (refine OkS.sto ?_ (by omega); first | assumption | (refine OkS.sto ?_ (by omega); first | assumption | (refine OkS.sto ?_ (by omega); first | assumption | (refine OkS.sto ?_ (by omega); first | assumption | (refine OkS.sto ?_ (by omega); first | assumption | (refine OkS.sto ?_ (by omega); first | assumption)))))) | exact Pfx.refl _ | (apply Pfx.snoc; repeat (first | exact Pfx.refl _ | assumption | apply Pfx.snoc)) | with_unfolding_all exact of_eq_true (eq_true rfl) | (simp only [List.length_append, List.length_cons, List.length_nil]; omega)) only [↓wpre0, ↓wpre1, ↓reduceIte, Int.reduceToNat, Nat.reduceAdd, Nat.reduceMul, Nat.reduceEqDiff, wpost0, wpost1, wpost2, wpost3, wpost4, ite_self, ite_true, ite_false, if_true, if_false, tze30, xbls26_0, xbls26_1, xbls28_0, xbls28_1, xbld30_0_2, xst30, bin_add, bin_lss, xfad30_0, xld26, bin_mul, xbld69_0, xst26, xfad30_1, xst27, bin_gtr, xfad30_2, xld28, xst28, bin_sub, xld30, fr13, wrap_int, wrap_u8, iteP_yes, iteP_no] | refine iteP_two (fun hc hd => ?_) (fun hc hd => ?_) | refine iteP_intro (fun hc => ?_) (fun hc => ?_))
  refine WG_seq.2 (WG_good (N := 50) (by kernel_rfl) ?_)
  (repeat' first | simp -dsimp (disch := first | omega | assumption | (refine OkS.sto ?_ (by omega); first | assumption | (refine OkS.sto ?_ (by omega); first | assumption | (refine OkS.sto ?_ (by omega); first | assumption | (refine OkS.sto ?_ (by omega); first | assumption | (refine OkS.sto ?_ (by omega); first | assumption | (refine OkS.sto ?_ (by omega); first | assumption)))))) | exact Pfx.refl _ | (apply Pfx.snoc; repeat (first | exact Pfx.refl _ | assumption | apply Pfx.snoc)) | with_unfolding_all exact of_eq_true (eq_true rfl) | (simp only [List.length_append, List.length_cons, List.length_nil]; omega)) only [↓wpre0, ↓wpre1, ↓reduceIte, Int.reduceToNat, Nat.reduceAdd, Nat.reduceMul, Nat.reduceEqDiff, wpost0, wpost1, wpost2, wpost3, wpost4, ite_self, ite_true, ite_false, if_true, if_false, tze30, xbls26_0, xbls26_1, xbls28_0, xbls28_1, xbld30_0_2, xst30, bin_add, bin_lss, xfad30_0, xld26, bin_mul, xbld69_0, xst26, xfad30_1, xst27, bin_gtr, xfad30_2, xld28, xst28, bin_sub, xld30, fr13, wrap_int, wrap_u8, iteP_yes, iteP_no] | refine iteP_two (fun hc hd => ?_) (fun hc hd => ?_) | refine iteP_intro (fun hc => ?_) (fun hc => ?_))
  have S0 := (((hS.pre (Pfx.refl h).snoc (h' := h ++ [(⟨30, [.slice none 0 0, .slice none 0 0, .slice none 0 0]⟩ : Blk)])).pre (Pfx.refl _).snoc (h' := _ ++ [(⟨69, []⟩ : Blk)])).pre (Pfx.refl _).snoc (h' := _ ++ [(⟨27, []⟩ : Blk)])).pre (Pfx.refl _).snoc (h' := _ ++ [(⟨30, [.slice (some ⟨h.length + 1, 0, none⟩) 0 0, .slice none 0 0, .slice (some ⟨h.length + 2, 0, none⟩) 0 0]⟩ : Blk)])
  simp only [List.length_append, List.length_cons, List.length_nil, Nat.zero_add, Nat.add_assoc, Nat.reduceAdd]
  generalize hH0 : (h ++ [(⟨30, [.slice none 0 0, .slice none 0 0, .slice none 0 0]⟩ : Blk)] ++ [(⟨69, []⟩ : Blk)] ++ [(⟨27, []⟩ : Blk)] ++ [(⟨30, [.slice (some ⟨h.length + 1, 0, none⟩) 0 0, .slice none 0 0, .slice (some ⟨h.length + 2, 0, none⟩) 0 0]⟩ : Blk)]) = H0 at S0 ⊢
  have l0 : H0.length = h.length + 4 := by rw [← hH0]; simp
  have d0 : Dst b h H0 := ⟨by omega, fun j hj _ => by rw [← hH0]; simp [List.getElem?_append, hj, Nat.lt_add_right]⟩
  have D0 : H0[h.length + 3]? = some ⟨30, [.slice (some ⟨h.length + 1, 0, none⟩) 0 0, .slice none 0 0, .slice (some ⟨h.length + 2, 0, none⟩) 0 0]⟩ := by rw [← hH0]; simp [List.getElem?_append]
  have P0 : H0[h.length + 1]? = some ⟨69, []⟩ := by rw [← hH0]; simp [List.getElem?_append]
  have T0 : H0[h.length + 2]? = some ⟨27, []⟩ := by rw [← hH0]; simp [List.getElem?_append]
  have R0 : H0[h.length]? = some ⟨30, [.slice none 0 0, .slice none 0 0, .slice none 0 0]⟩ := by rw [← hH0]; simp [List.getElem?_append]
  refine cf_rel (pick_c hW.next hW.pick (n := 4) S0 hro hq (by omega) hl (by omega)) (fun q => by cases q) ?_
  rintro r H1 ⟨v, rfl, _, hv, S1, o1⟩
  have hv4 := hv (by omega)
  have l1 := o1.1
  (repeat' first | simp -dsimp (disch := first | omega | assumption | (refine OkS.sto ?_ (by omega); first | assumption | (refine OkS.sto ?_ (by omega); first | assumption | (refine OkS.sto ?_ (by omega); first | assumption | (refine OkS.sto ?_ (by omega); first | assumption | (refine OkS.sto ?_ (by omega); first | assumption | (refine OkS.sto ?_ (by omega); first | assumption)))))) | exact Pfx.refl _ | (apply Pfx.snoc; repeat (first | exact Pfx.refl _ | assumption | apply Pfx.snoc)) | with_unfolding_all exact of_eq_true (eq_true rfl) | (simp only [List.length_append, List.length_cons, List.length_nil]; omega)) only [↓wpre0, ↓wpre1, ↓reduceIte, Int.reduceToNat, Nat.reduceAdd, Nat.reduceMul, Nat.reduceEqDiff, wpost0, wpost1, wpost2, wpost3, wpost4, ite_self, ite_true, ite_false, if_true, if_false, tze30, xbls26_0, xbls26_1, xbls28_0, xbls28_1, xbld30_0_2, xst30, bin_add, bin_lss, xfad30_0, xld26, bin_mul, xbld69_0, xst26, xfad30_1, xst27, bin_gtr, xfad30_2, xld28, xst28, bin_sub, xld30, fr13, wrap_int, wrap_u8, iteP_yes, iteP_no] | refine iteP_two (fun hc hd => ?_) (fun hc hd => ?_) | refine iteP_intro (fun hc => ?_) (fun hc => ?_))
  refine WG_seq.2 (WG_good (N := 50) (by kernel_rfl) ?_)
  (repeat' first | simp -dsimp (disch := first | omega | assumption | (refine OkS.sto ?_ (by omega); first | assumption | (refine OkS.sto ?_ (by omega); first | assumption | (refine OkS.sto ?_ (by omega); first | assumption | (refine OkS.sto ?_ (by omega); first | assumption | (refine OkS.sto ?_ (by omega); first | assumption | (refine OkS.sto ?_ (by omega); first | assumption)))))) | exact Pfx.refl _ | (apply Pfx.snoc; repeat (first | exact Pfx.refl _ | assumption | apply Pfx.snoc)) | with_unfolding_all exact of_eq_true (eq_true rfl) | (simp only [List.length_append, List.length_cons, List.length_nil]; omega)) only [↓wpre0, ↓wpre1, ↓reduceIte, Int.reduceToNat, Nat.reduceAdd, Nat.reduceMul, Nat.reduceEqDiff, wpost0, wpost1, wpost2, wpost3, wpost4, ite_self, ite_true, ite_false, if_true, if_false, tze30, xbls26_0, xbls26_1, xbls28_0, xbls28_1, xbld30_0_2, xst30, bin_add, bin_lss, xfad30_0, xld26, bin_mul, xbld69_0, xst26, xfad30_1, xst27, bin_gtr, xfad30_2, xld28, xst28, bin_sub, xld30, fr13, wrap_int, wrap_u8, iteP_yes, iteP_no] | refine iteP_two (fun hc hd => ?_) (fun hc hd => ?_) | refine iteP_intro (fun hc => ?_) (fun hc => ?_))
  refine cf_rel (pick_c hW.next hW.pick (n := 33) S1 hro hq (by omega) hl (by omega)) (fun q => by cases q) ?_
  rintro r H2 ⟨v2, rfl, _, hv2, S2, o2⟩
  have hv33 := hv2 (by omega)
  have l2 := o2.1
  have o12 := Only.trans' o1 o2
  obtain ⟨n, hn⟩ : ∃ n : Nat, (n : Int) = 1 + (v : Int) := ⟨v + 1, by omega⟩
  rw [← hn]
  have hn4 : n ≤ 4 := by omega
  have D2 := (o12.2 (h.length + 3) (by omega)).trans D0
  have P2 := (o12.2 (h.length + 1) (by omega)).trans P0
  have T2 := (o12.2 (h.length + 2) (by omega)).trans T0
  have R2 := (o12.2 h.length (by omega)).trans R0
  have d2 := d0.trans o12.dst
  (repeat' first | simp -dsimp (disch := first | omega | assumption | (refine OkS.sto ?_ (by omega); first | assumption | (refine OkS.sto ?_ (by omega); first | assumption | (refine OkS.sto ?_ (by omega); first | assumption | (refine OkS.sto ?_ (by omega); first | assumption | (refine OkS.sto ?_ (by omega); first | assumption | (refine OkS.sto ?_ (by omega); first | assumption)))))) | exact Pfx.refl _ | (apply Pfx.snoc; repeat (first | exact Pfx.refl _ | assumption | apply Pfx.snoc)) | with_unfolding_all exact of_eq_true (eq_true rfl) | (simp only [List.length_append, List.length_cons, List.length_nil]; omega)) only [↓wpre0, ↓wpre1, ↓reduceIte, Int.reduceToNat, Nat.reduceAdd, Nat.reduceMul, Nat.reduceEqDiff, wpost0, wpost1, wpost2, wpost3, wpost4, ite_self, ite_true, ite_false, if_true, if_false, tze30, xbls26_0, xbls26_1, xbls28_0, xbls28_1, xbld30_0_2, xst30, bin_add, bin_lss, xfad30_0, xld26, bin_mul, xbld69_0, xst26, xfad30_1, xst27, bin_gtr, xfad30_2, xld28, xst28, bin_sub, xld30, fr13, wrap_int, wrap_u8, iteP_yes, iteP_no] | refine iteP_two (fun hc hd => ?_) (fun hc hd => ?_) | refine iteP_intro (fun hc => ?_) (fun hc => ?_))
  refine WG_seq.2 (WG_good (N := 50) (by kernel_rfl) ?_)
  (repeat' first | simp -dsimp (disch := first | omega | assumption | (refine OkS.sto ?_ (by omega); first | assumption | (refine OkS.sto ?_ (by omega); first | assumption | (refine OkS.sto ?_ (by omega); first | assumption | (refine OkS.sto ?_ (by omega); first | assumption | (refine OkS.sto ?_ (by omega); first | assumption | (refine OkS.sto ?_ (by omega); first | assumption)))))) | exact Pfx.refl _ | (apply Pfx.snoc; repeat (first | exact Pfx.refl _ | assumption | apply Pfx.snoc)) | with_unfolding_all exact of_eq_true (eq_true rfl) | (simp only [List.length_append, List.length_cons, List.length_nil]; omega)) only [↓wpre0, ↓wpre1, ↓reduceIte, Int.reduceToNat, Nat.reduceAdd, Nat.reduceMul, Nat.reduceEqDiff, wpost0, wpost1, wpost2, wpost3, wpost4, ite_self, ite_true, ite_false, if_true, if_false, tze30, xbls26_0, xbls26_1, xbls28_0, xbls28_1, xbld30_0_2, xst30, bin_add, bin_lss, xfad30_0, xld26, bin_mul, xbld69_0, xst26, xfad30_1, xst27, bin_gtr, xfad30_2, xld28, xst28, bin_sub, xld30, fr13, wrap_int, wrap_u8, iteP_yes, iteP_no] | refine iteP_two (fun hc hd => ?_) (fun hc hd => ?_) | refine iteP_intro (fun hc => ?_) (fun hc => ?_))
  refine loop_rounds (fun m e h' => ∃ (i : Nat) (y : Value) (L : List Value) (yb yc : Nat), m = n - i ∧ i ≤ n ∧ y = .slice (some ⟨yb, 0, none⟩) i yc ∧ e 0 = .pointer (some ⟨b, 0, none⟩) ∧ e 2 = .pointer (some ⟨h.length, 0, none⟩) ∧ e 3 = .pointer (some ⟨h.length + 3, 0, none⟩) ∧ e 4 = .int .i64 n ∧ e 5 = .int .i64 (16 + (v2 : Int)) ∧ e 6 = .int .i64 i ∧ VG (h.length + 1) 69 2 h' y i L ∧ yb ≠ h.length + 2 ∧ yb ≠ h.length + 3 ∧ h'[h.length + 3]? = some ⟨30, [y, .slice none 0 0, .slice (some ⟨h.length + 2, 0, none⟩) 0 0]⟩ ∧ h'[h.length + 2]? = some ⟨27, []⟩ ∧ SRC lo hi b (A + 4) x cd h' ∧ Dst b h h' ∧ h.length + 4 ≤ h'.length ∧ h'[h.length]? = some ⟨30, [.slice none 0 0, .slice none 0 0, .slice none 0 0]⟩) _ ⟨0, .slice (some ⟨h.length + 1, 0, none⟩) 0 0, [], h.length + 1, 0, rfl, ?_⟩ ?_
  · simp only [updO_at, updO_not, entry_at, List.getD_cons_zero, List.getD_cons_succ, ↓reduceIte, Nat.reduceEqDiff, true_and, and_true]
    refine ⟨by omega, by simp, rfl, ⟨rfl, h.length + 1, 0, rfl, Nat.le_refl _, P2, fun _ => rfl⟩, by omega, by omega, D2, T2, S2.more (by omega), d2, by omega, R2⟩
  · rintro m e h' ⟨i, y, L, yb, yc, hm, hile, rfl, g0, g2, g3, g4, g5, g6, hY, hy2, hy3, hD, hT, hSi, hdi, hlen, hR⟩
    have hdl := hdi.1
    have hbl3 : h.length + 3 ≠ b := by omega
    by_cases hin : i < n
    · obtain ⟨k, hk⟩ : ∃ k : Int, (16 + (v2 : Int)) * (i : Int) = k := ⟨_, rfl⟩
      have k0 : 0 ≤ k := by rw [← hk]; exact Int.mul_nonneg (by omega) (by omega)
      have k1 : k ≤ 49 * 4 := by rw [← hk]; exact Int.mul_le_mul (by omega) (by omega) (by omega) (by omega)
      have c0 : cell h' (h.length + 3) 0 = some (.slice (some ⟨yb, 0, none⟩) i yc) := cellb hD
      obtain ⟨H, ap, vg, old, hHl⟩ := accK (P := Tryd.prog) (ro := ro) (T := 26) (k := 2) (h := h') (M := [.int .i64 k, .int .i64 0]) tel26 tsz69 tby69 tze69 (by decide) (.inl hY) (by omega) (by omega) rfl rfl (by omega) (by omega)
      have keep : ∀ j, j < h'.length → j ≠ yb → H[j]? = h'[j]? := fun j h1 h2 => old.2.1 j h1 (.inr h2)
      have DH := (keep (h.length + 3) (by omega) (Ne.symm hy3)).trans hD
      have pt := put3 (ro := ro) (i := 0) (v := .slice (some ⟨h'.length + 1, 0, none⟩) (i + 1) (i + 1 + 1)) DH (by omega) (by simp) rfl rfl
      have hyb := hY.bof.1
      have hyb' : h.length + 1 ≤ yb := hyb
      have SH : SRC lo hi b (A + 4) x cd H := hSi.frame (keep b (by omega) (by omega)) fun j h1 h2 => keep j (by omega) (by omega)
      have dH : Dst b h H := ⟨by omega, fun j hj hjb => by rw [keep j (by omega) (by omega)]; exact hdi.2 j hj hjb⟩
      (repeat' first | simp -dsimp (disch := first | omega | assumption | (refine OkS.sto ?_ (by omega); first | assumption | (refine OkS.sto ?_ (by omega); first | assumption | (refine OkS.sto ?_ (by omega); first | assumption | (refine OkS.sto ?_ (by omega); first | assumption | (refine OkS.sto ?_ (by omega); first | assumption | (refine OkS.sto ?_ (by omega); first | assumption)))))) | exact Pfx.refl _ | (apply Pfx.snoc; repeat (first | exact Pfx.refl _ | assumption | apply Pfx.snoc)) | with_unfolding_all exact of_eq_true (eq_true rfl) | (simp only [List.length_append, List.length_cons, List.length_nil]; omega)) only [↓wpre0, ↓wpre1, ↓reduceIte, Int.reduceToNat, Nat.reduceAdd, Nat.reduceMul, Nat.reduceEqDiff, wpost0, wpost1, wpost2, wpost3, wpost4, ite_self, ite_true, ite_false, if_true, if_false, tze30, xbls26_0, xbls26_1, xbls28_0, xbls28_1, xbld30_0_2, xst30, bin_add, bin_lss, xfad30_0, xld26, bin_mul, xbld69_0, xst26, xfad30_1, xst27, bin_gtr, xfad30_2, xld28, xst28, bin_sub, xld30, fr13, wrap_int, wrap_u8, iteP_yes, iteP_no, g0, g2, g3, g4, g5, g6, c0, hk, ap, pt] | refine iteP_two (fun hc hd => ?_) (fun hc hd => ?_) | refine iteP_intro (fun hc => ?_) (fun hc => ?_))
      refine ⟨_, by omega, i + 1, _, _, h'.length + 1, _, rfl, by omega, rfl, rfl, vg.frame (List.getElem?_set_ne (by show h.length + 3 ≠ h'.length + 1; omega)), by omega, by omega, by rw [List.getElem?_set_self (by omega)], by rw [List.getElem?_set_ne (by omega), keep _ (by omega) (Ne.symm hy2)]; exact hT, SH.set (by omega) hq, dH.set (by omega), by rw [List.length_set]; omega, by rw [List.getElem?_set_ne (by omega), keep _ (by omega) (by omega)]; exact hR⟩
    · have ei : i = n := by omega
      subst ei
      (repeat' first | simp -dsimp (disch := first | omega | assumption | (refine OkS.sto ?_ (by omega); first | assumption | (refine OkS.sto ?_ (by omega); first | assumption | (refine OkS.sto ?_ (by omega); first | assumption | (refine OkS.sto ?_ (by omega); first | assumption | (refine OkS.sto ?_ (by omega); first | assumption | (refine OkS.sto ?_ (by omega); first | assumption)))))) | exact Pfx.refl _ | (apply Pfx.snoc; repeat (first | exact Pfx.refl _ | assumption | apply Pfx.snoc)) | with_unfolding_all exact of_eq_true (eq_true rfl) | (simp only [List.length_append, List.length_cons, List.length_nil]; omega)) only [↓wpre0, ↓wpre1, ↓reduceIte, Int.reduceToNat, Nat.reduceAdd, Nat.reduceMul, Nat.reduceEqDiff, wpost0, wpost1, wpost2, wpost3, wpost4, ite_self, ite_true, ite_false, if_true, if_false, tze30, xbls26_0, xbls26_1, xbls28_0, xbls28_1, xbld30_0_2, xst30, bin_add, bin_lss, xfad30_0, xld26, bin_mul, xbld69_0, xst26, xfad30_1, xst27, bin_gtr, xfad30_2, xld28, xst28, bin_sub, xld30, fr13, wrap_int, wrap_u8, iteP_yes, iteP_no, g0, g2, g3, g4, g5, g6] | refine iteP_two (fun hc hd => ?_) (fun hc hd => ?_) | refine iteP_intro (fun hc => ?_) (fun hc => ?_))
      refine WG_seq.2 (WG_good (N := 50) (by kernel_rfl) ?_)
      (repeat' first | simp -dsimp (disch := first | omega | assumption | (refine OkS.sto ?_ (by omega); first | assumption | (refine OkS.sto ?_ (by omega); first | assumption | (refine OkS.sto ?_ (by omega); first | assumption | (refine OkS.sto ?_ (by omega); first | assumption | (refine OkS.sto ?_ (by omega); first | assumption | (refine OkS.sto ?_ (by omega); first | assumption)))))) | exact Pfx.refl _ | (apply Pfx.snoc; repeat (first | exact Pfx.refl _ | assumption | apply Pfx.snoc)) | with_unfolding_all exact of_eq_true (eq_true rfl) | (simp only [List.length_append, List.length_cons, List.length_nil]; omega)) only [↓wpre0, ↓wpre1, ↓reduceIte, Int.reduceToNat, Nat.reduceAdd, Nat.reduceMul, Nat.reduceEqDiff, wpost0, wpost1, wpost2, wpost3, wpost4, ite_self, ite_true, ite_false, if_true, if_false, tze30, xbls26_0, xbls26_1, xbls28_0, xbls28_1, xbld30_0_2, xst30, bin_add, bin_lss, xfad30_0, xld26, bin_mul, xbld69_0, xst26, xfad30_1, xst27, bin_gtr, xfad30_2, xld28, xst28, bin_sub, xld30, fr13, wrap_int, wrap_u8, iteP_yes, iteP_no, g0, g2, g3, g4, g5, g6] | refine iteP_two (fun hc hd => ?_) (fun hc hd => ?_) | refine iteP_intro (fun hc => ?_) (fun hc => ?_))
      refine cf_rel (DrawComplexes_c hW (n := i) (by omega) hSi hro hq (by omega) hl) (fun q => by cases q) ?_
      rintro r H3 ⟨zs, hz, hzs, hVw, S3, o3⟩
      obtain ⟨_, wb, wc, rfl, hwb, _, _⟩ := hVw
      have l3 := o3.1
      have D3 := (o3.2 (h.length + 3) (by omega) (by omega)).trans hD
      have R3 := (o3.2 h.length (by omega) (by omega)).trans hR
      have T3 := (o3.2 (h.length + 2) (by omega) (by omega)).trans hT
      have d3 := hdi.trans o3
      have pt3 := put3 (ro := ro) (i := 1) (v := .slice (some ⟨wb, 0, none⟩) i wc) D3 (by omega) (by simp) rfl rfl
      (repeat' first | simp -dsimp (disch := first | omega | assumption | (refine OkS.sto ?_ (by omega); first | assumption | (refine OkS.sto ?_ (by omega); first | assumption | (refine OkS.sto ?_ (by omega); first | assumption | (refine OkS.sto ?_ (by omega); first | assumption | (refine OkS.sto ?_ (by omega); first | assumption | (refine OkS.sto ?_ (by omega); first | assumption)))))) | exact Pfx.refl _ | (apply Pfx.snoc; repeat (first | exact Pfx.refl _ | assumption | apply Pfx.snoc)) | with_unfolding_all exact of_eq_true (eq_true rfl) | (simp only [List.length_append, List.length_cons, List.length_nil]; omega)) only [↓wpre0, ↓wpre1, ↓reduceIte, Int.reduceToNat, Nat.reduceAdd, Nat.reduceMul, Nat.reduceEqDiff, wpost0, wpost1, wpost2, wpost3, wpost4, ite_self, ite_true, ite_false, if_true, if_false, tze30, xbls26_0, xbls26_1, xbls28_0, xbls28_1, xbld30_0_2, xst30, bin_add, bin_lss, xfad30_0, xld26, bin_mul, xbld69_0, xst26, xfad30_1, xst27, bin_gtr, xfad30_2, xld28, xst28, bin_sub, xld30, fr13, wrap_int, wrap_u8, iteP_yes, iteP_no, g0, g2, g3, g4, g5, g6, pt3] | refine iteP_two (fun hc hd => ?_) (fun hc hd => ?_) | refine iteP_intro (fun hc => ?_) (fun hc => ?_))
      have D4 : (H3.set (h.length + 3) ⟨30, [.slice (some ⟨yb, 0, none⟩) i yc, .slice (some ⟨wb, 0, none⟩) i wc, .slice (some ⟨h.length + 2, 0, none⟩) 0 0]⟩)[h.length + 3]? = some ⟨30, [.slice (some ⟨yb, 0, none⟩) i yc, .slice (some ⟨wb, 0, none⟩) i wc, .slice (some ⟨h.length + 2, 0, none⟩) 0 0]⟩ := by rw [List.getElem?_set_self (by omega)]
      have R4 : (H3.set (h.length + 3) ⟨30, [.slice (some ⟨yb, 0, none⟩) i yc, .slice (some ⟨wb, 0, none⟩) i wc, .slice (some ⟨h.length + 2, 0, none⟩) 0 0]⟩)[h.length]? = some ⟨30, [.slice none 0 0, .slice none 0 0, .slice none 0 0]⟩ := by rw [List.getElem?_set_ne (by omega)]; exact R3
      have T4 : (H3.set (h.length + 3) ⟨30, [.slice (some ⟨yb, 0, none⟩) i yc, .slice (some ⟨wb, 0, none⟩) i wc, .slice (some ⟨h.length + 2, 0, none⟩) 0 0]⟩)[h.length + 2]? = some ⟨27, []⟩ := by rw [List.getElem?_set_ne (by omega)]; exact T3
      have S4 : SRC lo hi b (A + 200) x cd (H3.set (h.length + 3) ⟨30, [.slice (some ⟨yb, 0, none⟩) i yc, .slice (some ⟨wb, 0, none⟩) i wc, .slice (some ⟨h.length + 2, 0, none⟩) 0 0]⟩) := (S3.more (by omega)).set (by omega) hq
      have d4 : Dst b h (H3.set (h.length + 3) ⟨30, [.slice (some ⟨yb, 0, none⟩) i yc, .slice (some ⟨wb, 0, none⟩) i wc, .slice (some ⟨h.length + 2, 0, none⟩) 0 0]⟩) := d3.set (by omega)
      have l4 : (H3.set (h.length + 3) ⟨30, [.slice (some ⟨yb, 0, none⟩) i yc, .slice (some ⟨wb, 0, none⟩) i wc, .slice (some ⟨h.length + 2, 0, none⟩) 0 0]⟩).length = H3.length := by rw [List.length_set]
      refine WG_seq.2 (WG_seq.2 (WG_good (N := 50) (by kernel_rfl) ?_))
      (repeat' first | simp -dsimp (disch := first | omega | assumption | (refine OkS.sto ?_ (by omega); first | assumption | (refine OkS.sto ?_ (by omega); first | assumption | (refine OkS.sto ?_ (by omega); first | assumption | (refine OkS.sto ?_ (by omega); first | assumption | (refine OkS.sto ?_ (by omega); first | assumption | (refine OkS.sto ?_ (by omega); first | assumption)))))) | exact Pfx.refl _ | (apply Pfx.snoc; repeat (first | exact Pfx.refl _ | assumption | apply Pfx.snoc)) | with_unfolding_all exact of_eq_true (eq_true rfl) | (simp only [List.length_append, List.length_cons, List.length_nil]; omega)) only [↓wpre0, ↓wpre1, ↓reduceIte, Int.reduceToNat, Nat.reduceAdd, Nat.reduceMul, Nat.reduceEqDiff, wpost0, wpost1, wpost2, wpost3, wpost4, ite_self, ite_true, ite_false, if_true, if_false, tze30, xbls26_0, xbls26_1, xbls28_0, xbls28_1, xbld30_0_2, xst30, bin_add, bin_lss, xfad30_0, xld26, bin_mul, xbld69_0, xst26, xfad30_1, xst27, bin_gtr, xfad30_2, xld28, xst28, bin_sub, xld30, fr13, wrap_int, wrap_u8, iteP_yes, iteP_no, g0, g2, g3, g4, g5, g6] | refine iteP_two (fun hc hd => ?_) (fun hc hd => ?_) | refine iteP_intro (fun hc => ?_) (fun hc => ?_))
      refine cf_rel (pick_c hW.next hW.pick (n := 3) S4 hro hq (by omega) hl (by omega)) (fun q => by cases q) ?_
      rintro r H5 ⟨v5, rfl, _, hv5, S5, o5⟩
      have hv53 := hv5 (by omega)
      have l5 := o5.1
      have D5 := (o5.2 (h.length + 3) (by omega)).trans D4
      have R5 := (o5.2 h.length (by omega)).trans R4
      have T5 := (o5.2 (h.length + 2) (by omega)).trans T4
      have d5 := d4.trans o5.dst
      have V5 : VG (h.length + 1) 27 1 H5 (.slice (some ⟨h.length + 2, 0, none⟩) 0 0) 0 [] := ⟨rfl, h.length + 2, 0, rfl, by omega, T5, fun _ => rfl⟩
      (repeat' first | simp -dsimp (disch := first | omega | assumption | (refine OkS.sto ?_ (by omega); first | assumption | (refine OkS.sto ?_ (by omega); first | assumption | (refine OkS.sto ?_ (by omega); first | assumption | (refine OkS.sto ?_ (by omega); first | assumption | (refine OkS.sto ?_ (by omega); first | assumption | (refine OkS.sto ?_ (by omega); first | assumption)))))) | exact Pfx.refl _ | (apply Pfx.snoc; repeat (first | exact Pfx.refl _ | assumption | apply Pfx.snoc)) | with_unfolding_all exact of_eq_true (eq_true rfl) | (simp only [List.length_append, List.length_cons, List.length_nil]; omega)) only [↓wpre0, ↓wpre1, ↓reduceIte, Int.reduceToNat, Nat.reduceAdd, Nat.reduceMul, Nat.reduceEqDiff, wpost0, wpost1, wpost2, wpost3, wpost4, ite_self, ite_true, ite_false, if_true, if_false, tze30, xbls26_0, xbls26_1, xbls28_0, xbls28_1, xbld30_0_2, xst30, bin_add, bin_lss, xfad30_0, xld26, bin_mul, xbld69_0, xst26, xfad30_1, xst27, bin_gtr, xfad30_2, xld28, xst28, bin_sub, xld30, fr13, wrap_int, wrap_u8, iteP_yes, iteP_no, g0, g2, g3, g4, g5, g6] | refine iteP_two (fun hc hd => ?_) (fun hc hd => ?_) | refine iteP_intro (fun hc => ?_) (fun hc => ?_))
      refine WG_block.2 ?_
      refine WG_rounds (fun m e h' => ∃ (k : Nat) (sb sc : Nat) (M : List Value), m = v5 - k ∧ k ≤ v5 ∧ e 0 = .pointer (some ⟨b, 0, none⟩) ∧ e 2 = .pointer (some ⟨h.length, 0, none⟩) ∧ e 3 = .pointer (some ⟨h.length + 3, 0, none⟩) ∧ e 4 = .int .i64 i ∧ e 7 = .int .i64 ((v5 - k : Nat) : Int) ∧ VG (h.length + 1) 27 1 h' (.slice (some ⟨sb, 0, none⟩) k sc) k M ∧ sb ≠ h.length + 3 ∧ h'[h.length + 3]? = some ⟨30, [.slice (some ⟨yb, 0, none⟩) i yc, .slice (some ⟨wb, 0, none⟩) i wc, .slice (some ⟨sb, 0, none⟩) k sc]⟩ ∧ SRC lo hi b (A + 202 + k * 200) x cd h' ∧ Dst b h h' ∧ h.length + 4 ≤ h'.length ∧ h'[h.length]? = some ⟨30, [.slice none 0 0, .slice none 0 0, .slice none 0 0]⟩) ?_ v5 _ _ ⟨0, h.length + 2, 0, [], rfl, ?_⟩
      · rintro m e h' ⟨k, sb, sc, M, hm, hk, g0, g2, g3, g4, g7, hVs, hsb, hD, hSi, hdi, hlen, hR⟩
        refine WG_seq.2 (WG_good (N := 50) (by kernel_rfl) ?_)
        by_cases hin : k < v5
        · (repeat' first | simp -dsimp (disch := first | omega | assumption | (refine OkS.sto ?_ (by omega); first | assumption | (refine OkS.sto ?_ (by omega); first | assumption | (refine OkS.sto ?_ (by omega); first | assumption | (refine OkS.sto ?_ (by omega); first | assumption | (refine OkS.sto ?_ (by omega); first | assumption | (refine OkS.sto ?_ (by omega); first | assumption)))))) | exact Pfx.refl _ | (apply Pfx.snoc; repeat (first | exact Pfx.refl _ | assumption | apply Pfx.snoc)) | with_unfolding_all exact of_eq_true (eq_true rfl) | (simp only [List.length_append, List.length_cons, List.length_nil]; omega)) only [↓wpre0, ↓wpre1, ↓reduceIte, Int.reduceToNat, Nat.reduceAdd, Nat.reduceMul, Nat.reduceEqDiff, wpost0, wpost1, wpost2, wpost3, wpost4, ite_self, ite_true, ite_false, if_true, if_false, tze30, xbls26_0, xbls26_1, xbls28_0, xbls28_1, xbld30_0_2, xst30, bin_add, bin_lss, xfad30_0, xld26, bin_mul, xbld69_0, xst26, xfad30_1, xst27, bin_gtr, xfad30_2, xld28, xst28, bin_sub, xld30, fr13, wrap_int, wrap_u8, iteP_yes, iteP_no, g0, g2, g3, g4, g7] | refine iteP_two (fun hc hd => ?_) (fun hc hd => ?_) | refine iteP_intro (fun hc => ?_) (fun hc => ?_))
          refine WG_seq.2 (WG_block.2 ?_)
          have hVb := hVs.bof.1
          have hsbl : h.length + 1 ≤ sb := hVb
          obtain ⟨r, H5, ⟨n5, hc5⟩, ws, hws, _, hVw, S6, o6⟩ := DrawComplexes_c hW (n := i) (by omega) hSi hro hq (by omega) hl
          obtain ⟨_, wb', wc', rfl, hwb', _, _⟩ := hVw
          have l6 := o6.1
          have D6 := (o6.2 (h.length + 3) (by omega) (by omega)).trans hD
          have hV6 := VN.dst hVs o6 (by omega)
          obtain ⟨H7, ap, vg, old, hHl⟩ := acc1 (P := Tryd.prog) (ro := ro) (T := 28) (h := H5) (v := .slice (some ⟨wb', 0, none⟩) i wc') tel28 tsz27 tby27 tze27 (.inl hV6) (by omega) (by omega) rfl (by omega) (by omega)
          have keep : ∀ j, j < H5.length → j ≠ sb → H7[j]? = H5[j]? := fun j h1 h2 => old.2.1 j h1 (.inr h2)
          have DH := (keep (h.length + 3) (by omega) (Ne.symm hsb)).trans D6
          have pt := put3 (ro := ro) (i := 2) (v := .slice (some ⟨H5.length + 1, 0, none⟩) (k + 1) (k + 1 + 1)) DH (by omega) (by simp) rfl rfl
          have bl : bldS Tryd.prog H5 28 1 [(0, .slice (some ⟨wb', 0, none⟩) i wc')] = some (.slice (some ⟨H5.length, 0, none⟩) 1 1, H5 ++ [⟨27, [.slice (some ⟨wb', 0, none⟩) i wc']⟩]) := xbls28_1 rfl rfl
          have ldA : ∀ g : Heap, g[h.length + 3]? = some ⟨30, [.slice (some ⟨yb, 0, none⟩) i yc, .slice (some ⟨wb, 0, none⟩) i wc, .slice (some ⟨sb, 0, none⟩) k sc]⟩ → ld Tryd.prog g 28 (.pointer (some ⟨h.length + 3, 2, none⟩)) = some (.slice (some ⟨sb, 0, none⟩) k sc) := fun g hg => by
            rw [xld28]
            exact cellb hg
          obtain ⟨Vf, hVf⟩ : ∃ Vf : Nat → Value, Vf = fun q => match q with | 0 => .pointer (some ⟨h.length + 3, 2, none⟩) | 1 => .slice (some ⟨sb, 0, none⟩) k sc | 2 => .pointer (some ⟨b, 0, none⟩) | 3 => .int .i64 i | 4 => .slice (some ⟨wb', 0, none⟩) i wc' | 5 => .slice (some ⟨H5.length, 0, none⟩) 1 1 | 6 => .slice (some ⟨H5.length + 1, 0, none⟩) (k + 1) (k + 1 + 1) | 7 => .pointer (some ⟨h.length + 3, 2, none⟩) | _ => undef := ⟨_, rfl⟩
          obtain ⟨Hf, hHf⟩ : ∃ Hf : Nat → Heap, Hf = fun q => match q with | 0 => h' | 1 => h' | 2 => h' | 3 => h' | 4 => h' | 5 => H5 | 6 => H5 ++ [⟨27, [.slice (some ⟨wb', 0, none⟩) i wc']⟩] | 7 => H7 | 8 => H7 | _ => H7.set (h.length + 3) ⟨30, splice [.slice (some ⟨yb, 0, none⟩) i yc, .slice (some ⟨wb, 0, none⟩) i wc, .slice (some ⟨sb, 0, none⟩) k sc] 2 [.slice (some ⟨H5.length + 1, 0, none⟩) (k + 1) (k + 1 + 1)]⟩ := ⟨_, rfl⟩
          have z0 : (updO (updO e (some 37) (.int .i64 ((v5 - k : Nat) : Int))) (some 38) (.bool (decide (0 < ((v5 - k : Nat) : Int))))) 0 = .pointer (some ⟨b, 0, none⟩) := g0
          have z3 : (updO (updO e (some 37) (.int .i64 ((v5 - k : Nat) : Int))) (some 38) (.bool (decide (0 < ((v5 - k : Nat) : Int))))) 3 = .pointer (some ⟨h.length + 3, 0, none⟩) := g3
          have z4 : (updO (updO e (some 37) (.int .i64 ((v5 - k : Nat) : Int))) (some 38) (.bool (decide (0 < ((v5 - k : Nat) : Int))))) 4 = .int .i64 i := g4
          have z2 : (updO (updO e (some 37) (.int .i64 ((v5 - k : Nat) : Int))) (some 38) (.bool (decide (0 < ((v5 - k : Nat) : Int))))) 2 = .pointer (some ⟨h.length, 0, none⟩) := g2
          have z7 : (updO (updO e (some 37) (.int .i64 ((v5 - k : Nat) : Int))) (some 38) (.bool (decide (0 < ((v5 - k : Nat) : Int))))) 7 = .int .i64 ((v5 - k : Nat) : Int) := g7
          generalize updO (updO e (some 37) (.int .i64 ((v5 - k : Nat) : Int))) (some 38) (.bool (decide (0 < ((v5 - k : Nat) : Int)))) = e0 at z0 z2 z3 z4 z7 ⊢
          obtain ⟨Ef, hEf⟩ : ∃ Ef : Nat → Env, Ef = fun q => Nat.rec e0 (fun j E => updO E (match j with | 0 => some 41 | 1 => some 42 | 2 => some 43 | 3 => some 44 | 4 => some 45 | 5 => some 46 | 6 => some 47 | 7 => some 48 | _ => none) (Vf j)) q := ⟨_, rfl⟩
          refine WG_dyn (e' := Ef 9) (h' := Hf 9) (by kernel_rfl) ⟨n5, Ef, Hf, Vf, fun q => q == 4 || q == 5 || q == 6 || q == 8, ?_, by rw [hEf]; rfl, by rw [hHf]; rfl, rfl, rfl, ?_⟩ ?_
          · have hH6 : (H5 ++ [(⟨27, [.slice (some ⟨wb', 0, none⟩) i wc']⟩ : Blk)])[h.length + 3]? = some ⟨30, [.slice (some ⟨yb, 0, none⟩) i yc, .slice (some ⟨wb, 0, none⟩) i wc, .slice (some ⟨sb, 0, none⟩) k sc]⟩ := by rw [get_skip (by omega)]; exact D6
            refine dynFacts_of (ex := fun p q => q == 1 && (p == 4 || p == 5)) (by kernel_rfl) (fun q hz => ?_) (fun p q o ho hex => ?_)
            · subst hHf
              rcases q with _ | _ | _ | _ | _ | _ | _ | _ | _ | q
              all_goals first | rfl | (simp at hz; done) | skip
            · simp only [Bool.and_eq_true, beq_iff_eq, Bool.or_eq_true] at hex
              obtain ⟨rfl, hp⟩ := hex
              subst hEf hHf hVf
              change some _ = some o at ho
              cases ho
              rcases hp with rfl | rfl
              · exact ⟨(by show (ld Tryd.prog h' 28 (.pointer (some ⟨h.length + 3, 2, none⟩))).map _ = _; rw [ldA h' hD]; rfl), (by show (ld Tryd.prog H5 28 (.pointer (some ⟨h.length + 3, 2, none⟩))).map _ = _; rw [ldA H5 D6]; rfl)⟩
              · exact ⟨(by show (ld Tryd.prog H5 28 (.pointer (some ⟨h.length + 3, 2, none⟩))).map _ = _; rw [ldA H5 D6]; rfl), (by show (ld Tryd.prog (H5 ++ [(⟨27, [.slice (some ⟨wb', 0, none⟩) i wc']⟩ : Blk)]) 28 (.pointer (some ⟨h.length + 3, 2, none⟩))).map _ = _; rw [ldA _ hH6]; rfl)⟩
          · intro q o ho
            rcases Nat.lt_or_ge q 9 with hq9 | hq9
            · have hc5' : callN Tryd.prog ro X n5 27 [.pointer (some ⟨b, 0, none⟩), .int .i64 i] h' = some (.slice (some ⟨wb', 0, none⟩) i wc', H5) := hc5
              subst hEf hHf hVf
              rcases q with _ | _ | _ | _ | _ | _ | _ | _ | _ | q
              all_goals (try omega)
              all_goals (change some _ = some o at ho; cases ho; refine ⟨.inl ⟨rfl, ?_⟩, rfl⟩)
              · show (fadr Tryd.prog 30 (e0 3) 2).map _ = _
                rw [z3]; rfl
              · show (ld Tryd.prog h' 28 (.pointer (some ⟨h.length + 3, 2, none⟩))).map _ = _
                rw [ldA h' hD]; rfl
              · show some (e0 0, h') = _
                rw [z0]; rfl
              · show some (e0 4, h') = _
                rw [z4]; rfl
              · exact hc5'
              · exact bl
              · exact ap
              · show (fadr Tryd.prog 30 (e0 3) 2).map _ = _
                rw [z3]; rfl
              · show (stv Tryd.prog ro H7 28 (.pointer (some ⟨h.length + 3, 2, none⟩)) (.slice (some ⟨H5.length + 1, 0, none⟩) (k + 1) (k + 1 + 1))).map _ = _
                rw [show stv Tryd.prog ro H7 28 (.pointer (some ⟨h.length + 3, 2, none⟩)) (.slice (some ⟨H5.length + 1, 0, none⟩) (k + 1) (k + 1 + 1)) = put ro H7 (h.length + 3) 2 1 (.slice (some ⟨H5.length + 1, 0, none⟩) (k + 1) (k + 1 + 1)) from xst28, pt]
                rfl
            · rw [Array.getElem?_eq_none (by simpa using hq9)] at ho; cases ho
          · have f0 : Ef 9 0 = .pointer (some ⟨b, 0, none⟩) := by subst hEf hVf; exact z0
            have f2 : Ef 9 2 = .pointer (some ⟨h.length, 0, none⟩) := by subst hEf hVf; exact z2
            have f3 : Ef 9 3 = .pointer (some ⟨h.length + 3, 0, none⟩) := by subst hEf hVf; exact z3
            have f4 : Ef 9 4 = .int .i64 i := by subst hEf hVf; exact z4
            have f7 : Ef 9 7 = .int .i64 ((v5 - k : Nat) : Int) := by subst hEf hVf; exact z7
            have h9 : Hf 9 = H7.set (h.length + 3) ⟨30, [.slice (some ⟨yb, 0, none⟩) i yc, .slice (some ⟨wb, 0, none⟩) i wc, .slice (some ⟨H5.length + 1, 0, none⟩) (k + 1) (k + 1 + 1)]⟩ := by subst hHf; rfl
            generalize Ef 9 = e9 at f0 f2 f3 f4 f7 ⊢
            rw [h9]
            have SH : SRC lo hi b (A + 202 + (k + 1) * 200) x cd H7 := (S6.frame (keep b (by omega) (by omega)) fun j h1 h2 => keep j (by omega) (by omega)).more (by omega)
            have dH : Dst b h H7 := ⟨by omega, fun j hj hjb => by rw [keep j (by omega) (by omega)]; exact (hdi.trans o6).2 j hj hjb⟩
            have RH : H7[h.length]? = some ⟨30, [.slice none 0 0, .slice none 0 0, .slice none 0 0]⟩ := by rw [keep _ (by omega) (by omega), o6.2 _ (by omega) (by omega)]; exact hR
            refine WG_good (N := 50) (by kernel_rfl) ?_
            (repeat' first | simp -dsimp (disch := first | omega | assumption | (refine OkS.sto ?_ (by omega); first | assumption | (refine OkS.sto ?_ (by omega); first | assumption | (refine OkS.sto ?_ (by omega); first | assumption | (refine OkS.sto ?_ (by omega); first | assumption | (refine OkS.sto ?_ (by omega); first | assumption | (refine OkS.sto ?_ (by omega); first | assumption)))))) | exact Pfx.refl _ | (apply Pfx.snoc; repeat (first | exact Pfx.refl _ | assumption | apply Pfx.snoc)) | with_unfolding_all exact of_eq_true (eq_true rfl) | (simp only [List.length_append, List.length_cons, List.length_nil]; omega)) only [↓wpre0, ↓wpre1, ↓reduceIte, Int.reduceToNat, Nat.reduceAdd, Nat.reduceMul, Nat.reduceEqDiff, wpost0, wpost1, wpost2, wpost3, wpost4, ite_self, ite_true, ite_false, if_true, if_false, tze30, xbls26_0, xbls26_1, xbls28_0, xbls28_1, xbld30_0_2, xst30, bin_add, bin_lss, xfad30_0, xld26, bin_mul, xbld69_0, xst26, xfad30_1, xst27, bin_gtr, xfad30_2, xld28, xst28, bin_sub, xld30, fr13, wrap_int, wrap_u8, iteP_yes, iteP_no, f0, f2, f3, f4, f7] | refine iteP_two (fun hc hd => ?_) (fun hc hd => ?_) | refine iteP_intro (fun hc => ?_) (fun hc => ?_))
            exact ⟨v5 - (k + 1), by omega, k + 1, H5.length + 1, k + 1 + 1, _, rfl, by omega, by rw [show ((v5 - k : Nat) : Int) - 1 = ((v5 - (k + 1) : Nat) : Int) by omega], vg.frame (List.getElem?_set_ne (by show h.length + 3 ≠ H5.length + 1; omega)), by omega, List.getElem?_set_self (by omega), SH.set (by omega) hq, dH.set (by omega), by rw [List.length_set]; omega, by rw [List.getElem?_set_ne (by omega)]; exact RH⟩
        · (repeat' first | simp -dsimp (disch := first | omega | assumption | (refine OkS.sto ?_ (by omega); first | assumption | (refine OkS.sto ?_ (by omega); first | assumption | (refine OkS.sto ?_ (by omega); first | assumption | (refine OkS.sto ?_ (by omega); first | assumption | (refine OkS.sto ?_ (by omega); first | assumption | (refine OkS.sto ?_ (by omega); first | assumption)))))) | exact Pfx.refl _ | (apply Pfx.snoc; repeat (first | exact Pfx.refl _ | assumption | apply Pfx.snoc)) | with_unfolding_all exact of_eq_true (eq_true rfl) | (simp only [List.length_append, List.length_cons, List.length_nil]; omega)) only [↓wpre0, ↓wpre1, ↓reduceIte, Int.reduceToNat, Nat.reduceAdd, Nat.reduceMul, Nat.reduceEqDiff, wpost0, wpost1, wpost2, wpost3, wpost4, ite_self, ite_true, ite_false, if_true, if_false, tze30, xbls26_0, xbls26_1, xbls28_0, xbls28_1, xbld30_0_2, xst30, bin_add, bin_lss, xfad30_0, xld26, bin_mul, xbld69_0, xst26, xfad30_1, xst27, bin_gtr, xfad30_2, xld28, xst28, bin_sub, xld30, fr13, wrap_int, wrap_u8, iteP_yes, iteP_no, g0, g2, g3, g4, g7] | refine iteP_two (fun hc hd => ?_) (fun hc hd => ?_) | refine iteP_intro (fun hc => ?_) (fun hc => ?_))
          have cD : cells h' (h.length + 3) 0 3 = some (.agg ⟨[.slice (some ⟨yb, 0, none⟩) i yc, .slice (some ⟨wb, 0, none⟩) i wc, .slice (some ⟨sb, 0, none⟩) k sc]⟩) := cellsb hD (by simp)
          have pR : put ro h' h.length 0 3 (.agg ⟨[.slice (some ⟨yb, 0, none⟩) i yc, .slice (some ⟨wb, 0, none⟩) i wc, .slice (some ⟨sb, 0, none⟩) k sc]⟩) = some (h'.set h.length ⟨30, [.slice (some ⟨yb, 0, none⟩) i yc, .slice (some ⟨wb, 0, none⟩) i wc, .slice (some ⟨sb, 0, none⟩) k sc]⟩) := putb (ro := ro) (n := 3) (o := 0) (v := .agg ⟨[.slice (some ⟨yb, 0, none⟩) i yc, .slice (some ⟨wb, 0, none⟩) i wc, .slice (some ⟨sb, 0, none⟩) k sc]⟩) hR (by omega) rfl (by simp [cellsOf]) rfl
          have cR : cells (h'.set h.length ⟨30, [.slice (some ⟨yb, 0, none⟩) i yc, .slice (some ⟨wb, 0, none⟩) i wc, .slice (some ⟨sb, 0, none⟩) k sc]⟩) h.length 0 3 = some (.agg ⟨[.slice (some ⟨yb, 0, none⟩) i yc, .slice (some ⟨wb, 0, none⟩) i wc, .slice (some ⟨sb, 0, none⟩) k sc]⟩) := cellsb (List.getElem?_set_self (by omega)) (by simp)
          have hnf : ∀ h1 h2, endH (.agg ⟨[.slice (some ⟨yb, 0, none⟩) i yc, .slice (some ⟨wb, 0, none⟩) i wc, .slice (some ⟨sb, 0, none⟩) k sc]⟩) h1 h2 = h2 := fun h1 h2 => endH_not rfl
          refine WG_good (N := 50) (by kernel_rfl) ?_
          (repeat' first | simp -dsimp (disch := first | omega | assumption | (refine OkS.sto ?_ (by omega); first | assumption | (refine OkS.sto ?_ (by omega); first | assumption | (refine OkS.sto ?_ (by omega); first | assumption | (refine OkS.sto ?_ (by omega); first | assumption | (refine OkS.sto ?_ (by omega); first | assumption | (refine OkS.sto ?_ (by omega); first | assumption)))))) | exact Pfx.refl _ | (apply Pfx.snoc; repeat (first | exact Pfx.refl _ | assumption | apply Pfx.snoc)) | with_unfolding_all exact of_eq_true (eq_true rfl) | (simp only [List.length_append, List.length_cons, List.length_nil]; omega)) only [↓wpre0, ↓wpre1, ↓reduceIte, Int.reduceToNat, Nat.reduceAdd, Nat.reduceMul, Nat.reduceEqDiff, wpost0, wpost1, wpost2, wpost3, wpost4, ite_self, ite_true, ite_false, if_true, if_false, tze30, xbls26_0, xbls26_1, xbls28_0, xbls28_1, xbld30_0_2, xst30, bin_add, bin_lss, xfad30_0, xld26, bin_mul, xbld69_0, xst26, xfad30_1, xst27, bin_gtr, xfad30_2, xld28, xst28, bin_sub, xld30, fr13, wrap_int, wrap_u8, iteP_yes, iteP_no, g0, g2, g3, g4, g7, cD, pR, cR, hnf] | refine iteP_two (fun hc hd => ?_) (fun hc hd => ?_) | refine iteP_intro (fun hc => ?_) (fun hc => ?_))
          exact ⟨b, _, _, _, _, _, _, _, _, _, rfl, rfl, hn4, hdi.set (Nat.le_refl _)⟩
      · simp only [updO_at, updO_not, entry_at, List.getD_cons_zero, List.getD_cons_succ, ↓reduceIte, Nat.reduceEqDiff, true_and, and_true]
        exact ⟨by omega, g0, g2, g3, g4, rfl, V5, by omega, D5, S5.more (by omega), d5, by omega, R5⟩
end Go.Proofs.YtikanmboimjhgaaDoor.Sim
