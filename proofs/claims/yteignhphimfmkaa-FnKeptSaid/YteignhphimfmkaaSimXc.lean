/- That a region whose operations see no difference, in the order of the text, stands for that of the model in whatever order it draws. Lemmas only; no condition. -/
import Derived.Test.YteignhphimfmkaaSimK
import Derived.Test.YteignhphimfmkaaSimM
import Derived.Test.YteignhphimfmkaaJob
import Derived.Test.YteignhphimfmkaaSimP
import Derived.Test.YteignhphimfmkaaSimXp
set_option linter.unusedSimpArgs false
namespace Go.Proofs.Yteignhphimfmkaa.Sim
open Go Go.RowKit

variable {P : Program} {ro : Nat} {B : Base}
def EdgeFacts (ops : Array Oper) : Prop := ∀ (i : Nat) (o : Oper) (e : Edge), ops[i]? = some o → e ∈ (edgesOf o) → Region.binds .any e = true ∧ e.on < i
theorem ready_iffE {ops : Array Oper} {listed : Array Bool} (hl : listed.size = ops.size) {i : Nat} (h : i ∈ Region.ready .any ops listed) (hd : EdgeFacts ops) : ∃ o, ops[i]? = some o ∧ listed.getD i false = false ∧ ∀ e ∈ (edgesOf o), listed.getD e.on false = true := by
  unfold Region.ready at h
  simp only [List.mem_filter, List.mem_range, Bool.and_eq_true, Bool.not_eq_true'] at h
  obtain ⟨hlt, h1, h2⟩ := h
  refine ⟨ops[i], Array.getElem?_eq_getElem hlt, ?_, ?_⟩
  · have hi : i < listed.size := by omega
    rw [Array.getD_eq_getD_getElem?, Array.getElem?_eq_getElem hi] at h1 ⊢
    exact h1
  · rw [Array.getElem?_eq_getElem hlt] at h2
    simp only [Option.map_some, Option.getD_some, ← Array.all_toList, List.all_eq_true, Bool.or_eq_true, Bool.not_eq_true'] at h2
    intro e he
    have hb := (hd i _ e (Array.getElem?_eq_getElem hlt) he).1
    rcases h2 e (List.mem_filter.1 he).1 with q | q
    · rw [hb] at q; cases q
    · exact q
theorem ready_nilE {ops : Array Oper} {listed : Array Bool} (hl : listed.size = ops.size) (h : Region.ready .any ops listed = []) (hd : EdgeFacts ops) : ∀ i, i < ops.size → listed.getD i false = true := by
  intro i
  induction i using Nat.strongRecOn with
  | _ i ih =>
    intro hi
    cases hv : listed.getD i false with
    | true => rfl
    | false =>
      exfalso
      have hm : i ∈ Region.ready .any ops listed := by
        unfold Region.ready
        simp only [List.mem_filter, List.mem_range, Bool.and_eq_true, Bool.not_eq_true']
        refine ⟨hi, ?_, ?_⟩
        · have hi' : i < listed.size := by omega
          rw [Array.getD_eq_getD_getElem?, Array.getElem?_eq_getElem hi'] at hv ⊢
          exact hv
        · rw [Array.getElem?_eq_getElem hi]
          simp only [Option.map_some, Option.getD_some, ← Array.all_toList, List.all_eq_true, Bool.or_eq_true]
          intro e he
          cases hbe : Region.binds .any e with
          | false => exact .inl rfl
          | true =>
            have hb := hd i _ e (Array.getElem?_eq_getElem hi) (List.mem_filter.2 ⟨he, hbe⟩)
            exact .inr (ih e.on hb.2 (by omega))
      rw [h] at hm; cases hm
theorem ord_ltE {ops : Array Oper} (hd : EdgeFacts ops) : ∀ (j i : Nat) (o : Oper), ops[j]? = some o → ordB (befs ops.toList []) i j = true → i < j := by
  intro j
  induction j using Nat.strongRecOn with
  | _ j ih =>
    intro i o hj ho
    obtain ⟨e, he, h | ⟨h1, h2⟩⟩ := ord_why hj ho
    · rw [← h]; exact (hd j o e hj he).2
    · have hlt : e.on < ops.size := Nat.lt_trans h1 (lt_of_get hj)
      have := ih e.on h1 i _ (Array.getElem?_eq_getElem hlt) h2
      omega

def HZ (nz : Nat → Bool) (ops : Array Oper) (h0 : Heap) (H : Nat → Heap) (S : Nat → Bool) : Nat → Heap
  | 0 => h0
  | n + 1 => if S n && nz n then H (n + 1) else HZ nz ops h0 H S n
theorem HZ_agree {nz : Nat → Bool} {ops : Array Oper} {h0 : Heap} {H : Nat → Heap} {S S' : Nat → Bool} : ∀ (n : Nat), (∀ k, k < n → nz k = true → S k = S' k) → HZ nz ops h0 H S n = HZ nz ops h0 H S' n
  | 0, _ => rfl
  | n + 1, h => by
    have ih := HZ_agree (ops := ops) (h0 := h0) (H := H) n fun k hk => h k (by omega)
    simp only [HZ]
    cases hq : nz n with
    | false => simpa using ih
    | true => rw [h n (by omega) hq, ih]
theorem HZ_last {nz : Nat → Bool} {ops : Array Oper} {h0 : Heap} {H : Nat → Heap} {S : Nat → Bool} {i : Nat} (hd : nz i = true) (hS : S i = true) : ∀ (n : Nat), i < n → (∀ k, i < k → k < n → nz k = true → S k = false) → HZ nz ops h0 H S n = H (i + 1)
  | 0, h, _ => by omega
  | n + 1, h, hk => by
    simp only [HZ]
    by_cases hin : i = n
    · subst hin
      simp [hS, hd]
    · have ih := HZ_last (ops := ops) (h0 := h0) (H := H) hd hS n (by omega) fun k h1 h2 => hk k h1 (by omega)
      cases hq : nz n with
      | false => simpa using ih
      | true => rw [hk n (by omega) (by omega) hq]; simpa using ih
/-- What the heap is: behind the last noisy operation that has come up. -/
theorem HZ_val {nz : Nat → Bool} {ops : Array Oper} {h0 : Heap} {H : Nat → Heap} {S : Nat → Bool} : ∀ (n : Nat), (HZ nz ops h0 H S n = h0 ∧ ∀ k, k < n → nz k = true → S k = false) ∨ ∃ m, m < n ∧ nz m = true ∧ S m = true ∧ HZ nz ops h0 H S n = H (m + 1) ∧ ∀ k, m < k → k < n → nz k = true → S k = false
  | 0 => .inl ⟨rfl, fun k h => by omega⟩
  | n + 1 => by
    simp only [HZ]
    by_cases hc : (S n && nz n) = true
    · rw [if_pos hc]
      simp only [Bool.and_eq_true] at hc
      exact .inr ⟨n, by omega, hc.2, hc.1, rfl, fun k h1 h2 => by omega⟩
    · rw [if_neg hc]
      have hn : nz n = true → S n = false := fun q => by
        cases hv : S n with
        | false => rfl
        | true => exact absurd (by rw [hv, q]; rfl) hc
      rcases HZ_val (nz := nz) (ops := ops) (h0 := h0) (H := H) (S := S) n with ⟨h1, h2⟩ | ⟨m, h1, h2, h3, h4, h5⟩
      · refine .inl ⟨h1, fun k hk hz => ?_⟩
        by_cases e : k = n
        · subst e; exact hn hz
        · exact h2 k (by omega) hz
      · refine .inr ⟨m, by omega, h2, h3, h4, fun k hk1 hk2 hz => ?_⟩
        by_cases e : k = n
        · subst e; exact hn hz
        · exact h5 k hk1 (by omega) hz
/-- The heap over quiet operations. -/
theorem quiet_run {nz : Nat → Bool} {H : Nat → Heap} (hq : ∀ i, nz i = false → H (i + 1) = H i) : ∀ (d m : Nat), (∀ k, m ≤ k → k < m + d → nz k = false) → H (m + d) = H m
  | 0, _, _ => rfl
  | d + 1, m, h => by
    rw [← Nat.add_assoc, hq (m + d) (h _ (by omega) (by omega))]
    exact quiet_run hq d m fun k h1 h2 => h k h1 (by omega)
/-- The first noisy one from a place on. -/
theorem first_noisy (nz : Nat → Bool) : ∀ (d m : Nat), (∀ k, m ≤ k → k < m + d → nz k = false) ∨ ∃ k, m ≤ k ∧ k < m + d ∧ nz k = true ∧ ∀ j, m ≤ j → j < k → nz j = false
  | 0, m => .inl fun k h1 h2 => by omega
  | d + 1, m => by
    rcases first_noisy nz d m with h | ⟨k, h1, h2, h3, h4⟩
    · cases hv : nz (m + d) with
      | true => exact .inr ⟨m + d, by omega, by omega, hv, fun j h1 h2 => h j h1 (by omega)⟩
      | false =>
        refine .inl fun k h1 h2 => ?_
        by_cases e : k = m + d
        · subst e; exact hv
        · exact h k h1 (by omega)
    · exact .inr ⟨k, h1, by omega, h3, h4⟩
structure DynFacts (P : Program) (ro : Nat) (C : Fns) (ops : Array Oper) (E : Nat → Env) (H : Nat → Heap) (V : Nat → Value) (nz : Nat → Bool) : Prop where
  edge : EdgeFacts ops
  pair : ∀ (i j : Nat) (o p : Oper), ops[i]? = some o → ops[j]? = some p → i ≠ j → clash ops o p = false ∨ ordB (befs ops.toList []) i j = true ∨ ordB (befs ops.toList []) j i = true
  quiet : ∀ i, nz i = false → H (i + 1) = H i
  tot : ∀ i j, i ≠ j → i < ops.size → j < ops.size → nz i = true → nz j = true → ordB (befs ops.toList []) i j = true ∨ ordB (befs ops.toList []) j i = true
  steady : ∀ (i j : Nat) (p : Oper), ops[j]? = some p → i < ops.size → nz i = true → nz j = false → wants ops (E j) p = true → ordB (befs ops.toList []) i j = true ∨ ordB (befs ops.toList []) j i = true ∨ deafOp P p.op = true ∨ (aop P ro C p.op (E j) (H i) = some (V j, H i) ∧ aop P ro C p.op (E j) (H (i + 1)) = some (V j, H (i + 1)))
theorem any_dyn {C : Fns} (hC : Snd P ro B C) {N : Nat} {ops : Array Oper} {E : Nat → Env} {H : Nat → Heap} {V : Nat → Value} {nz : Nat → Bool} (hd : DynFacts P ro C ops E H V nz) (hok : ∀ o ∈ ops.toList, opOk o.op = true ∧ dstOk N o = true) {e0 e' : Env} {h0 h' : Heap} (t1 : E 0 = e0) (t2 : H 0 = h0) (t3 : E ops.size = e') (t4 : H ops.size = h') (t5' : ∀ (i : Nat) (o : Oper), ops[i]? = some o → ((wants ops (E i) o = true ∧ aop P ro C o.op (E i) (H i) = some (V i, H (i + 1))) ∨ (wants ops (E i) o = false ∧ V i = undef ∧ H (i + 1) = H i)) ∧ E (i + 1) = updO (E i) o.dst (V i)) {ρ0 : List Loc} {w0 : World} {Q : Exit → Act → World → Prop}
    (hq : ∀ a' w' ρ', Pre ρ0 ρ' → SR P ro B ρ' h' w' → AR P ro ρ' N e' a' → Below B.n w0 w' → Q .normal a' w') {a0 : Act} (hs0 : SR P ro B ρ0 h0 w0) (hB0 : B.n ≤ w0.heap.size) (hA0 : AR P ro ρ0 N e0 a0) :
    wpAny P .any ops Q ops.size (Array.replicate ops.size false) a0 w0 := by
  -- what a full beginning leaves
  have Epre : ∀ (i n : Nat), n ≤ ops.size → (∀ t, n ≤ i → ES ops e0 V (fun k => decide (k < i)) n t = E n t) ∧ (∀ t, i ≤ n → ES ops e0 V (fun k => decide (k < i)) n t = E i t) := by
    intro i n
    induction n with
    | zero => intro _; exact ⟨fun t _ => by simp only [ES, t1], fun t h => by rw [Nat.le_zero.1 h]; simp only [ES, t1]⟩
    | succ n ih =>
      intro hn
      obtain ⟨ih1, ih2⟩ := ih (by omega)
      have hg : ops[n]? = some ops[n] := Array.getElem?_eq_getElem (by omega)
      have step : ∀ t, n + 1 ≤ i → ES ops e0 V (fun k => decide (k < i)) (n + 1) t = E (n + 1) t := by
        intro t h
        simp only [ES, hg]
        rw [if_pos (by simp; omega), (t5' n _ hg).2]
        have : ES ops e0 V (fun k => decide (k < i)) n = E n := funext fun t => ih1 t (by omega)
        rw [this]
      refine ⟨step, fun t h => ?_⟩
      by_cases hin : i = n + 1
      · subst hin; exact step t (Nat.le_refl _)
      · simp only [ES, hg]
        rw [if_neg (by simp; omega)]
        exact ih2 t (by omega)
  have Hpre : ∀ (i n : Nat), n ≤ ops.size → (n ≤ i → HZ nz ops h0 H (fun k => decide (k < i)) n = H n) ∧ (i ≤ n → HZ nz ops h0 H (fun k => decide (k < i)) n = H i) := by
    intro i n
    induction n with
    | zero => intro _; exact ⟨fun _ => by simp only [HZ, t2], fun h => by rw [Nat.le_zero.1 h]; simp only [HZ, t2]⟩
    | succ n ih =>
      intro hn
      obtain ⟨ih1, ih2⟩ := ih (by omega)
      have hg : ops[n]? = some ops[n] := Array.getElem?_eq_getElem (by omega)
      have step : n + 1 ≤ i → HZ nz ops h0 H (fun k => decide (k < i)) (n + 1) = H (n + 1) := by
        intro h
        simp only [HZ]
        cases hqo : nz n with
        | false => simp only [Bool.and_false, Bool.false_eq_true, if_false]; rw [ih1 (by omega), hd.quiet n hqo]
        | true => rw [if_pos (by simp; omega)]
      refine ⟨step, fun h => ?_⟩
      by_cases hin : i = n + 1
      · subst hin; exact step (Nat.le_refl _)
      · simp only [HZ]
        rw [if_neg (by simp; omega)]
        exact ih2 (by omega)
  -- the rounds
  have rounds : ∀ (fuel : Nat) (listed : Array Bool) (a : Act) (w : World) (ρ : List Loc), listed.size = ops.size → ops.size ≤ fuel + listed.toList.countP id →
      Closed ops (fun n => listed.getD n false) → Pre ρ0 ρ → SR P ro B ρ (HZ nz ops h0 H (fun n => listed.getD n false) ops.size) w → AR P ro ρ N (ES ops e0 V (fun n => listed.getD n false) ops.size) a → Below B.n w0 w →
      wpAny P .any ops Q fuel listed a w := by
    intro fuel
    induction fuel with
    | zero =>
      intro listed a w ρ hl hc hcl hp hs hA hb
      have hall := count_full (l := listed) (by omega)
      refine ⟨?_, ?_⟩
      · refine List.eq_nil_iff_forall_not_mem.2 fun i hi => ?_
        obtain ⟨o, ho, h1, _⟩ := ready_iffE hl hi hd.edge
        rw [hall i (by rw [hl]; exact lt_of_get ho)] at h1; cases h1
      · have e1 : ES ops e0 V (fun n => listed.getD n false) ops.size = e' := funext fun t => by
          rw [ES_agree (S' := fun k => decide (k < ops.size)) ops.size (fun k o hk _ _ => by rw [hall k (by omega)]; simp [hk]), ← t3]
          exact (Epre ops.size ops.size (Nat.le_refl _)).1 t (Nat.le_refl _)
        have e2 : HZ nz ops h0 H (fun n => listed.getD n false) ops.size = h' := by
          rw [HZ_agree (S' := fun k => decide (k < ops.size)) ops.size (fun k hk _ => by rw [hall k (by omega)]; simp [hk]), ← t4]
          exact (Hpre ops.size ops.size (Nat.le_refl _)).1 (Nat.le_refl _)
        rw [e1] at hA; rw [e2] at hs
        exact hq a w ρ hp hs hA hb
    | succ fuel ih =>
      intro listed a w ρ hl hc hcl hp hs hA hb
      refine ⟨fun hnil => ?_, fun i hi => ?_⟩
      · have hall := ready_nilE hl hnil hd.edge
        have e1 : ES ops e0 V (fun n => listed.getD n false) ops.size = e' := funext fun t => by
          rw [ES_agree (S' := fun k => decide (k < ops.size)) ops.size (fun k o hk _ _ => by rw [hall k (by omega)]; simp [hk]), ← t3]
          exact (Epre ops.size ops.size (Nat.le_refl _)).1 t (Nat.le_refl _)
        have e2 : HZ nz ops h0 H (fun n => listed.getD n false) ops.size = h' := by
          rw [HZ_agree (S' := fun k => decide (k < ops.size)) ops.size (fun k hk _ => by rw [hall k (by omega)]; simp [hk]), ← t4]
          exact (Hpre ops.size ops.size (Nat.le_refl _)).1 (Nat.le_refl _)
        rw [e1] at hA; rw [e2] at hs
        exact hq a w ρ hp hs hA hb
      · obtain ⟨o, ho, hni, hpre⟩ := ready_iffE hl hi hd.edge
        have hilt := lt_of_get ho
        have hSlt : ∀ j, (fun n => listed.getD n false) j = true → j < ops.size := by
          intro j hj
          rcases Nat.lt_or_ge j ops.size with q | q
          · exact q
          · simp only [Array.getD_eq_getD_getElem?] at hj
            rw [Array.getElem?_eq_none (by omega)] at hj; cases hj
        -- others that stand in an order with i
        have side : ∀ (k : Nat) (p : Oper), ops[k]? = some p → k ≠ i → (ordB (befs ops.toList []) k i = true ∨ ordB (befs ops.toList []) i k = true) → listed.getD k false = decide (k < i) := by
          intro k p hk hne hor
          rcases hor with q | q
          · have h1 := ready_ord hcl hSlt ho hpre q
            have h2 := ord_ltE hd.edge i k o ho q
            have h1' : listed.getD k false = true := h1
            rw [h1']; simp [h2]
          · have h2 := ord_ltE hd.edge k i p hk q
            have h3 : listed.getD k false = false := by
              cases hv : listed.getD k false with
              | false => rfl
              | true => have h4 : listed.getD i false = true := closed_ord hcl hSlt k i hv q; rw [hni] at h4; cases h4
            rw [h3]; symm; simp; omega
        have sideC : ∀ (k : Nat) (p : Oper), ops[k]? = some p → k ≠ i → (clash ops p o = true ∨ clash ops o p = true) → listed.getD k false = decide (k < i) := by
          intro k p hk hne hcc
          refine side k p hk hne ?_
          rcases hcc with q | q
          · rcases hd.pair k i p o hk ho hne with z | z | z
            · rw [q] at z; cases z
            · exact .inl z
            · exact .inr z
          · rcases hd.pair i k o p ho hk (Ne.symm hne) with z | z | z
            · rw [q] at z; cases z
            · exact .inr z
            · exact .inl z
        have sideN : nz i = true → ∀ k, k < ops.size → k ≠ i → nz k = true → listed.getD k false = decide (k < i) := by
          intro hzi k hk hne hzk
          exact side k _ (Array.getElem?_eq_getElem hk) hne (hd.tot k i hne hk hilt hzk hzi)
        have eqE : ∀ t ∈ looks ops o, ES ops e0 V (fun n => listed.getD n false) ops.size t = E i t := by
          intro t ht
          rw [ES_agree (S' := fun k => decide (k < i)) ops.size (fun k p hk hkp hdp => ?_)]
          · exact (Epre i ops.size (Nat.le_refl _)).2 t (by omega)
          · by_cases hki : k = i
            · subst hki; rw [hni]; simp
            · exact sideC k p hkp hki (.inl (by unfold clash; rw [hdp]; simp only [Bool.or_eq_true]; left; simpa using ht))
        have eqH : nz i = true → HZ nz ops h0 H (fun n => listed.getD n false) ops.size = H i := by
          intro hzi
          rw [HZ_agree (S' := fun k => decide (k < i)) ops.size (fun k hk hzk => ?_)]
          · exact (Hpre i ops.size (Nat.le_refl _)).2 (by omega)
          · by_cases hki : k = i
            · subst hki; rw [hni]; simp
            · exact sideN hzi k hk hki hzk
        have opQ : nz i = false → wants ops (E i) o = true → aop P ro C o.op (E i) (H i) = some (V i, H (i + 1)) → aop P ro C o.op (E i) (HZ nz ops h0 H (fun n => listed.getD n false) ops.size) = some (V i, HZ nz ops h0 H (fun n => listed.getD n false) ops.size) := by
          intro hzi hwi hop
          rw [hd.quiet i hzi] at hop
          -- an unexecuted noisy one ahead of i
          have ahead : ∀ k, k < i → nz k = true → listed.getD k false = false → aop P ro C o.op (E i) (H k) = some (V i, H k) := by
            intro k hk hzk hlk
            rcases hd.steady k i o ho (by omega) hzk hzi hwi with q | q | q | q
            · have h1 : listed.getD k false = true := ready_ord hcl hSlt ho hpre q
              rw [hlk] at h1; cases h1
            · have h2 := ord_ltE hd.edge k i _ (Array.getElem?_eq_getElem (show k < ops.size by omega)) q
              omega
            · exact deaf_op q hop _
            · exact q.1
          have from_ : ∀ m, m ≤ i → (∀ k, m ≤ k → k < ops.size → nz k = true → listed.getD k false = false) → aop P ro C o.op (E i) (H m) = some (V i, H m) := by
            intro m hm hall
            rcases first_noisy nz (i - m) m with h | ⟨k, h1, h2, h3, h4⟩
            · have e := quiet_run hd.quiet (i - m) m h
              rw [show m + (i - m) = i by omega] at e
              rw [← e]; exact hop
            · have e := quiet_run hd.quiet (k - m) m fun j j1 j2 => h4 j j1 (by omega)
              rw [show m + (k - m) = k by omega] at e
              rw [← e]
              exact ahead k (by omega) h3 (hall k h1 (by omega) h3)
          rcases HZ_val (nz := nz) (ops := ops) (h0 := h0) (H := H) (S := fun n => listed.getD n false) ops.size with ⟨h1, h2⟩ | ⟨m, m1, m2, m3, m4, m5⟩
          · rw [h1, ← t2]
            exact from_ 0 (Nat.zero_le _) fun k _ hk hz => h2 k hk hz
          · rw [m4]
            rcases hd.steady m i o ho m1 m2 hzi hwi with q | q | q | q
            · have hlt := ord_ltE hd.edge i m o ho q
              exact from_ (m + 1) hlt fun k k1 k2 hz => m5 k (by omega) k2 hz
            · have h4 : listed.getD i false = true := closed_ord hcl hSlt m i m3 q
              rw [hni] at h4; cases h4
            · exact deaf_op q hop _
            · exact q.2
        have hil : i < listed.size := by omega
        have getS : ∀ k, (listed.setIfInBounds i true).getD k false = if k = i then true else listed.getD k false := by
          intro k
          rw [Array.getD_eq_getD_getElem?, Array.getD_eq_getD_getElem?]
          by_cases hki : k = i
          · subst hki; rw [Array.getElem?_setIfInBounds_self_of_lt hil, if_pos rfl]; rfl
          · rw [Array.getElem?_setIfInBounds_ne (Ne.symm hki), if_neg hki]
        -- the state behind
        have nextE : ES ops e0 V (fun n => (listed.setIfInBounds i true).getD n false) ops.size = updO (ES ops e0 V (fun n => listed.getD n false) ops.size) o.dst (V i) := by
          funext t
          by_cases hdt : o.dst = some t
          · rw [hdt, updO_eq]
            refine ES_last ho hdt (by simp only [getS, if_pos]) ops.size hilt fun k p h1 h2 hkp hdp => ?_
            simp only [getS]
            rw [if_neg (by omega), sideC k p hkp (by omega) (.inl (by unfold clash; rw [hdp]; simp only [Bool.or_eq_true]; right; simp [hdt]))]
            simp; omega
          · rw [updO_ne hdt]
            refine ES_agree ops.size fun k p hk hkp hdp => ?_
            simp only [getS]
            rw [if_neg]
            intro hki; subst hki; rw [ho] at hkp; cases hkp; exact hdt hdp
        have nextH : HZ nz ops h0 H (fun n => (listed.setIfInBounds i true).getD n false) ops.size = if nz i then H (i + 1) else HZ nz ops h0 H (fun n => listed.getD n false) ops.size := by
          cases hqo : nz i with
          | false =>
            rw [if_neg (by simp)]
            refine HZ_agree ops.size fun k hk hzk => ?_
            simp only [getS]
            rw [if_neg]
            intro hki; subst hki; rw [hqo] at hzk; cases hzk
          | true =>
            rw [if_pos rfl]
            refine HZ_last hqo (by simp only [getS, if_pos]) ops.size hilt fun k h1 h2 hzk => ?_
            simp only [getS]
            rw [if_neg (by omega), sideN hqo k h2 (by omega) hzk]
            simp; omega
        have hcl' : Closed ops (fun n => (listed.setIfInBounds i true).getD n false) := by
          intro j p ed hj hSj hed
          simp only [getS] at hSj ⊢
          by_cases hji : j = i
          · subst hji
            rw [ho] at hj; cases hj
            have := hpre ed hed
            split
            · rfl
            · exact this
          · rw [if_neg hji] at hSj
            have := hcl j p ed hj hSj hed
            split
            · rfl
            · exact this
        have hcount : ops.size ≤ fuel + (listed.setIfInBounds i true).toList.countP id := by rw [count_set hil hni]; omega
        have hok' := hok o (by rw [← Array.getElem?_toList] at ho; exact List.mem_of_getElem? ho)
        unfold wpOp
        rw [ho]
        simp only
        rw [hA.wants]
        have hwant : wants ops (ES ops e0 V (fun n => listed.getD n false) ops.size) o = wants ops (E i) o := wants_congr fun t ht => eqE t (by unfold looks; simp [ht])
        rw [hwant]
        rcases (t5' i o ho).1 with ⟨hw, hop⟩ | ⟨hw, hv, hH⟩
        · rw [if_pos hw]
          refine .inl (aop_snd hC (h' := if nz i then H (i + 1) else HZ nz ops h0 H (fun n => listed.getD n false) ops.size) (v := V i) hs (Nat.le_trans hB0 hb.size) hA.er hok'.1 ?_ fun v' w' ρ' q1 q2 q3 q4 => ?_)
          · rw [aop_congr (e' := E i) fun t ht => eqE t (by unfold looks; simp [ht])]
            cases hzi : nz i with
            | true => rw [if_pos rfl, eqH hzi]; exact hop
            | false => rw [if_neg (by simp)]; exact opQ hzi hw hop
          · refine ih _ _ _ ρ' (by simpa using hl) hcount hcl' (hp.trans q1) ?_ ?_ (hb.trans q4)
            · rw [nextH]; exact q2
            · rw [nextE]; exact (hA.mono q1).put (dstOk_lt hok'.2) q3
        · rw [if_neg (by rw [hw]; simp)]
          refine ih _ _ _ ρ (by simpa using hl) hcount hcl' hp ?_ ?_ hb
          · have : HZ nz ops h0 H (fun n => (listed.setIfInBounds i true).getD n false) ops.size = HZ nz ops h0 H (fun n => listed.getD n false) ops.size := by
              rw [nextH]
              cases hzi : nz i with
              | false => rw [if_neg (by simp)]
              | true => rw [if_pos rfl, hH, eqH hzi]
            rw [this]; exact hs
          · rw [nextE, hv]; exact hA.put (dstOk_lt hok'.2) VR_undef
  refine rounds ops.size _ a0 w0 ρ0 (by simp) (by simp) ?_ (Pre.refl _) ?_ ?_ (Below.refl _ _)
  · intro j o e hj hS he
    simp only [Array.getD_eq_getD_getElem?, Array.getElem?_replicate] at hS
    split at hS <;> cases hS
  · have e2 : HZ nz ops h0 H (fun n => (Array.replicate ops.size false).getD n false) ops.size = h0 := by
      rw [HZ_agree (S' := fun k => decide (k < 0)) ops.size (fun k hk _ => by simp [Array.getD_eq_getD_getElem?, Array.getElem?_replicate, hk])]
      rw [(Hpre 0 ops.size (Nat.le_refl _)).2 (Nat.zero_le _), t2]
    rw [e2]; exact hs0
  · have e1 : ES ops e0 V (fun n => (Array.replicate ops.size false).getD n false) ops.size = e0 := funext fun t => by
      rw [ES_agree (S' := fun k => decide (k < 0)) ops.size (fun k o hk _ _ => by simp [Array.getD_eq_getD_getElem?, Array.getElem?_replicate, hk])]
      rw [(Epre 0 ops.size (Nat.le_refl _)).2 t (Nat.zero_le _), t1]
    rw [e1]; exact hA0
end Go.Proofs.Yteignhphimfmkaa.Sim

/- Code in which regions whose quiet operations see no difference draw their order. Lemmas only; no condition. -/
set_option linter.unusedSimpArgs false
namespace Go.Proofs.Yteignhphimfmkaa.Sim
open Go Go.RowKit

variable {P : Program} {ro : Nat} {B : Base}
/-- A run in the order of the text that no other order tells apart. -/
def DynRun (P : Program) (ro : Nat) (C : Fns) (ops : Array Oper) (e : Env) (h : Heap) (q : Env × Heap) : Prop :=
  ∃ (E : Nat → Env) (H : Nat → Heap) (V : Nat → Value) (nz : Nat → Bool), DynFacts P ro C ops E H V nz ∧ E 0 = e ∧ H 0 = h ∧ E ops.size = q.1 ∧ H ops.size = q.2 ∧
    ∀ (i : Nat) (o : Oper), ops[i]? = some o → ((wants ops (E i) o = true ∧ aop P ro C o.op (E i) (H i) = some (V i, H (i + 1))) ∨ (wants ops (E i) o = false ∧ V i = undef ∧ H (i + 1) = H i)) ∧ E (i + 1) = updO (E i) o.dst (V i)
open Classical in
/-- A region: in the order of the text, where no other order tells apart. -/
noncomputable def rgG (P : Program) (ro : Nat) (C : Fns) (ops : Array Oper) (draw : Bool) (e : Env) (h : Heap) : Option (Env × Heap) :=
  if draw = false ∨ (drawOk P ops = true ∧ (Sim.aops P ro (keeps C) ops ops.toList e h).isSome = true) ∨ ∃ q, DynRun P ro C ops e h q ∨ PermRun P ro C ops e h q then Sim.aops P ro C ops ops.toList e h else none
theorem keeps_le (C : Fns) : LeF (keeps C) C := by
  intro f args h r hr
  unfold keeps at hr
  simp only [Option.bind_eq_some_iff] at hr
  obtain ⟨q, h1, h2⟩ := hr
  split at h2
  · cases h2; exact h1
  · cases h2
theorem DynRun.aops {C : Fns} {ops : Array Oper} {e : Env} {h : Heap} {q : Env × Heap} (d : DynRun P ro C ops e h q) : Sim.aops P ro C ops ops.toList e h = some q := by
  obtain ⟨E, H, V, nz, _, rfl, rfl, h3, h4, t5⟩ := d
  have key : ∀ (l : List Oper) (k : Nat), k + l.length = ops.size → (∀ i o, l[i]? = some o → ops[k + i]? = some o) → Sim.aops P ro C ops l (E k) (H k) = some (E ops.size, H ops.size) := by
    intro l
    induction l with
    | nil => intro k hk _; simp only [Sim.aops]; simp at hk; rw [hk]
    | cons o r ih =>
      intro k hk hl
      have ho := hl 0 o rfl
      have hr := ih (k + 1) (by simp at hk; omega) fun i p hp => by rw [show k + 1 + i = k + (i + 1) by omega]; exact hl (i + 1) p (by simpa using hp)
      obtain ⟨hw, hE⟩ := t5 k o ho
      simp only [Sim.aops]
      rcases hw with ⟨hw, hop⟩ | ⟨hw, hv, hH⟩
      · rw [if_pos hw]
        rw [hop, Option.bind_some, ← hE]
        exact hr
      · rw [if_neg (by rw [hw]; simp), ← hv, ← hE, ← hH]
        exact hr
  have := key ops.toList 0 (by simp) fun i o ho => by rw [Nat.zero_add]; simpa using ho
  rw [this, h3, h4]
theorem DynRun.uniq {C : Fns} {ops : Array Oper} {e : Env} {h : Heap} {q q' : Env × Heap} (d : DynRun P ro C ops e h q) (d' : DynRun P ro C ops e h q') : q' = q := by
  have a := d.aops
  rw [d'.aops] at a
  exact Option.some.inj a
theorem rgG_dyn {C : Fns} {ops : Array Oper} {e : Env} {h : Heap} {q : Env × Heap} (d : DynRun P ro C ops e h q) : rgG P ro C ops true e h = some q := by
  unfold rgG
  rw [if_pos (.inr (.inr ⟨q, .inl d⟩))]
  exact d.aops
theorem rgG_perm {C : Fns} {ops : Array Oper} {e : Env} {h : Heap} {q : Env × Heap} (d : PermRun P ro C ops e h q) : rgG P ro C ops true e h = some q := by
  unfold rgG
  rw [if_pos (.inr (.inr ⟨q, .inr d⟩))]
  exact d.2.1
theorem rgG_keeps {C : Fns} {ops : Array Oper} {e : Env} {h : Heap} {q : Env × Heap} (hd : drawOk P ops = true) (hr : Sim.aops P ro (keeps C) ops ops.toList e h = some q) : rgG P ro C ops true e h = some q := by
  unfold rgG
  rw [if_pos (.inr (.inl ⟨hd, by rw [hr]; rfl⟩))]
  exact aops_mono (keeps_le C) hr
theorem rgG_aops {C : Fns} {ops : Array Oper} {draw : Bool} {e : Env} {h : Heap} {q : Env × Heap} (hr : rgG P ro C ops draw e h = some q) : Sim.aops P ro C ops ops.toList e h = some q := by
  unfold rgG at hr
  split at hr
  · exact hr
  · cases hr
theorem DynRun.mono {C C' : Fns} (hc : LeF C C') {ops : Array Oper} {e : Env} {h : Heap} {q : Env × Heap} (d : DynRun P ro C ops e h q) : DynRun P ro C' ops e h q := by
  obtain ⟨E, H, V, nz, f, h1, h2, h3, h4, t5⟩ := d
  refine ⟨E, H, V, nz, ⟨f.edge, f.pair, f.quiet, f.tot, fun i j p hp hi hz hj hw => ?_⟩, h1, h2, h3, h4, fun i o ho => ⟨?_, (t5 i o ho).2⟩⟩
  · rcases f.steady i j p hp hi hz hj hw with q | q | q | ⟨q, q'⟩
    · exact .inl q
    · exact .inr (.inl q)
    · exact .inr (.inr (.inl q))
    · exact .inr (.inr (.inr ⟨aop_mono hc q, aop_mono hc q'⟩))
  · rcases (t5 i o ho).1 with ⟨hw, hop⟩ | hn
    · exact .inl ⟨hw, aop_mono hc hop⟩
    · exact .inr hn
theorem rgG_mono {C C' : Fns} (hc : LeF C C') {ops : Array Oper} {draw : Bool} {e : Env} {h : Heap} {q : Env × Heap} (hr : rgG P ro C ops draw e h = some q) : rgG P ro C' ops draw e h = some q := by
  have h1 := aops_mono hc (rgG_aops hr)
  unfold rgG at hr ⊢
  split at hr
  · rename_i hx
    rw [if_pos ?_]
    · exact h1
    · rcases hx with hx | ⟨hd, hk⟩ | ⟨q2, d | d⟩
      · exact .inl hx
      · obtain ⟨q3, hq3⟩ := Option.isSome_iff_exists.1 hk
        exact .inr (.inl ⟨hd, by rw [aops_mono (keeps_mono hc) hq3]; rfl⟩)
      · exact .inr (.inr ⟨q2, .inl (d.mono hc)⟩)
      · exact .inr (.inr ⟨q2, .inr (d.mono hc)⟩)
  · cases hr
noncomputable def evG (P : Program) (ro : Nat) (C : Fns) (n : Nat) : Code → Env → Heap → Option (Ex × Env × Heap)
  | .skip, e, h => some (.normal, e, h)
  | .region _ ops draw, e, h => (rgG P ro C ops draw e h).map fun q => (.normal, q)
  | .seq a b, e, h => (evG P ro C n a e h).bind fun q => match q.1 with | .normal => evG P ro C n b q.2.1 q.2.2 | x => some (x, q.2)
  | .cond c a b, e, h => match ov e c with | .bool true => evG P ro C n a e h | .bool false => evG P ro C n b e h | _ => none
  | .block id c, e, h => (evG P ro C n c e h).map fun q => (if q.1 = .exit id then .normal else q.1, q.2)
  | .loop c, e, h => loopF (evG P ro C n c) n e h
  | .exit id, e, h => some (.exit id, e, h)
  | .ret, e, h => some (.ret, e, h)
  | _, _, _ => none
theorem evG_mono {C C' : Fns} (hc : LeF C C') {n n' : Nat} (hn : n ≤ n') : ∀ {c : Code} {e : Env} {h : Heap} {r : Ex × Env × Heap}, evG P ro C n c e h = some r → evG P ro C' n' c e h = some r := by
  intro c
  induction c with
  | region id ops draw =>
    intro e h r hr
    simp only [evG, Option.map_eq_some_iff] at hr ⊢
    obtain ⟨q, h1, h2⟩ := hr
    exact ⟨q, rgG_mono hc h1, h2⟩
  | seq a b iha ihb =>
    intro e h r hr
    simp only [evG, Option.bind_eq_some_iff] at hr ⊢
    obtain ⟨⟨x, e2, h2⟩, h1, h3⟩ := hr
    refine ⟨_, iha h1, ?_⟩
    cases x with
    | normal => exact ihb h3
    | exit id => exact h3
    | ret => exact h3
  | cond c a b iha ihb =>
    intro e h r hr
    simp only [evG] at hr ⊢
    split at hr
    · exact iha hr
    · exact ihb hr
    · cases hr
  | block id c ih =>
    intro e h r hr
    simp only [evG, Option.map_eq_some_iff] at hr ⊢
    obtain ⟨q, h1, h2⟩ := hr
    exact ⟨q, ih h1, h2⟩
  | loop c ih =>
    intro e h r hr
    simp only [evG] at hr ⊢
    exact loopF_mono (fun e h r hb => ih hb) hn hr
  | _ => intro e h r hr; first | exact hr | (simp only [evG] at hr; cases hr)
def codeOkG (N : Nat) : Code → Bool
  | .skip | .ret | .exit _ => true
  | .region _ ops _ => ops.toList.all fun o => opOk o.op && dstOk N o
  | .seq a b => codeOkG N a && codeOkG N b
  | .cond c a b => okOp c && codeOkG N a && codeOkG N b
  | .block _ c => codeOkG N c
  | .loop c => codeOkG N c
  | _ => false
theorem evG_snd (hm : P.follows .mixedOrders = true) {C : Fns} (hC : Snd P ro B C) {N : Nat} (n : Nat) : ∀ (c : Code), codeOkG N c = true → ∀ {ρ : List Loc} {h h' : Heap} {w : World} {e e' : Env} {a : Act} {x : Ex}, SR P ro B ρ h w → B.n ≤ w.heap.size → AR P ro ρ N e a →
    evG P ro C n c e h = some (x, e', h') → ∀ {Q : Exit → Act → World → Prop}, Post P ro B N ρ h' w e' (Q (exOf x)) → c.wp P Q a w := by
  intro c
  induction c with
  | skip =>
    intro _ ρ h h' w e e' a x hs hB hA hr Q hq
    simp only [evG] at hr; cases hr
    exact wp_skip (hq a w ρ (Pre.refl _) hs hA (Below.refl _ _))
  | ret =>
    intro _ ρ h h' w e e' a x hs hB hA hr Q hq
    simp only [evG] at hr; cases hr
    exact wp_ret (hq a w ρ (Pre.refl _) hs hA (Below.refl _ _))
  | exit id =>
    intro _ ρ h h' w e e' a x hs hB hA hr Q hq
    simp only [evG] at hr; cases hr
    exact wp_exit (hq a w ρ (Pre.refl _) hs hA (Below.refl _ _))
  | region id ops draw =>
    intro hok ρ h h' w e e' a x hs hB hA hr Q hq
    simp only [evG, Option.map_eq_some_iff] at hr
    obtain ⟨⟨e2, h2⟩, hr, hx⟩ := hr
    cases hx
    simp only [codeOkG, List.all_eq_true] at hok
    have hok1 : ∀ o ∈ ops.toList, opOk o.op = true ∧ dstOk N o = true := fun o ho => by simpa using hok o ho
    cases draw with
    | false => exact wp_region_list (aops_snd hC ops ops.toList hok1 hs hB hA (rgG_aops hr) hq)
    | true =>
      have hr' := rgG_aops hr
      unfold rgG at hr
      split at hr
      · rename_i hex
        rcases hex with hex | ⟨hd, hk⟩ | ⟨q, d | d⟩
        · cases hex
        · obtain ⟨q3, hq3⟩ := Option.isSome_iff_exists.1 hk
          have := aops_mono (keeps_le C) hq3
          rw [hr'] at this
          cases this
          refine wp_region_any hm ?_
          exact any_snd hC (drawFacts hd) hok1 hq3 (w0 := w.drew) (fun a' w' ρ' q1 q2 q3 q4 => hq a' w' ρ' q1 q2 q3 (((Below.refl B.n w).drew).trans q4)) hs.drew hB hA
        · rw [d.aops] at hr
          rw [Option.some.inj hr] at d
          obtain ⟨E, H, V, nz, f, t1, t2, t3, t4, t5⟩ := d
          refine wp_region_any hm ?_
          exact any_dyn hC f hok1 t1 t2 t3 t4 t5 (w0 := w.drew) (fun a' w' ρ' q1 q2 q3 q4 => hq a' w' ρ' q1 q2 q3 (((Below.refl B.n w).drew).trans q4)) hs.drew hB hA
        · rw [d.2.1] at hr
          rw [Option.some.inj hr] at d
          obtain ⟨d1, d2, d3⟩ := d
          refine wp_region_any hm ?_
          refine perm_any hC hok1 (K := fun e3 h3 => Equ P ro e h (e3, h3) (e', h')) (ρ0 := ρ) (w0 := w.drew) (fun e3 h3 a' w' ρ' k1 k2 k3 k4 k5 => ?_) ops.size _ e h ρ w.drew a d1 (fun σ hσ => ?_) (Pre.refl _) hs.drew hB hA (Below.refl _ _)
          · obtain ⟨ρ2, z1, z2, z3⟩ := k1 B N ρ ρ' w w' a a' hs hA k2 k3 k4
            exact hq a' w' ρ2 z1 z2 z3 (((Below.refl B.n w).drew).trans k5)
          · obtain ⟨⟨e3, h3⟩, z1, z2⟩ := d3 σ hσ
            exact ⟨e3, h3, z1, z2⟩
      · cases hr
  | seq a b iha ihb =>
    intro hok ρ h h' w e e' act x hs hB hA hr Q hq
    simp only [codeOkG, Bool.and_eq_true] at hok
    simp only [evG, Option.bind_eq_some_iff] at hr
    obtain ⟨⟨x1, e1, h1⟩, hr1, hr2⟩ := hr
    refine wp_seq (iha hok.1 hs hB hA hr1 fun a' w' ρ' q1 q2 q3 q4 => ?_)
    cases x1 with
    | normal =>
      exact ihb hok.2 q2 (Nat.le_trans hB q4.size) q3 hr2 fun a2 w2 ρ2 r1 r2 r3 r4 => hq a2 w2 ρ2 (q1.trans r1) r2 r3 (q4.trans r4)
    | exit id => simp only at hr2; cases hr2; exact hq a' w' ρ' q1 q2 q3 q4
    | ret => simp only at hr2; cases hr2; exact hq a' w' ρ' q1 q2 q3 q4
  | cond c a b iha ihb =>
    intro hok ρ h h' w e e' act x hs hB hA hr Q hq
    simp only [codeOkG, Bool.and_eq_true] at hok
    have hc := hA.er.ov hok.1.1
    simp only [evG] at hr
    split at hr
    · rename_i hb
      rw [hb] at hc
      generalize hce : act.eval c = cv at hc
      cases hc
      exact wp_cond_true hce (iha hok.1.2 hs hB hA hr hq)
    · rename_i hb
      rw [hb] at hc
      generalize hce : act.eval c = cv at hc
      cases hc
      exact wp_cond_false hce (ihb hok.2 hs hB hA hr hq)
    · cases hr
  | block id c ih =>
    intro hok ρ h h' w e e' act x hs hB hA hr Q hq
    simp only [codeOkG] at hok
    simp only [evG, Option.map_eq_some_iff] at hr
    obtain ⟨⟨x1, e1, h1⟩, hr1, hr2⟩ := hr
    cases hr2
    refine wp_block (ih hok hs hB hA hr1 fun a' w' ρ' q1 q2 q3 q4 => ?_)
    have := hq a' w' ρ' q1 q2 q3 q4
    cases x1 with
    | normal => exact this
    | exit id' =>
      simp only [exOf, Exit.inBlock]
      by_cases hid : id' = id
      · subst hid; simpa [exOf] using this
      · rw [if_neg hid]
        simp only [Ex.exit.injEq, hid, if_false] at this
        exact this
    | ret => exact this
  | loop c ih =>
    intro hok ρ h h' w e e' act x hs hB hA hr Q hq
    simp only [codeOkG] at hok
    simp only [evG] at hr
    intro b k cs
    have key : ∀ (m : Nat) (ρ1 : List Loc) (h1 : Heap) (w1 : World) (e1 : Env) (a1 : Act), SR P ro B ρ1 h1 w1 → Below B.n w w1 → Pre ρ ρ1 → AR P ro ρ1 N e1 a1 → loopF (evG P ro C n c) m e1 h1 = some (x, e', h') →
        ∃ ex a' w', Q ex a' w' ∧ Arrives P (lone (b.at a1 (.code c :: .inLoop c :: k)) cs w1) b k cs ex a' w' := by
      intro m
      induction m with
      | zero => intro _ _ _ _ _ _ _ _ _ hl; simp only [loopF] at hl; cases hl
      | succ m ihm =>
        intro ρ1 h1 w1 e1 a1 hs1 hb1 hp1 hA1 hl
        simp only [loopF, Option.bind_eq_some_iff] at hl
        obtain ⟨⟨x2, e2, h2⟩, hr1, hl⟩ := hl
        obtain ⟨ex, a2, w2, ⟨ρ2, rfl, p1, p2, p3, p4⟩, harr⟩ := ih hok (Q := fun ex a2 w2 => ∃ ρ2, ex = exOf x2 ∧ Pre ρ1 ρ2 ∧ SR P ro B ρ2 h2 w2 ∧ AR P ro ρ2 N e2 a2 ∧ Below B.n w1 w2) hs1 (Nat.le_trans hB hb1.size) hA1 hr1 (fun a2 w2 ρ2 q1 q2 q3 q4 => ⟨ρ2, rfl, q1, q2, q3, q4⟩) b (.inLoop c :: k) cs
        cases x2 with
        | normal =>
          simp only at hl
          obtain ⟨ex, a3, w3, hq3, harr3⟩ := ihm ρ2 h2 w2 e2 a2 p2 (hb1.trans p4) (hp1.trans p1) p3 hl
          exact ⟨ex, a3, w3, hq3, .of_steps (Steps.trans harr (.one step_inLoop)) harr3⟩
        | exit id =>
          simp only at hl; cases hl
          exact ⟨_, a2, w2, hq a2 w2 ρ2 (hp1.trans p1) p2 p3 (hb1.trans p4), .pass (x := .inLoop c) rfl (fun _ _ => .inl (by simp [exOf])) harr⟩
        | ret =>
          simp only at hl; cases hl
          exact ⟨_, a2, w2, hq a2 w2 ρ2 (hp1.trans p1) p2 p3 (hb1.trans p4), .pass (x := .inLoop c) rfl (fun _ _ => .inl (by simp [exOf])) harr⟩
    obtain ⟨ex, a', w', hq', harr⟩ := key n ρ h w e act hs (Below.refl _ _) (Pre.refl _) hA hr
    exact ⟨ex, a', w', hq', .of_steps (.one step_loop) harr⟩
  | _ =>
    intro hok
    simp only [codeOkG, Bool.false_eq_true] at hok
end Go.Proofs.Yteignhphimfmkaa.Sim

/- Rules for code in which regions whose quiet operations see no difference draw their order. Lemmas only; no condition. -/
set_option linter.unusedSimpArgs false
namespace Go.Proofs.Yteignhphimfmkaa.Sim
open Go Go.RowKit

variable {P : Program} {ro : Nat} {B : Base} {X : Ext}
def WG (P : Program) (ro : Nat) (X : Ext) (c : Code) (Q : Ex → Env → Heap → Prop) (e : Env) (h : Heap) : Prop := ∃ n x e' h', evG P ro (callN P ro X n) n c e h = some (x, e', h') ∧ Q x e' h'
theorem WG_mono {c : Code} {Q Q' : Ex → Env → Heap → Prop} {e : Env} {h : Heap} (hw : WG P ro X c Q e h) (hq : ∀ x e h, Q x e h → Q' x e h) : WG P ro X c Q' e h := by
  obtain ⟨n, x, e', h', h1, h2⟩ := hw
  exact ⟨n, x, e', h', h1, hq _ _ _ h2⟩
theorem WG_ret {Q : Ex → Env → Heap → Prop} {e : Env} {h : Heap} : WG P ro X .ret Q e h ↔ Q .ret e h :=
  ⟨fun ⟨n, x, e', h', h1, h2⟩ => by simp only [evG] at h1; cases h1; exact h2, fun hq => ⟨0, _, _, _, rfl, hq⟩⟩
theorem WG_seq {a b : Code} {Q : Ex → Env → Heap → Prop} {e : Env} {h : Heap} : WG P ro X (.seq a b) Q e h ↔ WG P ro X a (thenQ (WG P ro X b Q) Q) e h := by
  constructor
  · rintro ⟨n, x, e', h', h1, h2⟩
    simp only [evG, Option.bind_eq_some_iff] at h1
    obtain ⟨⟨x1, e1, h3⟩, h4, h5⟩ := h1
    refine ⟨n, x1, e1, h3, h4, ?_⟩
    cases x1 with
    | normal => exact ⟨n, x, e', h', h5, h2⟩
    | exit i => cases h5; exact h2
    | ret => cases h5; exact h2
  · rintro ⟨n, x1, e1, h3, h4, h5⟩
    cases x1 with
    | normal =>
      obtain ⟨m, x, e', h', h6, h7⟩ := h5
      refine ⟨max n m, x, e', h', ?_, h7⟩
      simp only [evG, Option.bind_eq_some_iff]
      exact ⟨_, evG_mono (callN_le (Nat.le_max_left n m)) (Nat.le_max_left n m) h4, evG_mono (callN_le (Nat.le_max_right n m)) (Nat.le_max_right n m) h6⟩
    | exit i => exact ⟨n, .exit i, e1, h3, by simp only [evG, Option.bind_eq_some_iff]; exact ⟨_, h4, rfl⟩, h5⟩
    | ret => exact ⟨n, .ret, e1, h3, by simp only [evG, Option.bind_eq_some_iff]; exact ⟨_, h4, rfl⟩, h5⟩
theorem WG_cond {c : Operand} {a b : Code} {Q : Ex → Env → Heap → Prop} {e : Env} {h : Heap} : WG P ro X (.cond c a b) Q e h ↔ condV (ov e c) (WG P ro X a Q e h) (WG P ro X b Q e h) := by
  unfold condV
  constructor
  · rintro ⟨n, x, e', h', h1, h2⟩
    simp only [evG] at h1
    split at h1
    · rename_i hb; simp only [hb, if_true]; exact ⟨n, x, e', h', h1, h2⟩
    · rename_i hb; simp only [hb, Bool.false_eq_true, if_false]; exact ⟨n, x, e', h', h1, h2⟩
    · cases h1
  · intro hh
    split at hh
    · rename_i t hb
      cases t with
      | true => simp only [if_true] at hh; obtain ⟨n, x, e', h', h1, h2⟩ := hh; exact ⟨n, x, e', h', by simp only [evG, hb]; exact h1, h2⟩
      | false => simp only [Bool.false_eq_true, if_false] at hh; obtain ⟨n, x, e', h', h1, h2⟩ := hh; exact ⟨n, x, e', h', by simp only [evG, hb]; exact h1, h2⟩
    · exact hh.elim
theorem WG_block {id : Nat} {c : Code} {Q : Ex → Env → Heap → Prop} {e : Env} {h : Heap} : WG P ro X (.block id c) Q e h ↔ WG P ro X c (blockQ id Q) e h := by
  constructor
  · rintro ⟨n, x, e', h', h1, h2⟩
    simp only [evG, Option.map_eq_some_iff] at h1
    obtain ⟨⟨x1, e1, h3⟩, h4, h5⟩ := h1
    cases h5
    refine ⟨n, x1, _, _, h4, ?_⟩
    cases x1 with
    | normal => exact h2
    | exit i =>
      simp only [blockQ]
      by_cases hi : i = id
      · subst hi; simpa using h2
      · rw [if_neg hi]; simpa [hi] using h2
    | ret => exact h2
  · rintro ⟨n, x1, e1, h3, h4, h5⟩
    refine ⟨n, if x1 = .exit id then .normal else x1, e1, h3, by simp only [evG, Option.map_eq_some_iff]; exact ⟨_, h4, rfl⟩, ?_⟩
    cases x1 with
    | normal => exact h5
    | exit i =>
      simp only [blockQ] at h5
      by_cases hi : i = id
      · subst hi; simpa using h5
      · simpa [hi] using h5
    | ret => exact h5
/-- One round of a loop. -/
theorem WG_loop {c : Code} {Q : Ex → Env → Heap → Prop} {e : Env} {h : Heap} : WG P ro X (.loop c) Q e h ↔ WG P ro X c (thenQ (WG P ro X (.loop c) Q) Q) e h := by
  constructor
  · rintro ⟨n, x, e', h', h1, h2⟩
    cases n with
    | zero => simp only [evG, loopF] at h1; cases h1
    | succ n =>
      have h1' := h1
      simp only [evG, loopF, Option.bind_eq_some_iff] at h1
      obtain ⟨⟨x1, e1, h3⟩, h4, h5⟩ := h1
      refine ⟨n + 1, x1, e1, h3, h4, ?_⟩
      cases x1 with
      | normal =>
        refine ⟨n + 1, x, e', h', ?_, h2⟩
        simp only [evG]
        exact loopF_mono (fun _ _ _ h => h) (Nat.le_succ n) h5
      | exit i => cases h5; exact h2
      | ret => cases h5; exact h2
  · rintro ⟨n, x1, e1, h3, h4, h5⟩
    cases x1 with
    | normal =>
      obtain ⟨m, x, e', h', h6, h7⟩ := h5
      have hn : n ≤ max n m + 1 := by omega
      have hm : m ≤ max n m + 1 := by omega
      refine ⟨max n m + 1, x, e', h', ?_, h7⟩
      simp only [evG, loopF, Option.bind_eq_some_iff]
      refine ⟨_, evG_mono (callN_le hn) hn h4, ?_⟩
      simp only [evG] at h6
      exact loopF_mono (fun e h r hb => evG_mono (callN_le hm) hm hb) (Nat.le_max_right n m) h6
    | exit i => exact ⟨n + 1, .exit i, e1, h3, by simp only [evG, loopF, Option.bind_eq_some_iff]; exact ⟨_, evG_mono (callN_le (Nat.le_succ n)) (Nat.le_succ n) h4, rfl⟩, h5⟩
    | ret => exact ⟨n + 1, .ret, e1, h3, by simp only [evG, loopF, Option.bind_eq_some_iff]; exact ⟨_, evG_mono (callN_le (Nat.le_succ n)) (Nat.le_succ n) h4, rfl⟩, h5⟩
/-- A loop by what holds at its head with so many rounds to come. -/
theorem WG_rounds {c : Code} {Q : Ex → Env → Heap → Prop} (I : Nat → Env → Heap → Prop) (step : ∀ n e h, I n e h → WG P ro X c (thenQ (fun e' h' => ∃ m, m < n ∧ I m e' h') Q) e h) : ∀ (n : Nat) (e : Env) (h : Heap), I n e h → WG P ro X (.loop c) Q e h := by
  intro n
  induction n using Nat.strongRecOn with
  | _ n ih =>
    intro e h hI
    rw [WG_loop]
    refine WG_mono (step n e h hI) fun x e' h' hx => ?_
    cases x with
    | normal => obtain ⟨m, hm, hI'⟩ := hx; exact ih m hm e' h' hI'
    | exit i => exact hx
    | ret => exact hx
theorem evG_of {C : Fns} {N n : Nat} : ∀ {c : Code}, codeOk P N c = true → ∀ {e : Env} {h : Heap} {r : Ex × Env × Heap}, ev P ro C n c e h = some r → evG P ro C n c e h = some r := by
  intro c
  induction c with
  | region id ops draw =>
    intro hok e h r hr
    simp only [codeOk, Bool.and_eq_true] at hok
    simp only [ev, evG, Option.map_eq_some_iff] at hr ⊢
    obtain ⟨q, h1, h2⟩ := hr
    refine ⟨q, ?_, h2⟩
    cases draw with
    | false =>
      unfold rgG
      rw [if_pos (.inl rfl)]
      exact h1
    | true =>
      have hd : drawOk P ops = true := by simpa using hok.2
      exact rgG_keeps hd h1
  | seq a b iha ihb =>
    intro hok e h r hr
    simp only [codeOk, Bool.and_eq_true] at hok
    simp only [ev, evG, Option.bind_eq_some_iff] at hr ⊢
    obtain ⟨⟨x, e2, h2⟩, h1, h3⟩ := hr
    refine ⟨_, iha hok.1 h1, ?_⟩
    cases x with
    | normal => exact ihb hok.2 h3
    | exit id => exact h3
    | ret => exact h3
  | cond c a b iha ihb =>
    intro hok e h r hr
    simp only [codeOk, Bool.and_eq_true] at hok
    simp only [ev, evG] at hr ⊢
    split at hr
    · rename_i hb; simp only [hb]; exact iha hok.1.2 hr
    · rename_i hb; simp only [hb]; exact ihb hok.2 hr
    · cases hr
  | block id c ih =>
    intro hok e h r hr
    simp only [codeOk] at hok
    simp only [ev, evG, Option.map_eq_some_iff] at hr ⊢
    obtain ⟨q, h1, h2⟩ := hr
    exact ⟨q, ih hok h1, h2⟩
  | loop c ih =>
    intro hok e h r hr
    simp only [codeOk] at hok
    simp only [ev, evG] at hr ⊢
    exact loopF_mono (fun e h r hb => ih hok hb) (Nat.le_refl _) hr
  | skip => intro _ e h r hr; exact hr
  | ret => intro _ e h r hr; exact hr
  | exit id => intro _ e h r hr; exact hr
  | _ => intro hok; simp only [codeOk, Bool.false_eq_true] at hok
theorem WG_good {N : Nat} {c : Code} {Q : Ex → Env → Heap → Prop} {e : Env} {h : Heap} (hok : codeOk P N c = true) (hw : W P ro X c Q e h) : WG P ro X c Q e h := by
  obtain ⟨n, x, e', h', h1, h2⟩ := hw
  exact ⟨n, x, e', h', evG_of hok h1, h2⟩
theorem WG_perm {id : Nat} {ops : Array Oper} {Q : Ex → Env → Heap → Prop} {e e' : Env} {h h' : Heap} (hd : ∃ n, PermRun P ro (callN P ro X n) ops e h (e', h')) (hq : Q .normal e' h') : WG P ro X (.region id ops true) Q e h := by
  obtain ⟨n, d⟩ := hd
  exact ⟨n, .normal, e', h', by simp only [evG]; rw [rgG_perm d]; rfl, hq⟩
theorem WG_dyn {id : Nat} {ops : Array Oper} {Q : Ex → Env → Heap → Prop} {e e' : Env} {h h' : Heap} (hb : drawOk P ops = false) (hd : ∃ n, DynRun P ro (callN P ro X n) ops e h (e', h')) (hq : Q .normal e' h') : WG P ro X (.region id ops true) Q e h := by
  obtain ⟨n, d⟩ := hd
  exact ⟨n, .normal, e', h', by simp only [evG]; rw [rgG_dyn d]; rfl, hq⟩
end Go.Proofs.Yteignhphimfmkaa.Sim

/- Functions whose text is run by evG, told apart as a contract. Lemmas only; no condition. -/
set_option linter.unusedSimpArgs false
namespace Go.Proofs.Yteignhphimfmkaa.Sim
open Go Go.RowKit

variable {P : Program} {ro : Nat} {B : Base} {X : Ext}
/-- A call by evG, the calls within by the machine. -/
noncomputable def runG (P : Program) (ro : Nat) (X : Ext) (fn : Func) (c : Code) (n : Nat) (args : List Value) (h : Heap) : Option (Value × Heap) :=
  (evG P ro (callN P ro X n) n c (entry args) h).bind fun q => match q.1 with | .exit _ => none | _ => fin P fn h q.2.1 q.2.2
theorem runG_ok (hm : P.follows .mixedOrders = true) (hX : XOk P ro B X) {n : Nat} {f : FuncId} {fn : Func} {c : Code} {args : List Value} {h h' : Heap} {r : Value} (hfn : P.funcs[f]? = some fn) (hbody : fn.body = some c) (hname : fn.name ≠ "runtime.NumGoroutine") (hok : codeOkG fn.ntmps c = true) (hlen : args.length ≤ fn.ntmps)
    (hc : runG P ro X fn c n args h = some (r, h')) {ρ : List Loc} {w : World} {args' : List Value} (hs : SR P ro B ρ h w) (hB : B.n ≤ w.heap.size) (hargs : VRs P ro ρ args args') :
    CallOk P f ⟨args'⟩ w fun r' w' => ∃ ρ', Pre ρ ρ' ∧ SR P ro B ρ' h' w' ∧ VR P ro ρ' r r' ∧ Below B.n w w' := by
  have ih := call_snd hm hX n
  unfold runG at hc
  simp only [Option.bind_eq_some_iff] at hc
  obtain ⟨⟨x, e2, h2⟩, hev, hfin⟩ := hc
  right
  refine ⟨?_, ?_⟩
  · simp [callFunc, hfn, hname, hbody]
  · refine calls_of_wp hfn hbody ?_
    have hA : AR P ro ρ fn.ntmps (entry args) { tmps := (⟨args'⟩ : Array Value) ++ Array.replicate (fn.ntmps - (⟨args'⟩ : Array Value).size) undef, defers := [] } := by
      have hl := hargs.len
      refine ⟨fun t => ?_, by simp; omega, rfl⟩
      unfold entry
      rw [Array.getD_eq_getD_getElem?, List.getD_eq_getElem?_getD]
      by_cases ht : t < args.length
      · obtain ⟨v', q1, q2⟩ := hargs.get (List.getElem?_eq_getElem ht)
        rw [List.getElem?_eq_getElem ht, Array.getElem?_append_left (by simp; omega)]
        simp only [Option.getD_some, List.getElem?_toArray]
        rw [q1]; exact q2
      · rw [List.getElem?_eq_none (by omega), Array.getElem?_append_right (by simp; omega)]
        simp only [Option.getD_none, Array.getElem?_replicate]
        split <;> exact VR_undef
    have fine : ∀ a' w' ρ', Pre ρ ρ' → SR P ro B ρ' h2 w' → AR P ro ρ' fn.ntmps e2 a' → Below B.n w w' → fin P fn h e2 h2 = some (r, h') →
        a'.defers = [] ∧ ∃ v, (results fn a'.tmps).run P w' = .ok v w' ∧ ∃ v2, Ending.returned v = Ending.returned v2 ∧ ∃ ρ2, Pre ρ ρ2 ∧ SR P ro B ρ2 h' w' ∧ VR P ro ρ2 r v2 ∧ Below B.n w w' := by
      intro a' w' ρ' q1 q2 q3 q4 hf
      unfold fin at hf
      simp only [Option.map_eq_some_iff, Prod.mk.injEq] at hf
      obtain ⟨vs, hvs, rfl, hh⟩ := hf
      obtain ⟨vs', p1, p2⟩ := res_snd q2 q3 fn.results.toList hvs
      have hrun : (results fn a'.tmps).run P w' = .ok (resT vs') w' := by
        unfold results
        rw [Sem.run_bind]
        have key : ∀ F : ResultVar → Sem Value, (∀ q, F q = (match q with | .tmp t => pure (a'.tmps.getD t undef) | .cell ad t => do loadVar t (← asAddr (a'.tmps.getD ad undef)) : Sem Value)) → (fn.results.mapM F).run P w' = .ok vs'.toArray w' := by
          intro F hF
          have p2' : (fn.results.toList.mapM F).run P w' = .ok vs' w' := by
            refine Eq.trans (congrArg (fun G => (List.mapM G fn.results.toList : Sem (List Value)).run P w') (funext fun q => ?_)) p1
            rw [hF q]
            cases q <;> rfl
          rw [Array.mapM_eq_mapM_toList, Sem.run_map, p2']
          rfl
        rw [key _ (fun q => by cases q <;> rfl)]
        simp only [Result.andThen]
        match vs' with
        | [] => rfl
        | [v] => rfl
        | v :: v2 :: r => rfl
      have hres : VR P ro ρ' (resT vs) (resT vs') := by
        cases p2 with
        | nil => exact .tup _ _ .nil
        | cons x y xs ys h1 t =>
          cases t with
          | nil => exact h1
          | cons x2 y2 xs2 ys2 h2 t2 => exact .tup _ _ (.cons _ _ _ _ h1 (.cons _ _ _ _ h2 t2))
      refine ⟨q3.defers, _, hrun, _, rfl, ?_⟩
      split at hh
      · rename_i hcut
        subst hh
        exact ⟨ρ, Pre.refl _, hs.cut q2 q1 hcut.2, VR_flat hcut.1 hres, q4⟩
      · subst hh
        exact ⟨ρ', q1, q2, hres, q4⟩
    cases x with
    | normal => exact evG_snd hm ih n c hok hs hB hA hev fun a' w' ρ' q1 q2 q3 q4 => fine a' w' ρ' q1 q2 q3 q4 hfin
    | ret => exact evG_snd hm ih n c hok hs hB hA hev fun a' w' ρ' q1 q2 q3 q4 => fine a' w' ρ' q1 q2 q3 q4 hfin
    | exit id => simp only at hfin; cases hfin

theorem runG_of {fn : Func} {c : Code} {args : List Value} {h : Heap} {R : Value → Heap → Prop} (hw : WG P ro X c (EndP P fn h R) (entry args) h) : ∃ n r h', runG P ro X fn c n args h = some (r, h') ∧ R r h' := by
  obtain ⟨n, x, e', h', h1, hx, r, h2, h3, h4⟩ := hw
  refine ⟨n, r, h2, ?_, h4⟩
  unfold runG
  rw [h1, Option.bind_some]
  rcases hx with rfl | rfl <;> exact h3
open Classical in
/-- What such a function comes to, where it comes to what is asked. -/
noncomputable def fG (P : Program) (ro : Nat) (X : Ext) (fn : Func) (c : Code) (R : List Value → Heap → Value × Heap → Prop) (args : List Value) (h : Heap) : Option (Value × Heap) :=
  if hx : ∃ q, (∃ n, runG P ro X fn c n args h = some q) ∧ R args h q ∧ args.length ≤ fn.ntmps then some (Classical.choose hx) else none
theorem fG_of {fn : Func} {c : Code} {R : List Value → Heap → Value × Heap → Prop} {args : List Value} {h : Heap} (hx : ∃ q, (∃ n, runG P ro X fn c n args h = some q) ∧ R args h q ∧ args.length ≤ fn.ntmps) : ∃ q, fG P ro X fn c R args h = some q ∧ R args h q := by
  refine ⟨_, ?_, (Classical.choose_spec hx).2.1⟩
  unfold fG
  rw [dif_pos hx]
theorem fG_ok (hm : P.follows .mixedOrders = true) (hX : XOk P ro B X) {f : FuncId} {fn : Func} {c : Code} {R : List Value → Heap → Value × Heap → Prop} (hfn : P.funcs[f]? = some fn) (hbody : fn.body = some c) (hname : fn.name ≠ "runtime.NumGoroutine") (hok : codeOkG fn.ntmps c = true) {args : List Value} {h h' : Heap} {r : Value}
    (hc : fG P ro X fn c R args h = some (r, h')) {ρ : List Loc} {w : World} {args' : List Value} (hs : SR P ro B ρ h w) (hB : B.n ≤ w.heap.size) (hargs : VRs P ro ρ args args') :
    CallOk P f ⟨args'⟩ w fun r' w' => ∃ ρ', Pre ρ ρ' ∧ SR P ro B ρ' h' w' ∧ VR P ro ρ' r r' ∧ Below B.n w w' := by
  unfold fG at hc
  split at hc
  · rename_i hx
    obtain ⟨⟨n, hn⟩, _, hlen⟩ := Classical.choose_spec hx
    rw [Option.some.inj hc] at hn
    exact runG_ok hm hX hfn hbody hname hok hlen hn hs hB hargs
  · cases hc
end Go.Proofs.Yteignhphimfmkaa.Sim
