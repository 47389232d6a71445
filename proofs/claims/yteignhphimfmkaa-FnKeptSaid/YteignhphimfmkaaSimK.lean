/- That a region of the abstract machine, in the order of the text, stands for that of the model in whatever order it draws. Lemmas only; no condition. -/
import Derived.Test.YteignhphimfmkaaSimJ
set_option linter.unusedSimpArgs false
namespace Go.Proofs.Yteignhphimfmkaa.Sim
open Go Go.RowKit

variable {P : Program} {ro : Nat} {B : Base}

def guardTmp (ops : Array Oper) (o : Oper) : List Nat := match o.guard with | some (g, _) => ((ops[g]?).bind (·.dst)).toList | none => []
def looks (ops : Array Oper) (o : Oper) : List Nat := tmpsOf o.op ++ guardTmp ops o
/-- What must come up before an operation in whatever order. -/
def edgesOf (o : Oper) : List Edge := o.after.toList.filter fun e => Region.binds .any e
def maskOf (o : Oper) (acc : List Nat) : Nat := (edgesOf o).foldl (fun s e => s ||| 2 ^ e.on ||| acc.getD e.on 0) 0
/-- For each operation the set of those that must come up before it. -/
def befs : List Oper → List Nat → List Nat
  | [], acc => acc
  | o :: r, acc => befs r (acc ++ [maskOf o acc])
def clash (ops : Array Oper) (o p : Oper) : Bool := match o.dst with | some d => (looks ops p).contains d || p.dst == some d | none => false
def ordB (m : List Nat) (i j : Nat) : Bool := (m.getD j 0).testBit i
def drawOk (P : Program) (ops : Array Oper) : Bool :=
  let m := befs ops.toList []
  (List.range ops.size).all fun i => match ops[i]? with
    | none => true
    | some o => ((edgesOf o).all fun e => Region.binds .any e && decide (e.on < i)) &&
      (List.range ops.size).all fun j => match ops[j]? with
        | none => true
        | some p => i == j || ((!(clash ops o p) && quietOp o.op) || ordB m i j || ordB m j i || (!(clash ops o p) && deafOp P p.op))

theorem wants_congr {ops : Array Oper} {o : Oper} {e e' : Env} (h : ∀ t ∈ guardTmp ops o, e t = e' t) : wants ops e o = wants ops e' o := by
  unfold wants
  cases hg : o.guard with
  | none => rfl
  | some g =>
    obtain ⟨j, want⟩ := g
    simp only
    cases hd : (ops[j]?).bind (·.dst) with
    | none => rfl
    | some d =>
      simp only
      rw [h d (by simp [guardTmp, hg, hd])]

theorem fold_bit (acc : List Nat) (i : Nat) : ∀ (l : List Edge) (s : Nat), (l.foldl (fun s e => s ||| 2 ^ e.on ||| acc.getD e.on 0) s).testBit i = (s.testBit i || l.any fun e => e.on == i || (acc.getD e.on 0).testBit i)
  | [], s => by simp
  | e :: l, s => by
    rw [List.foldl_cons, fold_bit acc i l]
    simp only [Nat.testBit_or, Nat.testBit_two_pow, List.any_cons]
    cases s.testBit i <;> cases (acc.getD e.on 0).testBit i <;> simp [beq_iff_eq] <;> (by_cases h : e.on = i <;> simp [h])
theorem befs_take : ∀ (l : List Oper) (acc : List Nat), (befs l acc).take acc.length = acc
  | [], acc => by simp [befs]
  | o :: r, acc => by
    have := befs_take r (acc ++ [maskOf o acc])
    simp only [befs]
    have h2 := congrArg (List.take acc.length) this
    rw [List.take_take] at h2
    simpa using h2
theorem befs_get : ∀ (l : List Oper) (acc : List Nat) (k : Nat) (o : Oper), l[k]? = some o → (befs l acc)[acc.length + k]? = some (maskOf o ((befs l acc).take (acc.length + k)))
  | [], _, _, _, h => by simp at h
  | p :: r, acc, 0, o, h => by
    simp at h; subst h
    have h1 := befs_take r (acc ++ [maskOf p acc])
    simp only [befs, Nat.add_zero]
    have h0 : (befs r (acc ++ [maskOf p acc])).take acc.length = acc := by
      have h2 := congrArg (List.take acc.length) h1
      rw [List.take_take] at h2
      simpa using h2
    rw [h0]
    have h3 : ((befs r (acc ++ [maskOf p acc])).take (acc ++ [maskOf p acc]).length)[acc.length]? = some (maskOf p acc) := by rw [h1]; simp
    rw [List.getElem?_take_of_lt (by simp)] at h3
    exact h3
  | p :: r, acc, k + 1, o, h => by
    simp at h
    have := befs_get r (acc ++ [maskOf p acc]) k o h
    simp only [befs]
    have e : (acc ++ [maskOf p acc]).length + k = acc.length + (k + 1) := by simp; omega
    rw [e] at this
    exact this
/-- Why one operation stands before another. -/
theorem ord_why {ops : Array Oper} {i j : Nat} {o : Oper} (hj : ops[j]? = some o) (h : ordB (befs ops.toList []) i j = true) : ∃ e ∈ (edgesOf o), e.on = i ∨ (e.on < j ∧ ordB (befs ops.toList []) i e.on = true) := by
  unfold ordB at h
  have hg := befs_get ops.toList [] j o (by simpa using hj)
  simp only [List.length_nil, Nat.zero_add] at hg
  rw [List.getD_eq_getElem?_getD, hg] at h
  simp only [Option.getD_some, maskOf, fold_bit, Nat.zero_testBit, Bool.false_or, List.any_eq_true, Bool.or_eq_true, beq_iff_eq] at h
  obtain ⟨e, he, h⟩ := h
  refine ⟨e, he, ?_⟩
  rcases h with h | h
  · exact .inl h
  · right
    rw [List.getD_eq_getElem?_getD] at h
    by_cases hlt : e.on < j
    · rw [List.getElem?_take_of_lt hlt] at h
      exact ⟨hlt, by unfold ordB; rw [List.getD_eq_getElem?_getD]; exact h⟩
    · rw [List.getElem?_eq_none (by simp; omega)] at h
      simp at h

structure DrawFacts (P : Program) (ops : Array Oper) : Prop where
  edge : ∀ (i : Nat) (o : Oper) (e : Edge), ops[i]? = some o → e ∈ (edgesOf o) → Region.binds .any e = true ∧ e.on < i
  pair : ∀ (i j : Nat) (o p : Oper), ops[i]? = some o → ops[j]? = some p → i ≠ j → (clash ops o p = false ∧ (quietOp o.op = true ∨ deafOp P p.op = true)) ∨ ordB (befs ops.toList []) i j = true ∨ ordB (befs ops.toList []) j i = true
theorem lt_of_get {ops : Array Oper} {i : Nat} {o : Oper} (h : ops[i]? = some o) : i < ops.size := by
  rcases Nat.lt_or_ge i ops.size with q | q
  · exact q
  · rw [Array.getElem?_eq_none q] at h; cases h
theorem drawFacts {ops : Array Oper} (h : drawOk P ops = true) : DrawFacts P ops := by
  unfold drawOk at h
  simp only [List.all_eq_true, List.mem_range] at h
  refine ⟨fun i o e hi he => ?_, fun i j o p hi hj hne => ?_⟩
  · have := h i (lt_of_get hi)
    rw [hi] at this
    simp only [Bool.and_eq_true, List.all_eq_true, decide_eq_true_eq] at this
    exact this.1 e he
  · have := h i (lt_of_get hi)
    rw [hi] at this
    simp only [Bool.and_eq_true, List.all_eq_true, List.mem_range] at this
    have := this.2 j (lt_of_get hj)
    rw [hj] at this
    simp only [Bool.or_eq_true, beq_iff_eq, Bool.and_eq_true, Bool.not_eq_true'] at this
    rcases this with q | ((q | q) | q) | q
    · exact absurd q hne
    · exact .inl ⟨q.1, .inl q.2⟩
    · exact .inr (.inl q)
    · exact .inr (.inr q)
    · exact .inl ⟨q.1, .inr q.2⟩

/-- What has come up is closed: with an operation, all that stand before it. -/
def Closed (ops : Array Oper) (S : Nat → Bool) : Prop := ∀ (j : Nat) (o : Oper) (e : Edge), ops[j]? = some o → S j = true → e ∈ (edgesOf o) → S e.on = true
theorem closed_ord {ops : Array Oper} {S : Nat → Bool} (hc : Closed ops S) (hS : ∀ j, S j = true → j < ops.size) : ∀ (j i : Nat), S j = true → ordB (befs ops.toList []) i j = true → S i = true := by
  intro j
  induction j using Nat.strongRecOn with
  | _ j ih =>
    intro i hj ho
    have hlt := hS j hj
    have hg : ops[j]? = some ops[j] := Array.getElem?_eq_getElem hlt
    obtain ⟨e, he, h | ⟨h1, h2⟩⟩ := ord_why hg ho
    · rw [← h]; exact hc j _ e hg hj he
    · exact ih e.on h1 i (hc j _ e hg hj he) h2
theorem ready_ord {ops : Array Oper} {S : Nat → Bool} (hc : Closed ops S) (hS : ∀ j, S j = true → j < ops.size) {j i : Nat} {o : Oper} (hj : ops[j]? = some o) (hr : ∀ e ∈ (edgesOf o), S e.on = true) (ho : ordB (befs ops.toList []) i j = true) : S i = true := by
  obtain ⟨e, he, h | ⟨h1, h2⟩⟩ := ord_why hj ho
  · rw [← h]; exact hr e he
  · exact closed_ord hc hS e.on i (hr e he) h2
theorem ord_lt {ops : Array Oper} (hd : DrawFacts P ops) : ∀ (j i : Nat) (o : Oper), ops[j]? = some o → ordB (befs ops.toList []) i j = true → i < j := by
  intro j
  induction j using Nat.strongRecOn with
  | _ j ih =>
    intro i o hj ho
    obtain ⟨e, he, h | ⟨h1, h2⟩⟩ := ord_why hj ho
    · rw [← h]; exact (hd.edge j o e hj he).2
    · have hlt : e.on < ops.size := Nat.lt_trans h1 (lt_of_get hj)
      have := ih e.on h1 i _ (Array.getElem?_eq_getElem hlt) h2
      omega

/-- The walk in the order of the text, step by step. -/
theorem trace {C : Fns} (ops : Array Oper) : ∀ (l : List Oper) {e e' : Env} {h h' : Heap}, aops P ro C ops l e h = some (e', h') →
    ∃ (E : Nat → Env) (H : Nat → Heap) (V : Nat → Value), E 0 = e ∧ H 0 = h ∧ E l.length = e' ∧ H l.length = h' ∧ ∀ (i : Nat) (o : Oper), l[i]? = some o →
      ((wants ops (E i) o = true ∧ aop P ro C o.op (E i) (H i) = some (V i, H (i + 1))) ∨ (wants ops (E i) o = false ∧ V i = undef ∧ H (i + 1) = H i)) ∧ E (i + 1) = updO (E i) o.dst (V i)
  | [], e, e', h, h', hr => by
    simp only [aops] at hr; cases hr
    exact ⟨fun _ => e, fun _ => h, fun _ => undef, rfl, rfl, rfl, rfl, fun i o ho => by simp at ho⟩
  | o :: l, e, e', h, h', hr => by
    simp only [aops] at hr
    split at hr
    · rename_i hw
      simp only [Option.bind_eq_some_iff] at hr
      obtain ⟨⟨v, h2⟩, hop, hr⟩ := hr
      obtain ⟨E, H, V, a1, a2, a3, a4, a5⟩ := trace ops l hr
      refine ⟨fun n => match n with | 0 => e | n + 1 => E n, fun n => match n with | 0 => h | n + 1 => H n, fun n => match n with | 0 => v | n + 1 => V n, rfl, rfl, a3, a4, fun i p hp => ?_⟩
      cases i with
      | zero => simp at hp; subst hp; exact ⟨.inl ⟨hw, by simp only [a2]; exact hop⟩, a1⟩
      | succ i => simp at hp; exact a5 i p hp
    · rename_i hw
      obtain ⟨E, H, V, a1, a2, a3, a4, a5⟩ := trace ops l hr
      refine ⟨fun n => match n with | 0 => e | n + 1 => E n, fun n => match n with | 0 => h | n + 1 => H n, fun n => match n with | 0 => undef | n + 1 => V n, rfl, rfl, a3, a4, fun i p hp => ?_⟩
      cases i with
      | zero => simp at hp; subst hp; exact ⟨.inr ⟨by simpa using hw, rfl, a2⟩, a1⟩
      | succ i => simp at hp; exact a5 i p hp

def ES (ops : Array Oper) (e0 : Env) (V : Nat → Value) (S : Nat → Bool) : Nat → Env
  | 0 => e0
  | n + 1 => match ops[n]? with | some o => if S n then updO (ES ops e0 V S n) o.dst (V n) else ES ops e0 V S n | none => ES ops e0 V S n
def HS (ops : Array Oper) (h0 : Heap) (H : Nat → Heap) (S : Nat → Bool) : Nat → Heap
  | 0 => h0
  | n + 1 => match ops[n]? with | some o => if S n && !quietOp o.op then H (n + 1) else HS ops h0 H S n | none => HS ops h0 H S n
theorem updO_ne {e : Env} {d : Option Nat} {v : Value} {t : Nat} (h : d ≠ some t) : updO e d v t = e t := by
  cases d with
  | none => rfl
  | some d => simp only [updO, upd]; rw [if_neg (fun q => h (by rw [q]))]
theorem updO_eq {e : Env} {v : Value} {t : Nat} : updO e (some t) v t = v := by simp [updO, upd]
theorem ES_agree {ops : Array Oper} {e0 : Env} {V : Nat → Value} {S S' : Nat → Bool} {t : Nat} : ∀ (n : Nat), (∀ k o, k < n → ops[k]? = some o → o.dst = some t → S k = S' k) → ES ops e0 V S n t = ES ops e0 V S' n t
  | 0, _ => rfl
  | n + 1, h => by
    have ih := ES_agree (e0 := e0) (V := V) n fun k o hk => h k o (by omega)
    simp only [ES]
    cases ho : ops[n]? with
    | none => exact ih
    | some o =>
      simp only
      by_cases hd : o.dst = some t
      · rw [h n o (by omega) ho hd]
        split
        · rw [hd, updO_eq, updO_eq]
        · exact ih
      · split <;> split <;> simp only [updO_ne hd, ih]
theorem HS_agree {ops : Array Oper} {h0 : Heap} {H : Nat → Heap} {S S' : Nat → Bool} : ∀ (n : Nat), (∀ k o, k < n → ops[k]? = some o → quietOp o.op = false → S k = S' k) → HS ops h0 H S n = HS ops h0 H S' n
  | 0, _ => rfl
  | n + 1, h => by
    have ih := HS_agree (h0 := h0) (H := H) n fun k o hk => h k o (by omega)
    simp only [HS]
    cases ho : ops[n]? with
    | none => exact ih
    | some o =>
      simp only
      cases hq : quietOp o.op with
      | true => simpa using ih
      | false => rw [h n o (by omega) ho hq, ih]
theorem ES_last {ops : Array Oper} {e0 : Env} {V : Nat → Value} {S : Nat → Bool} {t i : Nat} {oi : Oper} (hi : ops[i]? = some oi) (hd : oi.dst = some t) (hS : S i = true) : ∀ (n : Nat), i < n → (∀ k o, i < k → k < n → ops[k]? = some o → o.dst = some t → S k = false) → ES ops e0 V S n t = V i
  | 0, h, _ => by omega
  | n + 1, h, hk => by
    simp only [ES]
    by_cases hin : i = n
    · subst hin
      rw [hi]
      simp only [hS, if_true, hd, updO_eq]
    · have ih := ES_last (e0 := e0) (V := V) hi hd hS n (by omega) fun k o h1 h2 => hk k o h1 (by omega)
      cases ho : ops[n]? with
      | none => exact ih
      | some o =>
        simp only
        split
        · rename_i hn
          by_cases hdo : o.dst = some t
          · rw [hk n o (by omega) (by omega) ho hdo] at hn; cases hn
          · rw [updO_ne hdo]; exact ih
        · exact ih
theorem HS_last {ops : Array Oper} {h0 : Heap} {H : Nat → Heap} {S : Nat → Bool} {i : Nat} {oi : Oper} (hi : ops[i]? = some oi) (hd : quietOp oi.op = false) (hS : S i = true) : ∀ (n : Nat), i < n → (∀ k o, i < k → k < n → ops[k]? = some o → quietOp o.op = false → S k = false) → HS ops h0 H S n = H (i + 1)
  | 0, h, _ => by omega
  | n + 1, h, hk => by
    simp only [HS]
    by_cases hin : i = n
    · subst hin
      rw [hi]
      simp [hS, hd]
    · have ih := HS_last (h0 := h0) (H := H) hi hd hS n (by omega) fun k o h1 h2 => hk k o h1 (by omega)
      cases ho : ops[n]? with
      | none => exact ih
      | some o =>
        simp only
        cases hq : quietOp o.op with
        | true => simpa using ih
        | false => rw [hk n o (by omega) (by omega) ho hq]; simpa using ih

theorem ready_iff {ops : Array Oper} {listed : Array Bool} (hl : listed.size = ops.size) {i : Nat} (h : i ∈ Region.ready .any ops listed) (hd : DrawFacts P ops) : ∃ o, ops[i]? = some o ∧ listed.getD i false = false ∧ ∀ e ∈ (edgesOf o), listed.getD e.on false = true := by
  unfold Region.ready at h
  simp only [List.mem_filter, List.mem_range, Bool.and_eq_true, Bool.not_eq_true'] at h
  obtain ⟨hlt, h1, h2⟩ := h
  refine ⟨ops[i], Array.getElem?_eq_getElem hlt, ?_, ?_⟩
  · have hi : i < listed.size := by omega
    rw [Array.getD_eq_getD_getElem?, Array.getElem?_eq_getElem hi] at h1 ⊢
    exact h1
  · rw [Array.getElem?_eq_getElem hlt] at h2
    simp only [Option.map_some, Option.getD_some, ← Array.all_toList, List.all_eq_true, Bool.or_eq_true, Bool.not_eq_true'] at h2
    intro e he
    have hb := (hd.edge i _ e (Array.getElem?_eq_getElem hlt) he).1
    rcases h2 e (List.mem_filter.1 he).1 with q | q
    · rw [hb] at q; cases q
    · exact q
theorem ready_nil {ops : Array Oper} {listed : Array Bool} (hl : listed.size = ops.size) (h : Region.ready .any ops listed = []) (hd : DrawFacts P ops) : ∀ i, i < ops.size → listed.getD i false = true := by
  intro i
  induction i using Nat.strongRecOn with
  | _ i ih =>
    intro hi
    cases hv : listed.getD i false with
    | true => rfl
    | false =>
      exfalso
      have hm : i ∈ Region.ready .any ops listed := by
        unfold Region.ready
        simp only [List.mem_filter, List.mem_range, Bool.and_eq_true, Bool.not_eq_true']
        refine ⟨hi, ?_, ?_⟩
        · have hi' : i < listed.size := by omega
          rw [Array.getD_eq_getD_getElem?, Array.getElem?_eq_getElem hi'] at hv ⊢
          exact hv
        · rw [Array.getElem?_eq_getElem hi]
          simp only [Option.map_some, Option.getD_some, ← Array.all_toList, List.all_eq_true, Bool.or_eq_true]
          intro e he
          cases hbe : Region.binds .any e with
          | false => exact .inl rfl
          | true =>
            have hb := hd.edge i _ e (Array.getElem?_eq_getElem hi) (List.mem_filter.2 ⟨he, hbe⟩)
            exact .inr (ih e.on hb.2 (by omega))
      rw [h] at hm; cases hm
theorem count_full {l : Array Bool} (h : l.size ≤ l.toList.countP id) : ∀ i, i < l.size → l.getD i false = true := by
  intro i hi
  have h1 : l.toList.countP id = l.toList.length := by
    have := List.countP_le_length (p := id) (l := l.toList)
    simp only [Array.length_toList] at this ⊢
    omega
  rw [List.countP_eq_length] at h1
  rw [Array.getD_eq_getD_getElem?, Array.getElem?_eq_getElem hi]
  exact h1 _ (by rw [← Array.getElem_toList hi]; exact List.getElem_mem _)
theorem count_set {l : Array Bool} {i : Nat} (hi : i < l.size) (h : l.getD i false = false) : (l.setIfInBounds i true).toList.countP id = l.toList.countP id + 1 := by
  rw [Array.getD_eq_getD_getElem?, Array.getElem?_eq_getElem hi] at h
  simp only [Option.getD_some] at h
  rw [Array.toList_setIfInBounds, List.countP_set (h := by simpa using hi)]
  simp [h]

theorem any_snd {C : Fns} (hC : Snd P ro B C) {N : Nat} {ops : Array Oper} (hd : DrawFacts P ops) (hok : ∀ o ∈ ops.toList, opOk o.op = true ∧ dstOk N o = true) {e0 e' : Env} {h0 h' : Heap} (hr : aops P ro (keeps C) ops ops.toList e0 h0 = some (e', h')) {ρ0 : List Loc} {w0 : World} {Q : Exit → Act → World → Prop}
    (hq : ∀ a' w' ρ', Pre ρ0 ρ' → SR P ro B ρ' h' w' → AR P ro ρ' N e' a' → Below B.n w0 w' → Q .normal a' w') {a0 : Act} (hs0 : SR P ro B ρ0 h0 w0) (hB0 : B.n ≤ w0.heap.size) (hA0 : AR P ro ρ0 N e0 a0) :
    wpAny P .any ops Q ops.size (Array.replicate ops.size false) a0 w0 := by
  obtain ⟨E, H, V, t1, t2, t3, t4, t5⟩ := trace ops ops.toList hr
  have t5' : ∀ (i : Nat) (o : Oper), ops[i]? = some o → ((wants ops (E i) o = true ∧ aop P ro (keeps C) o.op (E i) (H i) = some (V i, H (i + 1))) ∨ (wants ops (E i) o = false ∧ V i = undef ∧ H (i + 1) = H i)) ∧ E (i + 1) = updO (E i) o.dst (V i) := fun i o h => t5 i o (by simpa using h)
  simp only [Array.length_toList] at t3 t4
  have hquiet : ∀ (i : Nat) (o : Oper), ops[i]? = some o → quietOp o.op = true → H (i + 1) = H i := by
    intro i o hi hqo
    rcases (t5' i o hi).1 with ⟨_, q⟩ | ⟨_, _, q⟩
    · exact quiet_heap hqo q
    · exact q
  -- what a full beginning leaves
  have Epre : ∀ (i n : Nat), n ≤ ops.size → (∀ t, n ≤ i → ES ops e0 V (fun k => decide (k < i)) n t = E n t) ∧ (∀ t, i ≤ n → ES ops e0 V (fun k => decide (k < i)) n t = E i t) := by
    intro i n
    induction n with
    | zero => intro _; exact ⟨fun t _ => by simp only [ES, t1], fun t h => by rw [Nat.le_zero.1 h]; simp only [ES, t1]⟩
    | succ n ih =>
      intro hn
      obtain ⟨ih1, ih2⟩ := ih (by omega)
      have hg : ops[n]? = some ops[n] := Array.getElem?_eq_getElem (by omega)
      have step : ∀ t, n + 1 ≤ i → ES ops e0 V (fun k => decide (k < i)) (n + 1) t = E (n + 1) t := by
        intro t h
        simp only [ES, hg]
        rw [if_pos (by simp; omega), (t5' n _ hg).2]
        have : ES ops e0 V (fun k => decide (k < i)) n = E n := funext fun t => ih1 t (by omega)
        rw [this]
      refine ⟨step, fun t h => ?_⟩
      by_cases hin : i = n + 1
      · subst hin; exact step t (Nat.le_refl _)
      · simp only [ES, hg]
        rw [if_neg (by simp; omega)]
        exact ih2 t (by omega)
  have Hpre : ∀ (i n : Nat), n ≤ ops.size → (n ≤ i → HS ops h0 H (fun k => decide (k < i)) n = H n) ∧ (i ≤ n → HS ops h0 H (fun k => decide (k < i)) n = H i) := by
    intro i n
    induction n with
    | zero => intro _; exact ⟨fun _ => by simp only [HS, t2], fun h => by rw [Nat.le_zero.1 h]; simp only [HS, t2]⟩
    | succ n ih =>
      intro hn
      obtain ⟨ih1, ih2⟩ := ih (by omega)
      have hg : ops[n]? = some ops[n] := Array.getElem?_eq_getElem (by omega)
      have step : n + 1 ≤ i → HS ops h0 H (fun k => decide (k < i)) (n + 1) = H (n + 1) := by
        intro h
        simp only [HS, hg]
        cases hqo : quietOp ops[n].op with
        | true => simp only [Bool.not_true, Bool.and_false, Bool.false_eq_true, if_false]; rw [ih1 (by omega), hquiet n _ hg hqo]
        | false => rw [if_pos (by simp; omega)]
      refine ⟨step, fun h => ?_⟩
      by_cases hin : i = n + 1
      · subst hin; exact step (Nat.le_refl _)
      · simp only [HS, hg]
        rw [if_neg (by simp; omega)]
        exact ih2 (by omega)
  -- the rounds
  have rounds : ∀ (fuel : Nat) (listed : Array Bool) (a : Act) (w : World) (ρ : List Loc), listed.size = ops.size → ops.size ≤ fuel + listed.toList.countP id →
      Closed ops (fun n => listed.getD n false) → Pre ρ0 ρ → SR P ro B ρ (HS ops h0 H (fun n => listed.getD n false) ops.size) w → AR P ro ρ N (ES ops e0 V (fun n => listed.getD n false) ops.size) a → Below B.n w0 w →
      wpAny P .any ops Q fuel listed a w := by
    intro fuel
    induction fuel with
    | zero =>
      intro listed a w ρ hl hc hcl hp hs hA hb
      have hall := count_full (l := listed) (by omega)
      refine ⟨?_, ?_⟩
      · refine List.eq_nil_iff_forall_not_mem.2 fun i hi => ?_
        obtain ⟨o, ho, h1, _⟩ := ready_iff hl hi hd
        rw [hall i (by rw [hl]; exact lt_of_get ho)] at h1; cases h1
      · have e1 : ES ops e0 V (fun n => listed.getD n false) ops.size = e' := funext fun t => by
          rw [ES_agree (S' := fun k => decide (k < ops.size)) ops.size (fun k o hk _ _ => by rw [hall k (by omega)]; simp [hk]), ← t3]
          exact (Epre ops.size ops.size (Nat.le_refl _)).1 t (Nat.le_refl _)
        have e2 : HS ops h0 H (fun n => listed.getD n false) ops.size = h' := by
          rw [HS_agree (S' := fun k => decide (k < ops.size)) ops.size (fun k o hk _ _ => by rw [hall k (by omega)]; simp [hk]), ← t4]
          exact (Hpre ops.size ops.size (Nat.le_refl _)).1 (Nat.le_refl _)
        rw [e1] at hA; rw [e2] at hs
        exact hq a w ρ hp hs hA hb
    | succ fuel ih =>
      intro listed a w ρ hl hc hcl hp hs hA hb
      refine ⟨fun hnil => ?_, fun i hi => ?_⟩
      · have hall := ready_nil hl hnil hd
        have e1 : ES ops e0 V (fun n => listed.getD n false) ops.size = e' := funext fun t => by
          rw [ES_agree (S' := fun k => decide (k < ops.size)) ops.size (fun k o hk _ _ => by rw [hall k (by omega)]; simp [hk]), ← t3]
          exact (Epre ops.size ops.size (Nat.le_refl _)).1 t (Nat.le_refl _)
        have e2 : HS ops h0 H (fun n => listed.getD n false) ops.size = h' := by
          rw [HS_agree (S' := fun k => decide (k < ops.size)) ops.size (fun k o hk _ _ => by rw [hall k (by omega)]; simp [hk]), ← t4]
          exact (Hpre ops.size ops.size (Nat.le_refl _)).1 (Nat.le_refl _)
        rw [e1] at hA; rw [e2] at hs
        exact hq a w ρ hp hs hA hb
      · obtain ⟨o, ho, hni, hpre⟩ := ready_iff hl hi hd
        have hilt := lt_of_get ho
        have hSlt : ∀ j, (fun n => listed.getD n false) j = true → j < ops.size := by
          intro j hj
          rcases Nat.lt_or_ge j ops.size with q | q
          · exact q
          · simp only [Array.getD_eq_getD_getElem?] at hj
            rw [Array.getElem?_eq_none (by omega)] at hj; cases hj
        -- others that stand in an order with i
        have side : ∀ (k : Nat) (p : Oper), ops[k]? = some p → k ≠ i → (ordB (befs ops.toList []) k i = true ∨ ordB (befs ops.toList []) i k = true) → listed.getD k false = decide (k < i) := by
          intro k p hk hne hor
          rcases hor with q | q
          · have h1 := ready_ord hcl hSlt ho hpre q
            have h2 := ord_lt hd i k o ho q
            have h1' : listed.getD k false = true := h1
            rw [h1']; simp [h2]
          · have h2 := ord_lt hd k i p hk q
            have h3 : listed.getD k false = false := by
              cases hv : listed.getD k false with
              | false => rfl
              | true => have h4 : listed.getD i false = true := closed_ord hcl hSlt k i hv q; rw [hni] at h4; cases h4
            rw [h3]; symm; simp; omega
        have sideC : ∀ (k : Nat) (p : Oper), ops[k]? = some p → k ≠ i → (clash ops p o = true ∨ clash ops o p = true ∨ (quietOp p.op = false ∧ deafOp P o.op = false)) → listed.getD k false = decide (k < i) := by
          intro k p hk hne hcc
          refine side k p hk hne ?_
          rcases hcc with q | q | q
          · rcases hd.pair k i p o hk ho hne with ⟨z, _⟩ | z | z
            · rw [q] at z; cases z
            · exact .inl z
            · exact .inr z
          · rcases hd.pair i k o p ho hk (Ne.symm hne) with ⟨z, _⟩ | z | z
            · rw [q] at z; cases z
            · exact .inr z
            · exact .inl z
          · rcases hd.pair k i p o hk ho hne with ⟨_, z | z⟩ | z | z
            · rw [q.1] at z; cases z
            · rw [q.2] at z; cases z
            · exact .inl z
            · exact .inr z
        have eqE : ∀ t ∈ looks ops o, ES ops e0 V (fun n => listed.getD n false) ops.size t = E i t := by
          intro t ht
          rw [ES_agree (S' := fun k => decide (k < i)) ops.size (fun k p hk hkp hdp => ?_)]
          · exact (Epre i ops.size (Nat.le_refl _)).2 t (by omega)
          · by_cases hki : k = i
            · subst hki; rw [hni]; simp
            · exact sideC k p hkp hki (.inl (by unfold clash; rw [hdp]; simp only [Bool.or_eq_true]; left; simpa using ht))
        have eqH : deafOp P o.op = false → HS ops h0 H (fun n => listed.getD n false) ops.size = H i := by
          intro hdf
          rw [HS_agree (S' := fun k => decide (k < i)) ops.size (fun k p hk hkp hdp => ?_)]
          · exact (Hpre i ops.size (Nat.le_refl _)).2 (by omega)
          · by_cases hki : k = i
            · subst hki; rw [hni]; simp
            · exact sideC k p hkp hki (.inr (.inr ⟨hdp, hdf⟩))
        have hil : i < listed.size := by omega
        have getS : ∀ k, (listed.setIfInBounds i true).getD k false = if k = i then true else listed.getD k false := by
          intro k
          rw [Array.getD_eq_getD_getElem?, Array.getD_eq_getD_getElem?]
          by_cases hki : k = i
          · subst hki; rw [Array.getElem?_setIfInBounds_self_of_lt hil, if_pos rfl]; rfl
          · rw [Array.getElem?_setIfInBounds_ne (Ne.symm hki), if_neg hki]
        -- the state behind
        have nextE : ES ops e0 V (fun n => (listed.setIfInBounds i true).getD n false) ops.size = updO (ES ops e0 V (fun n => listed.getD n false) ops.size) o.dst (V i) := by
          funext t
          by_cases hdt : o.dst = some t
          · rw [hdt, updO_eq]
            refine ES_last ho hdt (by simp only [getS, if_pos]) ops.size hilt fun k p h1 h2 hkp hdp => ?_
            simp only [getS]
            rw [if_neg (by omega), sideC k p hkp (by omega) (.inl (by unfold clash; rw [hdp]; simp only [Bool.or_eq_true]; right; simp [hdt]))]
            simp; omega
          · rw [updO_ne hdt]
            refine ES_agree ops.size fun k p hk hkp hdp => ?_
            simp only [getS]
            rw [if_neg]
            intro hki; subst hki; rw [ho] at hkp; cases hkp; exact hdt hdp
        have nextH : HS ops h0 H (fun n => (listed.setIfInBounds i true).getD n false) ops.size = if quietOp o.op then HS ops h0 H (fun n => listed.getD n false) ops.size else H (i + 1) := by
          cases hqo : quietOp o.op with
          | true =>
            rw [if_pos rfl]
            refine HS_agree ops.size fun k p hk hkp hdp => ?_
            simp only [getS]
            rw [if_neg]
            intro hki; subst hki; rw [ho] at hkp; cases hkp; rw [hqo] at hdp; cases hdp
          | false =>
            have hdf : deafOp P o.op = false := by cases hv : deafOp P o.op with | false => rfl | true => rw [deaf_quiet hv] at hqo; cases hqo
            rw [if_neg (by simp)]
            refine HS_last ho hqo (by simp only [getS, if_pos]) ops.size hilt fun k p h1 h2 hkp hdp => ?_
            simp only [getS]
            rw [if_neg (by omega), sideC k p hkp (by omega) (.inr (.inr ⟨hdp, hdf⟩))]
            simp; omega
        have hcl' : Closed ops (fun n => (listed.setIfInBounds i true).getD n false) := by
          intro j p ed hj hSj hed
          simp only [getS] at hSj ⊢
          by_cases hji : j = i
          · subst hji
            rw [ho] at hj; cases hj
            have := hpre ed hed
            split
            · rfl
            · exact this
          · rw [if_neg hji] at hSj
            have := hcl j p ed hj hSj hed
            split
            · rfl
            · exact this
        have hcount : ops.size ≤ fuel + (listed.setIfInBounds i true).toList.countP id := by rw [count_set hil hni]; omega
        have hok' := hok o (by rw [← Array.getElem?_toList] at ho; exact List.mem_of_getElem? ho)
        unfold wpOp
        rw [ho]
        simp only
        rw [hA.wants]
        have hwant : wants ops (ES ops e0 V (fun n => listed.getD n false) ops.size) o = wants ops (E i) o := wants_congr fun t ht => eqE t (by unfold looks; simp [ht])
        rw [hwant]
        rcases (t5' i o ho).1 with ⟨hw, hop⟩ | ⟨hw, hv, hH⟩
        · rw [if_pos hw]
          refine .inl (aop_snd (keeps_snd hC) (h' := if quietOp o.op then HS ops h0 H (fun n => listed.getD n false) ops.size else H (i + 1)) (v := V i) hs (Nat.le_trans hB0 hb.size) hA.er hok'.1 ?_ fun v' w' ρ' q1 q2 q3 q4 => ?_)
          · rw [aop_congr (e' := E i) fun t ht => eqE t (by unfold looks; simp [ht])]
            cases hdf : deafOp P o.op with
            | true => rw [deaf_quiet hdf, if_pos rfl]; exact deaf_op hdf hop _
            | false =>
              rw [eqH hdf]
              cases hqo : quietOp o.op with
              | true => rw [if_pos rfl, ← hquiet i o ho hqo]; rw [hquiet i o ho hqo] at hop ⊢; exact hop
              | false => rw [if_neg (by simp)]; exact hop
          · refine ih _ _ _ ρ' (by simpa using hl) hcount hcl' (hp.trans q1) ?_ ?_ (hb.trans q4)
            · rw [nextH]; exact q2
            · rw [nextE]; exact (hA.mono q1).put (dstOk_lt hok'.2) q3
        · rw [if_neg (by rw [hw]; simp)]
          refine ih _ _ _ ρ (by simpa using hl) hcount hcl' hp ?_ ?_ hb
          · have : HS ops h0 H (fun n => (listed.setIfInBounds i true).getD n false) ops.size = HS ops h0 H (fun n => listed.getD n false) ops.size := by
              rw [nextH]
              cases hqo : quietOp o.op with
              | true => rw [if_pos rfl]
              | false =>
                have hdf : deafOp P o.op = false := by cases hv : deafOp P o.op with | false => rfl | true => rw [deaf_quiet hv] at hqo; cases hqo
                rw [if_neg (by simp), hH, eqH hdf]
            rw [this]; exact hs
          · rw [nextE, hv]; exact hA.put (dstOk_lt hok'.2) VR_undef
  refine rounds ops.size _ a0 w0 ρ0 (by simp) (by simp) ?_ (Pre.refl _) ?_ ?_ (Below.refl _ _)
  · intro j o e hj hS he
    simp only [Array.getD_eq_getD_getElem?, Array.getElem?_replicate] at hS
    split at hS <;> cases hS
  · have e2 : HS ops h0 H (fun n => (Array.replicate ops.size false).getD n false) ops.size = h0 := by
      rw [HS_agree (S' := fun k => decide (k < 0)) ops.size (fun k o hk _ _ => by simp [Array.getD_eq_getD_getElem?, Array.getElem?_replicate, hk])]
      rw [(Hpre 0 ops.size (Nat.le_refl _)).2 (Nat.zero_le _), t2]
    rw [e2]; exact hs0
  · have e1 : ES ops e0 V (fun n => (Array.replicate ops.size false).getD n false) ops.size = e0 := funext fun t => by
      rw [ES_agree (S' := fun k => decide (k < 0)) ops.size (fun k o hk _ _ => by simp [Array.getD_eq_getD_getElem?, Array.getElem?_replicate, hk])]
      rw [(Epre 0 ops.size (Nat.le_refl _)).2 t (Nat.zero_le _), t1]
    rw [e1]; exact hA0
end Go.Proofs.Yteignhphimfmkaa.Sim
