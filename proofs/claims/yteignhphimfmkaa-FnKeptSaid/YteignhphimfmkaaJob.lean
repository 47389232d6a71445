/- A loop of the model's code by a measure; a map in a call of its own. Lemmas only; no condition. -/
import Derived.Test.YteignhphimfmkaaSimM
import Derived.Maps.Own
import Derived.Maps.Views
set_option linter.unusedSimpArgs false
namespace Go.Proofs.Yteignhphimfmkaa.Sim
open Go Go.RowKit
variable {P : Program} {ro : Nat} {B : Base}
theorem wp_loop_by {c : Code} {Q : Exit → Act → World → Prop} (I : Nat → Act → World → Prop) (step : ∀ m a w, I m a w → c.wp P (fun ex a' w' => (ex = .normal ∧ ∃ m', m' < m ∧ I m' a' w') ∨ (ex ≠ .normal ∧ Q ex a' w')) a w) : ∀ (m : Nat) (a : Act) (w : World), I m a w → (Code.loop c).wp P Q a w := by
  have key : ∀ (m : Nat) (a : Act) (w : World), I m a w → ∀ b k cs, ∃ ex a' w', Q ex a' w' ∧ Arrives P (lone (b.at a (.code c :: .inLoop c :: k)) cs w) b k cs ex a' w' := by
    intro m
    induction m using Nat.strongRecOn with
    | _ m ih =>
      intro a w h b k cs
      obtain ⟨ex, a2, w2, hq, harr⟩ := step m a w h b (.inLoop c :: k) cs
      rcases hq with ⟨rfl, m', hm, hI⟩ | ⟨hne, hq⟩
      · obtain ⟨ex, a3, w3, hq3, harr3⟩ := ih m' hm a2 w2 hI b k cs
        exact ⟨ex, a3, w3, hq3, .of_steps (Steps.trans harr (.one step_inLoop)) harr3⟩
      · exact ⟨ex, a2, w2, hq, .pass (x := .inLoop c) rfl (fun _ _ => .inl hne) harr⟩
  intro m a w h b k cs
  obtain ⟨ex, a', w', hq', harr⟩ := key m a w h b k cs
  exact ⟨ex, a', w', hq', .of_steps (.one step_loop) harr⟩
/-- The first operations of a list by the abstract machine, the others by hand. -/
theorem aops_cont {C : Fns} (hC : Snd P ro B C) {N : Nat} (ops : Array Oper) (l2 : List Oper) : ∀ (l : List Oper), (∀ o ∈ l, opOk o.op = true ∧ dstOk N o = true) → ∀ {ρ : List Loc} {h h' : Heap} {w : World} {e e' : Env} {a : Act}, SR P ro B ρ h w → B.n ≤ w.heap.size → AR P ro ρ N e a →
    aops P ro C ops l e h = some (e', h') → ∀ {Q : Exit → Act → World → Prop}, (∀ a' w' ρ', Pre ρ ρ' → SR P ro B ρ' h' w' → AR P ro ρ' N e' a' → Below B.n w w' → wpList P ops Q l2 a' w') → wpList P ops Q (l ++ l2) a w
  | [], _, ρ, h, h', w, e, e', a, hs, hB, hA, hr, Q, hq => by
    simp only [aops] at hr
    cases hr
    exact hq a w ρ (Pre.refl _) hs hA (Below.refl _ _)
  | o :: l, hok, ρ, h, h', w, e, e', a, hs, hB, hA, hr, Q, hq => by
    have h1 := hok o (by simp)
    rw [List.cons_append]
    unfold wpList
    rw [hA.wants]
    simp only [aops] at hr
    split at hr
    · rename_i hw
      rw [if_pos hw]
      simp only [Option.bind_eq_some_iff] at hr
      obtain ⟨⟨v, h2⟩, hop, hr⟩ := hr
      refine .inl (aop_snd hC hs hB hA.er h1.1 hop fun v' w' ρ' q1 q2 q3 q4 => ?_)
      exact aops_cont hC ops l2 l (fun o ho => hok o (by simp [ho])) q2 (Nat.le_trans hB q4.size) ((hA.mono q1).put (dstOk_lt h1.2) q3) hr fun a2 w2 ρ2 r1 r2 r3 r4 => hq a2 w2 ρ2 (q1.trans r1) r2 r3 (q4.trans r4)
    · rename_i hw
      rw [if_neg hw]
      exact aops_cont hC ops l2 l (fun o ho => hok o (by simp [ho])) hs hB (hA.put (dstOk_lt h1.2) VR_undef) hr hq
/-- An operation by the model's own run. -/
theorem wpList_run {ops : Array Oper} {l : List Oper} {o : Oper} {a : Act} {w w' : World} {Q : Exit → Act → World → Prop} {v : Value} (hg : o.guard = none) (hr : (execOp a.eval o).run P w = .ok (.value v) w') (hq : wpList P ops Q l (a.put o.dst v) w') : wpList P ops Q (o :: l) a w := by
  unfold wpList
  rw [show Region.wanted o (yielded ops a.tmps) = true by unfold Region.wanted; rw [hg], if_pos rfl]
  refine .inl ?_
  unfold Oper.wp
  rw [hr, Oper.upon_value]
  exact hq
/-! ### Blocks that are there, as read only ones -/
mutual
theorem VR.up {ro' : Nat} {ρ : List Loc} (hr : ro ≤ ro') : ∀ {v v' : Value}, VR P ro ρ v v' → VR P ro' ρ v v'
  | _, _, .bool b => .bool b
  | _, _, .int k n => .int k n
  | _, _, .str s => .str s
  | _, _, .flt k b b' h => .flt k b b' h
  | _, _, .cpx k a b a' b' h h' => .cpx k a b a' b' h h'
  | _, _, .pnil => .pnil
  | _, _, .ptr b o L h => .ptr b o L h
  | _, _, .snil => .snil
  | _, _, .slc b o L len cap cap' h h1 h2 h3 => .slc b o L len cap cap' h h1 h2 fun q => h3 (Nat.le_trans hr q)
  | _, _, .slz b o cap a L h => .slz b o cap a L h
  | _, _, .fn f xs ys xs' ys' h h' => .fn f xs ys xs' ys' (VRs.up hr h) (VRs.up hr h')
  | _, _, .nilFn => .nilFn
  | _, _, .nilIface => .nilIface
  | _, _, .opq b => .opq b
  | _, _, .agg xs ys h => .agg xs ys (VRs.up hr h)
  | _, _, .tup xs ys h => .tup xs ys (VRs.up hr h)
theorem VRs.up {ro' : Nat} {ρ : List Loc} (hr : ro ≤ ro') : ∀ {v v' : List Value}, VRs P ro ρ v v' → VRs P ro' ρ v v'
  | _, _, .nil => .nil
  | _, _, .cons x y xs ys h t => .cons x y xs ys (VR.up hr h) (VRs.up hr t)
end
theorem lt_get {h : Heap} {b : Nat} {Bk : Blk} (hb : h[b]? = some Bk) : b < h.length := by
  rcases Nat.lt_or_ge b h.length with q | q
  · exact q
  · rw [List.getElem?_eq_none q] at hb; cases hb
theorem SR.rebase {ρ : List Loc} {h : Heap} {w : World} (s : SR P ro B ρ h w) (hro : ro ≤ h.length) (hB : B.n ≤ w.heap.size) : SR P h.length (B.up w hB) ρ h w := by
  refine ⟨s.len, fun b L Bk h1 h2 h3 => absurd (lt_get h2) (by omega), fun b L Bk h1 h2 h3 => ?_, fun b b' L L' Bk Bk' _ h0 _ _ h2 _ _ _ => absurd (lt_get h2) (by omega), s.glob⟩
  obtain ⟨C, ty, fr, k1, k2, _⟩ := s.blk b L Bk h1 h2 h3
  refine ⟨C, ty, fr, k1, fun i v hv => ?_, fun q => absurd (lt_get h2) (by omega)⟩
  obtain ⟨v', q1, q2, q3⟩ := k2 i v hv
  exact ⟨v', q1, q2.up hro, q3⟩
theorem SR.unbase {ρ ρ' : List Loc} {h h' : Heap} {w w' : World} (s0 : SR P ro B ρ h w) (hB : B.n ≤ w.heap.size) (s1 : SR P h.length (B.up w hB) ρ' h' w') (hp : Pre ρ ρ') (ht : ∀ b, b < h.length → h'[b]? = h[b]?) (hb : Below w.heap.size w w')
    (hi : ∀ (b : Nat) (Bk : Blk), h.length ≤ b → h'[b]? = some Bk → ∀ v ∈ Bk.cells, ∃ k n, v = .int k n) : SR P ro B ρ' h' w' := by
  have hl : ∀ b, b < h.length → ρ'[b]? = ρ[b]? := fun b hb' => by
    obtain ⟨t, rfl⟩ := hp
    exact List.getElem?_append_left (by rw [s0.len]; exact hb')
  refine ⟨s1.len, fun b L Bk h1 h2 h3 => ?_, fun b L Bk h1 h2 h3 => ?_, fun b b' L L' Bk Bk' hne h0 h1 h1' h2 h2' h3 h3' => ?_, fun k hk => (hb.block k (by have := B.le; omega)).trans (s0.glob k hk)⟩
  · rcases Nat.lt_or_ge b h.length with q | q
    · rw [hl b q] at h1; rw [ht b q] at h2; exact s0.ty b L Bk h1 h2 h3
    · exact s1.ty b L Bk h1 h2 q
  · rcases Nat.lt_or_ge b h.length with q | q
    · rw [hl b q] at h1
      rw [ht b q] at h2
      obtain ⟨C, ty, fr, k1, k2, k3⟩ := s0.blk b L Bk h1 h2 h3
      refine ⟨C, ty, fr, ?_, fun i v hv => ?_, k3⟩
      · rw [← k1]
        exact hb.block L.g (s0.lt h1 h2 h3)
      · obtain ⟨v', q1, q2, q3⟩ := k2 i v hv
        exact ⟨v', q1, q2.mono hp, q3⟩
    · obtain ⟨C, ty, fr, k1, k2, k3⟩ := s1.blk b L Bk h1 h2 h3
      refine ⟨C, ty, fr, k1, fun i v hv => ?_, fun _ => ?_⟩
      · obtain ⟨v', q1, q2, q3⟩ := k2 i v hv
        obtain ⟨k, n, rfl⟩ := hi b Bk q h2 v (List.mem_of_getElem? hv)
        cases q2
        exact ⟨_, q1, .int _ _, q3⟩
      · obtain ⟨z1, z2, z3, z4, z5⟩ := k3 q
        have z4' : w.heap.size ≤ L.g := z4
        exact ⟨z1, z2, z3, Nat.le_trans hB z4', z5⟩
  · rcases Nat.lt_or_ge b h.length with q | q
    · rcases Nat.lt_or_ge b' h.length with q' | q'
      · rw [hl b q] at h1; rw [ht b q] at h2; rw [hl b' q'] at h1'; rw [ht b' q'] at h2'
        exact s0.apart b b' L L' Bk Bk' hne h0 h1 h1' h2 h2' h3 h3'
      · exact (s1.apart b' b L' L Bk' Bk (Ne.symm hne) q' h1' h1 h2' h2 h3' h3).symm
    · exact s1.apart b b' L L' Bk Bk' hne q h1 h1' h2 h2' h3 h3'
/-! ### From walks on the abstract machine to the model -/
theorem wp_of_W (hm : P.follows .mixedOrders = true) {X : Ext} (hX : XOk P ro B X) {N : Nat} {c : Code} (hok : codeOk P N c = true) {ρ : List Loc} {h : Heap} {w : World} {e : Env} {a : Act} (hs : SR P ro B ρ h w) (hB : B.n ≤ w.heap.size) (hA : AR P ro ρ N e a) {R : Ex → Env → Heap → Prop}
    (hw : W P ro X c R e h) {Q : Exit → Act → World → Prop} (hq : ∀ x e2 h2, R x e2 h2 → Post P ro B N ρ h2 w e2 (Q (exOf x))) : c.wp P Q a w := by
  obtain ⟨n, x, e2, h2, h1, h3⟩ := hw
  exact ev_snd hm (call_snd hm hX n) n c hok hs hB hA h1 (hq x e2 h2 h3)
theorem wpList_of_WO (hm : P.follows .mixedOrders = true) {X : Ext} (hX : XOk P ro B X) {N : Nat} (ops : Array Oper) (l2 l : List Oper) (hok : (l.all fun o => opOk o.op && dstOk N o) = true) {ρ : List Loc} {h : Heap} {w : World} {e : Env} {a : Act} (hs : SR P ro B ρ h w) (hB : B.n ≤ w.heap.size) (hA : AR P ro ρ N e a) {K : Env → Heap → Prop}
    (hw : WO P ro X false ops l K e h) {Q : Exit → Act → World → Prop} (hq : ∀ e2 h2, K e2 h2 → ∀ a' w' ρ', Pre ρ ρ' → SR P ro B ρ' h2 w' → AR P ro ρ' N e2 a' → Below B.n w w' → wpList P ops Q l2 a' w') : wpList P ops Q (l ++ l2) a w := by
  obtain ⟨n, e2, h2, h1, h3⟩ := hw
  exact aops_cont (call_snd hm hX n) ops l2 l (fun o ho => by simpa using List.all_eq_true.1 hok o ho) hs hB hA h1 (hq e2 h2 h3)
/-- The frame at a function's entry. -/
theorem AR_entry {fn : Func} {ρ : List Loc} {args args' : List Value} (hargs : VRs P ro ρ args args') (hlen : args.length ≤ fn.ntmps) : AR P ro ρ fn.ntmps (entry args) { tmps := (⟨args'⟩ : Array Value) ++ Array.replicate (fn.ntmps - (⟨args'⟩ : Array Value).size) undef, defers := [] } := by
  have hl := hargs.len
  refine ⟨fun t => ?_, by simp; omega, rfl⟩
  unfold entry
  rw [Array.getD_eq_getD_getElem?, List.getD_eq_getElem?_getD]
  by_cases ht : t < args.length
  · obtain ⟨v', q1, q2⟩ := hargs.get (List.getElem?_eq_getElem ht)
    rw [List.getElem?_eq_getElem ht, Array.getElem?_append_left (by simp; omega)]
    simp only [Option.getD_some, List.getElem?_toArray]
    rw [q1]; exact q2
  · rw [List.getElem?_eq_none (by omega), Array.getElem?_append_right (by simp; omega)]
    simp only [Option.getD_none, Array.getElem?_replicate]
    split <;> exact VR_undef
/-- A call of a function that has a body. -/
theorem callOk_of {f : FuncId} {fn : Func} {c : Code} {args : Array Value} {w : World} {R : Value → World → Prop} (hf : P.funcs[f]? = some fn) (hn : fn.name ≠ "runtime.NumGoroutine") (hb : fn.body = some c) (h : c.wp P (bodyPost P fn fun e w' => ∃ v, e = .returned v ∧ R v w') { tmps := args ++ Array.replicate (fn.ntmps - args.size) undef, defers := [] } w) : CallOk P f args w R := by
  right
  exact ⟨by simp [callFunc, hf, hn, hb], calls_of_wp hf hb h⟩
/-! ### Frames and maps -/
theorem AR.up {ro' N : Nat} {ρ : List Loc} {e : Env} {a : Act} (h : AR P ro ρ N e a) (hr : ro ≤ ro') : AR P ro' ρ N e a := ⟨fun t => (h.er t).up hr, h.size, h.defers⟩
theorem AR.map {N t : Nat} {ρ : List Loc} {e : Env} {a : Act} {b : Option Nat} (h : AR P ro ρ N e a) (he : e t = .map b) : a.eval (.tmp t) = .map b := by
  have := h.er t
  rw [he] at this
  show a.tmps.getD t undef = _
  generalize a.tmps.getD t undef = v at this ⊢
  cases this
  rfl
theorem AR.int {N t : Nat} {ρ : List Loc} {e : Env} {a : Act} {k : IntKind} {n : Int} (h : AR P ro ρ N e a) (he : e t = .int k n) : a.eval (.tmp t) = .int k n := by
  have := h.er t
  rw [he] at this
  show a.tmps.getD t undef = _
  generalize a.tmps.getD t undef = v at this ⊢
  cases this
  rfl
theorem below_grown {B : Nat} {w w' : World} {b : Nat} (g : w.grownBy w' (some b)) (hb : B ≤ b) (hw : b < w.heap.size) : Below B w w' :=
  ⟨g.os, g.tape, g.output, g.size, fun k hk => g.block k (by omega) (by simp; omega)⟩
/-- A map's block stands for no block of the abstract machine. -/
theorem SR.grown {ρ : List Loc} {h : Heap} {w w' : World} {b c : Nat} {es : Array MapEntry} (hBb : B.m ≤ b) (hbw : B.m ≤ w.heap.size) (s : SR P ro B ρ h w) (hm : w.heap[b]? = some (.map es c)) (g : w.grownBy w' (some b)) : SR P ro B ρ h w' :=
  s.same (fun k L Bk h1 h2 h3 => by
    refine g.block L.g (s.lt h1 h2 h3) ?_
    obtain ⟨C, ty, fr, h4, _⟩ := s.blk k L Bk h1 h2 h3
    intro e
    cases e
    rw [hm] at h4
    cases h4) fun k hk => g.block k (by omega) (by simp; omega)
/-- The old blocks and one of the new ones. -/
theorem SR.pick {ro1 b : Nat} {B1 : Base} {ρ ρ1 : List Loc} {h h1 : Heap} {w w' : World} {L : Loc} {Bk : Blk} (s0 : SR P ro B ρ h w) (hB : B.n ≤ w.heap.size) (hb : Below w.heap.size w w') (s1 : SR P ro1 B1 ρ1 h1 w') (hB1 : w.heap.size ≤ B1.n) (hL : ρ1[b]? = some L) (hk : h1[b]? = some Bk) (hro : ro1 ≤ b)
    (hi : ∀ v ∈ Bk.cells, ∃ k n, v = .int k n) : SR P ro B (ρ ++ [L]) (h ++ [Bk]) w' := by
  have hp : Pre ρ (ρ ++ [L]) := ⟨_, rfl⟩
  have hlen := s0.len
  have hnew : Bk.cells ≠ [] → w.heap.size ≤ L.g := fun hne => by
    obtain ⟨C, ty, fr, k1, k2, k3⟩ := s1.blk b L Bk hL hk hne
    exact Nat.le_trans hB1 (k3 hro).2.2.2.1
  refine ⟨by simp [hlen], fun b2 L2 Bk2 h1' h2' h3 => ?_, fun b2 L2 Bk2 h1' h2' h3 => ?_, fun b2 b3 L2 L3 Bk2 Bk3 hne hr h1' h1'' h2' h2'' h3 h3' => ?_, fun k hk => (hb.block k (by have := B.le; omega)).trans (s0.glob k hk)⟩
  · rw [getElem?_snoc] at h1' h2'
    split at h1'
    · rw [if_pos (by omega)] at h2'; exact s0.ty b2 L2 Bk2 h1' h2' h3
    · split at h1'
      · rw [if_neg (by omega), if_pos (by omega)] at h2'; cases h1'; cases h2'; exact s1.ty b L Bk hL hk hro
      · cases h1'
  · rw [getElem?_snoc] at h1' h2'
    split at h1'
    · rw [if_pos (by omega)] at h2'
      obtain ⟨C, ty, fr, k1, k2, k3⟩ := s0.blk b2 L2 Bk2 h1' h2' h3
      refine ⟨C, ty, fr, (hb.block L2.g (s0.lt h1' h2' h3)).trans k1, fun i v hv => ?_, k3⟩
      obtain ⟨v', q1, q2, q3⟩ := k2 i v hv
      exact ⟨v', q1, q2.mono hp, q3⟩
    · split at h1'
      · rw [if_neg (by omega), if_pos (by omega)] at h2'; cases h1'; cases h2'
        obtain ⟨C, ty, fr, k1, k2, k3⟩ := s1.blk b L Bk hL hk h3
        refine ⟨C, ty, fr, k1, fun i v hv => ?_, fun _ => ?_⟩
        · obtain ⟨v', q1, q2, q3⟩ := k2 i v hv
          obtain ⟨k, n, rfl⟩ := hi v (List.mem_of_getElem? hv)
          cases q2
          exact ⟨_, q1, .int _ _, q3⟩
        · obtain ⟨z1, z2, z3, z4, z5⟩ := k3 hro
          exact ⟨z1, z2, z3, by omega, z5⟩
      · cases h1'
  · rw [getElem?_snoc] at h1' h1'' h2' h2''
    split at h1'
    · rw [if_pos (by omega)] at h2'
      split at h1''
      · rw [if_pos (by omega)] at h2''
        exact s0.apart b2 b3 L2 L3 Bk2 Bk3 hne hr h1' h1'' h2' h2'' h3 h3'
      · split at h1''
        · rw [if_neg (by omega), if_pos (by omega)] at h2''; cases h1''; cases h2''
          have := s0.lt h1' h2' h3
          have := hnew h3'
          omega
        · cases h1''
    · split at h1'
      · rw [if_neg (by omega), if_pos (by omega)] at h2'; cases h1'; cases h2'
        split at h1''
        · rw [if_pos (by omega)] at h2''
          have := s0.lt h1'' h2'' h3'
          have := hnew h3
          omega
        · split at h1''
          · omega
          · cases h1''
      · cases h1'
theorem VR.pick {ro1 b : Nat} {ρ ρ1 : List Loc} {h : Heap} {L : Loc} {n cap cap2 : Nat} {v : Value} (hl : ρ.length = h.length) (hL : ρ1[b]? = some L) (hro : ro1 ≤ b) (hc : cap2 = n → cap = n) (q : VR P ro1 ρ1 (.slice (some ⟨b, 0, none⟩) n cap) v) : VR P ro (ρ ++ [L]) (.slice (some ⟨h.length, 0, none⟩) n cap2) v := by
  have e : (ρ ++ [L])[h.length]? = some L := by rw [← hl]; simp
  cases q with
  | slc b o L' len cap cap' h1 h2 h3 h4 =>
    rw [hL] at h1; cases h1
    exact .slc _ 0 L n cap2 cap' e h2 (fun q => h3 (hc q)) fun _ => h4 hro
  | slz b o cap a L' h1 => exact .slz _ 0 cap2 a L e
theorem VR.pick0 {ro1 b : Nat} {ρ ρ1 : List Loc} {h : Heap} {L : Loc} {v : Value} (hl : ρ.length = h.length) (hL : ρ1[b]? = some L) (q : VR P ro1 ρ1 (.slice (some ⟨b, 0, none⟩) 0 0) v) : VR P ro (ρ ++ [L]) (.slice (some ⟨h.length, 0, none⟩) 0 0) v := by
  have e : (ρ ++ [L])[h.length]? = some L := by rw [← hl]; simp
  cases q with
  | slc b o L' len cap cap' h1 h2 h3 h4 =>
    rw [hL] at h1; cases h1
    have := h3 rfl
    subst this
    exact .slc _ 0 L 0 0 0 e (Nat.le_refl _) (fun _ => rfl) fun _ sz _ => by omega
  | slz b o cap a L' h1 => exact .slz _ 0 0 a L e
end Go.Proofs.Yteignhphimfmkaa.Sim
