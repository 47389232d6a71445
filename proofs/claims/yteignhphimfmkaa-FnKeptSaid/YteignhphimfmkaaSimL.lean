/- That code and calls of the abstract machine stand for those of the model. Lemmas only; no condition. -/
import Derived.Test.YteignhphimfmkaaSimK
set_option linter.unusedSimpArgs false
namespace Go.Proofs.Yteignhphimfmkaa.Sim
open Go Go.RowKit

variable {P : Program} {ro : Nat} {B : Base}

def codeOk (P : Program) (N : Nat) : Code → Bool
  | .skip | .ret | .exit _ => true
  | .region _ ops draw => (ops.toList.all fun o => opOk o.op && dstOk N o) && (!draw || drawOk P ops)
  | .seq a b => codeOk P N a && codeOk P N b
  | .cond c a b => okOp c && codeOk P N a && codeOk P N b
  | .block _ c => codeOk P N c
  | .loop c => codeOk P N c
  | _ => false
def exOf : Ex → Exit
  | .normal => .normal
  | .exit id => .exit id
  | .ret => .ret
def Post (P : Program) (ro : Nat) (B : Base) (N : Nat) (ρ : List Loc) (h' : Heap) (w : World) (e' : Env) (R : Act → World → Prop) : Prop :=
  ∀ a' w' ρ', Pre ρ ρ' → SR P ro B ρ' h' w' → AR P ro ρ' N e' a' → Below B.n w w' → R a' w'

theorem ev_snd (hm : P.follows .mixedOrders = true) {C : Fns} (hC : Snd P ro B C) {N : Nat} (n : Nat) : ∀ (c : Code), codeOk P N c = true → ∀ {ρ : List Loc} {h h' : Heap} {w : World} {e e' : Env} {a : Act} {x : Ex}, SR P ro B ρ h w → B.n ≤ w.heap.size → AR P ro ρ N e a →
    ev P ro C n c e h = some (x, e', h') → ∀ {Q : Exit → Act → World → Prop}, Post P ro B N ρ h' w e' (Q (exOf x)) → c.wp P Q a w := by
  intro c
  induction c with
  | skip =>
    intro _ ρ h h' w e e' a x hs hB hA hr Q hq
    simp only [ev] at hr; cases hr
    exact wp_skip (hq a w ρ (Pre.refl _) hs hA (Below.refl _ _))
  | ret =>
    intro _ ρ h h' w e e' a x hs hB hA hr Q hq
    simp only [ev] at hr; cases hr
    exact wp_ret (hq a w ρ (Pre.refl _) hs hA (Below.refl _ _))
  | exit id =>
    intro _ ρ h h' w e e' a x hs hB hA hr Q hq
    simp only [ev] at hr; cases hr
    exact wp_exit (hq a w ρ (Pre.refl _) hs hA (Below.refl _ _))
  | region id ops draw =>
    intro hok ρ h h' w e e' a x hs hB hA hr Q hq
    simp only [ev, Option.map_eq_some_iff] at hr
    obtain ⟨⟨e2, h2⟩, hr, hx⟩ := hr
    cases hx
    simp only [codeOk, Bool.and_eq_true, List.all_eq_true] at hok
    obtain ⟨hok1, hok2⟩ := hok
    cases draw with
    | false =>
      simp only [Bool.false_eq_true, if_false] at hr
      exact wp_region_list (aops_snd hC ops ops.toList (fun o ho => hok1 o ho) hs hB hA hr hq)
    | true =>
      simp only [if_true] at hr
      simp only [Bool.not_true, Bool.false_or] at hok2
      refine wp_region_any hm ?_
      exact any_snd hC (drawFacts hok2) (fun o ho => hok1 o ho) hr (w0 := w.drew) (fun a' w' ρ' q1 q2 q3 q4 => hq a' w' ρ' q1 q2 q3 (((Below.refl B.n w).drew).trans q4)) hs.drew hB hA
  | seq a b iha ihb =>
    intro hok ρ h h' w e e' act x hs hB hA hr Q hq
    simp only [codeOk, Bool.and_eq_true] at hok
    simp only [ev, Option.bind_eq_some_iff] at hr
    obtain ⟨⟨x1, e1, h1⟩, hr1, hr2⟩ := hr
    refine wp_seq (iha hok.1 hs hB hA hr1 fun a' w' ρ' q1 q2 q3 q4 => ?_)
    cases x1 with
    | normal =>
      exact ihb hok.2 q2 (Nat.le_trans hB q4.size) q3 hr2 fun a2 w2 ρ2 r1 r2 r3 r4 => hq a2 w2 ρ2 (q1.trans r1) r2 r3 (q4.trans r4)
    | exit id => simp only at hr2; cases hr2; exact hq a' w' ρ' q1 q2 q3 q4
    | ret => simp only at hr2; cases hr2; exact hq a' w' ρ' q1 q2 q3 q4
  | cond c a b iha ihb =>
    intro hok ρ h h' w e e' act x hs hB hA hr Q hq
    simp only [codeOk, Bool.and_eq_true] at hok
    have hc := hA.er.ov hok.1.1
    simp only [ev] at hr
    split at hr
    · rename_i hb
      rw [hb] at hc
      generalize hce : act.eval c = cv at hc
      cases hc
      exact wp_cond_true hce (iha hok.1.2 hs hB hA hr hq)
    · rename_i hb
      rw [hb] at hc
      generalize hce : act.eval c = cv at hc
      cases hc
      exact wp_cond_false hce (ihb hok.2 hs hB hA hr hq)
    · cases hr
  | block id c ih =>
    intro hok ρ h h' w e e' act x hs hB hA hr Q hq
    simp only [codeOk] at hok
    simp only [ev, Option.map_eq_some_iff] at hr
    obtain ⟨⟨x1, e1, h1⟩, hr1, hr2⟩ := hr
    cases hr2
    refine wp_block (ih hok hs hB hA hr1 fun a' w' ρ' q1 q2 q3 q4 => ?_)
    have := hq a' w' ρ' q1 q2 q3 q4
    cases x1 with
    | normal => exact this
    | exit id' =>
      simp only [exOf, Exit.inBlock]
      by_cases hid : id' = id
      · subst hid; simpa [exOf] using this
      · rw [if_neg hid]
        simp only [Ex.exit.injEq, hid, if_false] at this
        exact this
    | ret => exact this
  | loop c ih =>
    intro hok ρ h h' w e e' act x hs hB hA hr Q hq
    simp only [codeOk] at hok
    simp only [ev] at hr
    intro b k cs
    have key : ∀ (m : Nat) (ρ1 : List Loc) (h1 : Heap) (w1 : World) (e1 : Env) (a1 : Act), SR P ro B ρ1 h1 w1 → Below B.n w w1 → Pre ρ ρ1 → AR P ro ρ1 N e1 a1 → loopF (ev P ro C n c) m e1 h1 = some (x, e', h') →
        ∃ ex a' w', Q ex a' w' ∧ Arrives P (lone (b.at a1 (.code c :: .inLoop c :: k)) cs w1) b k cs ex a' w' := by
      intro m
      induction m with
      | zero => intro _ _ _ _ _ _ _ _ _ hl; simp only [loopF] at hl; cases hl
      | succ m ihm =>
        intro ρ1 h1 w1 e1 a1 hs1 hb1 hp1 hA1 hl
        simp only [loopF, Option.bind_eq_some_iff] at hl
        obtain ⟨⟨x2, e2, h2⟩, hr1, hl⟩ := hl
        obtain ⟨ex, a2, w2, ⟨ρ2, rfl, p1, p2, p3, p4⟩, harr⟩ := ih hok (Q := fun ex a2 w2 => ∃ ρ2, ex = exOf x2 ∧ Pre ρ1 ρ2 ∧ SR P ro B ρ2 h2 w2 ∧ AR P ro ρ2 N e2 a2 ∧ Below B.n w1 w2) hs1 (Nat.le_trans hB hb1.size) hA1 hr1 (fun a2 w2 ρ2 q1 q2 q3 q4 => ⟨ρ2, rfl, q1, q2, q3, q4⟩) b (.inLoop c :: k) cs
        cases x2 with
        | normal =>
          simp only at hl
          obtain ⟨ex, a3, w3, hq3, harr3⟩ := ihm ρ2 h2 w2 e2 a2 p2 (hb1.trans p4) (hp1.trans p1) p3 hl
          exact ⟨ex, a3, w3, hq3, .of_steps (Steps.trans harr (.one step_inLoop)) harr3⟩
        | exit id =>
          simp only at hl; cases hl
          exact ⟨_, a2, w2, hq a2 w2 ρ2 (hp1.trans p1) p2 p3 (hb1.trans p4), .pass (x := .inLoop c) rfl (fun _ _ => .inl (by simp [exOf])) harr⟩
        | ret =>
          simp only at hl; cases hl
          exact ⟨_, a2, w2, hq a2 w2 ρ2 (hp1.trans p1) p2 p3 (hb1.trans p4), .pass (x := .inLoop c) rfl (fun _ _ => .inl (by simp [exOf])) harr⟩
    obtain ⟨ex, a', w', hq', harr⟩ := key n ρ h w e act hs (Below.refl _ _) (Pre.refl _) hA hr
    exact ⟨ex, a', w', hq', .of_steps (.one step_loop) harr⟩
  | _ =>
    intro hok
    simp only [codeOk, Bool.false_eq_true] at hok

/-- Functions that are told apart from their text: their contracts are shown elsewhere. -/
abbrev Ext := FuncId → Option (List Value → Heap → Option (Value × Heap))
def fnOk (P : Program) (fn : Func) : Bool := fn.name != "runtime.NumGoroutine" && match fn.body with | some c => codeOk P fn.ntmps c | none => false
noncomputable def callN (P : Program) (ro : Nat) (X : Ext) : Nat → Fns
  | 0 => fun _ _ _ => none
  | n + 1 => fun f args h =>
    match X f with
    | some F => F args h
    | none => (P.funcs[f]?).bind fun fn => (fn.body).bind fun c =>
      if fnOk P fn = true ∧ args.length ≤ fn.ntmps then
        (ev P ro (callN P ro X n) n c (entry args) h).bind fun q => match q.1 with | .exit _ => none | _ => fin P fn h q.2.1 q.2.2
      else none
def XOk (P : Program) (ro : Nat) (B : Base) (X : Ext) : Prop := ∀ f F, X f = some F → ∀ (args : List Value) (h : Heap) (r : Value) (h' : Heap), F args h = some (r, h') → ∀ (ρ : List Loc) (w : World) (args' : List Value), SR P ro B ρ h w → B.n ≤ w.heap.size → VRs P ro ρ args args' →
    CallOk P f ⟨args'⟩ w fun r' w' => ∃ ρ', Pre ρ ρ' ∧ SR P ro B ρ' h' w' ∧ VR P ro ρ' r r' ∧ Below B.n w w'

theorem SR.cut {ρ ρ' : List Loc} {h0 h' : Heap} {w w' : World} (s0 : SR P ro B ρ h0 w) (s : SR P ro B ρ' h' w') (hp : Pre ρ ρ') (ht : h'.take h0.length = h0) : SR P ro B ρ h0 w' := by
  have hget : ∀ b, b < h0.length → h'[b]? = h0[b]? := by
    intro b hb
    have := congrArg (fun l => l[b]?) ht
    simp only [List.getElem?_take_of_lt hb] at this
    exact this
  have hlt : ∀ (b : Nat) (Bk : Blk), h0[b]? = some Bk → b < h0.length := by
    intro b Bk hb
    rcases Nat.lt_or_ge b h0.length with q | q
    · exact q
    · rw [List.getElem?_eq_none q] at hb; cases hb
  refine ⟨s0.len, s0.ty, ?_, s0.apart, s.glob⟩
  intro b L Bk h1 h2 h3
  have hb := hlt b Bk h2
  obtain ⟨C, ty, fr, k1, k2, k3⟩ := s.blk b L Bk (hp.get h1) (by rw [hget b hb]; exact h2) h3
  obtain ⟨C0, ty0, fr0, m1, m2, m3⟩ := s0.blk b L Bk h1 h2 h3
  refine ⟨C, ty, fr, k1, fun i v hv => ?_, k3⟩
  obtain ⟨v', q1, q2, q3⟩ := k2 i v hv
  obtain ⟨v2, p1, p2, p3⟩ := m2 i v hv
  exact ⟨v', q1, VR.back hp p2 q2, q3⟩
theorem VR_flat1 {ρ ρ' : List Loc} {v v' : Value} (h : (match v with | .bool _ | .int _ _ | .string _ | .float _ _ | .complex _ _ _ => true | _ => false) = true) (hv : VR P ro ρ' v v') : VR P ro ρ v v' := by
  cases hv <;> first | (constructor <;> assumption) | (simp at h)
theorem VRs_flat {ρ ρ' : List Loc} : ∀ {vs vs' : List Value}, VRs P ro ρ' vs vs' → (vs.all fun v => match v with | .bool _ | .int _ _ | .string _ | .float _ _ | .complex _ _ _ => true | _ => false) = true → VRs P ro ρ vs vs'
  | _, _, .nil, _ => .nil
  | _, _, .cons x y xs ys hx t, h => by
    simp only [List.all_cons, Bool.and_eq_true] at h
    exact .cons x y xs ys (VR_flat1 h.1 hx) (VRs_flat t h.2)
theorem VR_flat {ρ ρ' : List Loc} {v v' : Value} (h : flat v = true) (hv : VR P ro ρ' v v') : VR P ro ρ v v' := by
  cases hv <;> first | (constructor <;> assumption) | skip
  all_goals (try (simp only [flat, Bool.false_eq_true] at h; done))
  · rename_i xs ys hx; exact .agg _ _ (VRs_flat hx h)
  · rename_i xs ys hx; exact .tup _ _ (VRs_flat hx h)

theorem res_snd {ρ : List Loc} {h : Heap} {w : World} {N : Nat} {e : Env} {a : Act} (hs : SR P ro B ρ h w) (hA : AR P ro ρ N e a) : ∀ (l : List ResultVar) {vs : List Value}, allSome (l.map (resV P e h)) = some vs →
    ∃ vs', (l.mapM (fun r => (match r with | .tmp t => pure (a.tmps.getD t undef) | .cell ad t => do loadVar t (← asAddr (a.tmps.getD ad undef)) : Sem Value))).run P w = .ok vs' w ∧ VRs P ro ρ vs vs'
  | [], vs, hr => by
    simp only [List.map_nil, allSome] at hr; cases hr
    exact ⟨[], by simp [Sem.run_pure], .nil⟩
  | r :: l, vs, hr => by
    simp only [List.map_cons] at hr
    cases hv : resV P e h r with
    | none => rw [hv] at hr; simp only [allSome] at hr; cases hr
    | some v =>
      rw [hv] at hr
      simp only [allSome, Option.map_eq_some_iff] at hr
      obtain ⟨vs2, hr2, rfl⟩ := hr
      obtain ⟨vs', q1, q2⟩ := res_snd hs hA l hr2
      have one : ∃ v', ((match r with | .tmp t => pure (a.tmps.getD t undef) | .cell ad t => do loadVar t (← asAddr (a.tmps.getD ad undef)) : Sem Value)).run P w = .ok v' w ∧ VR P ro ρ v v' := by
        cases r with
        | tmp t =>
          simp only [resV] at hv; cases hv
          exact ⟨_, by simp [Sem.run_pure], hA.er t⟩
        | cell ad t =>
          simp only [resV] at hv
          have hx := hA.er ad
          show ∃ v', ((asAddr (a.tmps.getD ad undef)) >>= fun x => loadVar t x : Sem Value).run P w = .ok v' w ∧ _
          generalize a.tmps.getD ad undef = z at hx ⊢
          obtain ⟨v', p1, p2⟩ := ld_snd hs hv hx
          refine ⟨v', ?_, p2⟩
          rw [← p1]
          generalize e ad = z0 at hv hx
          cases hx <;> simp only [ld] at hv <;> first | (cases hv; done) | rfl
      obtain ⟨v', p1, p2⟩ := one
      refine ⟨v' :: vs', ?_, .cons _ _ _ _ p2 q2⟩
      rw [List.mapM_cons, Sem.run_bind, p1]
      simp only [Result.andThen]
      rw [Sem.run_bind, q1]
      simp [Sem.run_pure]

theorem call_snd (hm : P.follows .mixedOrders = true) {X : Ext} (hX : XOk P ro B X) : ∀ n, Snd P ro B (callN P ro X n)
  | 0 => by intro f args h r h' hc; simp only [callN] at hc; cases hc
  | n + 1 => by
    have ih := call_snd hm hX n
    intro f args h r h' hc ρ w args' hs hB hargs
    simp only [callN] at hc
    cases hXf : X f with
    | some F =>
      rw [hXf] at hc
      exact hX f F hXf args h r h' hc ρ w args' hs hB hargs
    | none =>
      rw [hXf] at hc
      simp only [Option.bind_eq_some_iff] at hc
      obtain ⟨fn, hfn, c, hbody, hc⟩ := hc
      split at hc
      · rename_i hcond
        obtain ⟨hok, hlen⟩ := hcond
        simp only [Option.bind_eq_some_iff] at hc
        obtain ⟨⟨x, e2, h2⟩, hev, hfin⟩ := hc
        unfold fnOk at hok
        rw [hbody] at hok
        simp only [Bool.and_eq_true, bne_iff_ne, ne_eq] at hok
        right
        refine ⟨?_, ?_⟩
        · simp [callFunc, hfn, hok.1, hbody]
        · refine calls_of_wp hfn hbody ?_
          have hA : AR P ro ρ fn.ntmps (entry args) { tmps := (⟨args'⟩ : Array Value) ++ Array.replicate (fn.ntmps - (⟨args'⟩ : Array Value).size) undef, defers := [] } := by
            have hl := hargs.len
            refine ⟨fun t => ?_, by simp; omega, rfl⟩
            unfold entry
            rw [Array.getD_eq_getD_getElem?, List.getD_eq_getElem?_getD]
            by_cases ht : t < args.length
            · obtain ⟨v', q1, q2⟩ := hargs.get (List.getElem?_eq_getElem ht)
              rw [List.getElem?_eq_getElem ht, Array.getElem?_append_left (by simp; omega)]
              simp only [Option.getD_some, List.getElem?_toArray]
              rw [q1]; exact q2
            · rw [List.getElem?_eq_none (by omega), Array.getElem?_append_right (by simp; omega)]
              simp only [Option.getD_none, Array.getElem?_replicate]
              split <;> exact VR_undef
          have fine : ∀ a' w' ρ', Pre ρ ρ' → SR P ro B ρ' h2 w' → AR P ro ρ' fn.ntmps e2 a' → Below B.n w w' → fin P fn h e2 h2 = some (r, h') →
              a'.defers = [] ∧ ∃ v, (results fn a'.tmps).run P w' = .ok v w' ∧ ∃ v2, Ending.returned v = Ending.returned v2 ∧ ∃ ρ2, Pre ρ ρ2 ∧ SR P ro B ρ2 h' w' ∧ VR P ro ρ2 r v2 ∧ Below B.n w w' := by
            intro a' w' ρ' q1 q2 q3 q4 hf
            unfold fin at hf
            simp only [Option.map_eq_some_iff, Prod.mk.injEq] at hf
            obtain ⟨vs, hvs, rfl, hh⟩ := hf
            obtain ⟨vs', p1, p2⟩ := res_snd q2 q3 fn.results.toList hvs
            have hrun : (results fn a'.tmps).run P w' = .ok (resT vs') w' := by
              unfold results
              rw [Sem.run_bind]
              have key : ∀ F : ResultVar → Sem Value, (∀ q, F q = (match q with | .tmp t => pure (a'.tmps.getD t undef) | .cell ad t => do loadVar t (← asAddr (a'.tmps.getD ad undef)) : Sem Value)) → (fn.results.mapM F).run P w' = .ok vs'.toArray w' := by
                intro F hF
                have : F = fun q => (match q with | .tmp t => pure (a'.tmps.getD t undef) | .cell ad t => do loadVar t (← asAddr (a'.tmps.getD ad undef)) : Sem Value) := funext hF
                rw [this, Array.mapM_eq_mapM_toList, Sem.run_map, p1]
                rfl
              rw [key _ (fun q => by cases q <;> rfl)]
              simp only [Result.andThen]
              match vs' with
              | [] => rfl
              | [v] => rfl
              | v :: v2 :: r => rfl
            have hres : VR P ro ρ' (resT vs) (resT vs') := by
              cases p2 with
              | nil => exact .tup _ _ .nil
              | cons x y xs ys h1 t =>
                cases t with
                | nil => exact h1
                | cons x2 y2 xs2 ys2 h2 t2 => exact .tup _ _ (.cons _ _ _ _ h1 (.cons _ _ _ _ h2 t2))
            refine ⟨q3.defers, _, hrun, _, rfl, ?_⟩
            split at hh
            · rename_i hcut
              subst hh
              exact ⟨ρ, Pre.refl _, hs.cut q2 q1 hcut.2, VR_flat hcut.1 hres, q4⟩
            · subst hh
              exact ⟨ρ', q1, q2, hres, q4⟩
          cases x with
          | normal => exact ev_snd hm ih n c hok.2 hs hB hA hev fun a' w' ρ' q1 q2 q3 q4 => fine a' w' ρ' q1 q2 q3 q4 hfin
          | ret => exact ev_snd hm ih n c hok.2 hs hB hA hev fun a' w' ρ' q1 q2 q3 q4 => fine a' w' ρ' q1 q2 q3 q4 hfin
          | exit id => simp only at hfin; cases hfin
      · cases hc
end Go.Proofs.Yteignhphimfmkaa.Sim
