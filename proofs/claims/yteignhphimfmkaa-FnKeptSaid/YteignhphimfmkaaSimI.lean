/- That one operation of the abstract machine stands for that of the model. Lemmas only; no condition. -/
import Derived.Test.YteignhphimfmkaaSimH
set_option linter.unusedSimpArgs false
namespace Go.Proofs.Yteignhphimfmkaa.Sim
open Go Go.RowKit

variable {P : Program} {ro : Nat} {B : Base}

inductive VRo (P : Program) (ro : Nat) (ρ : List Loc) : Option Value → Option Value → Prop
  | none : VRo P ro ρ none none
  | some (x y : Value) (h : VR P ro ρ x y) : VRo P ro ρ (some x) (some y)

theorem bnd_some {ρ : List Loc} {x x' : Option Value} {d n : Int} (h : bnd x d = some n) (hx : VRo P ro ρ x x') : (x = none ∧ x' = none ∧ n = d) ∨ (∃ k, x = some (.int k n) ∧ x' = some (.int k n)) := by
  cases hx with
  | none => left; simp only [bnd] at h; cases h; exact ⟨rfl, rfl, rfl⟩
  | some y y' hy =>
    right
    unfold bnd at h
    split at h
    · rename_i hh; cases hh
    · rename_i k m heq
      cases heq
      cases h
      cases hy
      exact ⟨_, rfl, rfl⟩
    · cases h
theorem run_bound {w : World} {k : IntKind} {n : Int} {y : Nat} (c : BoundsCode) (h0 : 0 ≤ n) (h1 : n ≤ y) : (Instr.sliceBound (.int k n) y c).run P w = .ok n.toNat w := by
  simp [Instr.sliceBound, asIntOf, h0, h1]
theorem slc_met {ρ : List Loc} {hp : Heap} {w : World} (hs : SR P ro B ρ hp w) {t : TypeId} {x x' v : Value} {lo lo' hi hi' mx mx' : Option Value} (h : slc P ro hp t x lo hi mx = some v) (hx : VR P ro ρ x x') (hlo : VRo P ro ρ lo lo') (hhi : VRo P ro ρ hi hi') (hmx : VRo P ro ρ mx mx') :
    Met P ro ρ v w (Instr.sliceAt t x' lo' hi' mx') := by
  unfold slc at h
  split at h
  · -- a text
    rename_i s hu
    cases hx
    split at h
    · rename_i hm
      have hmn : mx' = none := by cases hmx with
        | none => rfl
        | some => simp at hm
      subst hmn
      simp only [Option.bind_eq_some_iff] at h
      obtain ⟨l, hl, q, hq, h⟩ := h
      split at h
      · rename_i hc
        cases h
        refine Met.of ?_ (.str _)
        have hb : (Instr.sliceBounds false s.size s.size lo' hi' none).run P w = .ok (l.toNat, q.toNat, s.size) w := by
          rcases bnd_some hl hlo with ⟨rfl, rfl, rfl⟩ | ⟨k, rfl, rfl⟩ <;> rcases bnd_some hq hhi with ⟨rfl, rfl, rfl⟩ | ⟨k', rfl, rfl⟩
          · simp [Instr.sliceBounds]
          · simp [Instr.sliceBounds, run_bound (P := P) (w := w) (k := k') .sliceAlen (show 0 ≤ q by omega) hc.2.2]
          · simp [Instr.sliceBounds, run_bound (P := P) (w := w) (k := k) .sliceB hc.1 hc.2.1]
          · have h1 := run_bound (P := P) (w := w) (k := k) (n := l) (y := q.toNat) .sliceB hc.1 (by omega)
            simp [Instr.sliceBounds, run_bound (P := P) (w := w) (k := k') .sliceAlen (show 0 ≤ q by omega) hc.2.2, h1]
        simp [Instr.sliceAt, Instr.slice, run_underlying hu, hb]
      · cases h
    · cases h
  · -- a slice
    rename_i e b o len cap hu
    simp only [Option.bind_eq_some_iff] at h
    obtain ⟨l, hl, q, hq, m, hm, sz, hsz, h⟩ := h
    split at h
    · rename_i hc
      obtain ⟨c1, c2, c3, c4, c5, c6⟩ := hc
      cases h
      obtain ⟨i, d, hi0, rfl, hd⟩ := szT_some hsz
      have key : ∀ (a : Addr) (cap' : Nat), len ≤ cap' → ∃ m' : Nat, (Instr.sliceBounds true len cap' lo' hi' mx').run P w = .ok (l.toNat, q.toNat, m') w ∧ q.toNat ≤ m' ∧ m' ≤ cap' ∧ (mx.isSome = true → (m' : Int) = m) ∧ (mx.isSome = false → m' = cap') := by
        intro a cap' hle
        rcases bnd_some hm hmx with ⟨rfl, rfl, rfl⟩ | ⟨k2, rfl, rfl⟩
        · refine ⟨cap', ?_, by omega, Nat.le_refl _, fun h => (by simp at h), fun _ => rfl⟩
          rcases bnd_some hl hlo with ⟨rfl, rfl, rfl⟩ | ⟨k, rfl, rfl⟩ <;> rcases bnd_some hq hhi with ⟨rfl, rfl, rfl⟩ | ⟨k', rfl, rfl⟩
          · simp [Instr.sliceBounds]
          · simp [Instr.sliceBounds, run_bound (P := P) (w := w) (k := k') (n := q) (y := cap') .sliceAcap (by omega) (by omega)]
          · simp [Instr.sliceBounds, run_bound (P := P) (w := w) (k := k) (n := l) (y := len) .sliceB (by omega) (by omega)]
          · have h1 := run_bound (P := P) (w := w) (k := k) (n := l) (y := q.toNat) .sliceB (by omega) (by omega)
            simp [Instr.sliceBounds, run_bound (P := P) (w := w) (k := k') (n := q) (y := cap') .sliceAcap (by omega) (by omega), h1]
        · refine ⟨m.toNat, ?_, by omega, by omega, fun _ => by omega, fun h => (by simp at h)⟩
          have hmm := run_bound (P := P) (w := w) (k := k2) (n := m) (y := cap') .slice3Acap (by omega) (by omega)
          rcases bnd_some hq hhi with ⟨rfl, rfl, rfl⟩ | ⟨k', rfl, rfl⟩
          · exact absurd (c6 rfl) (by simp)
          · have hqq := run_bound (P := P) (w := w) (k := k') (n := q) (y := m.toNat) .slice3B (by omega) (by omega)
            rcases bnd_some hl hlo with ⟨rfl, rfl, rfl⟩ | ⟨k, rfl, rfl⟩
            · simp [Instr.sliceBounds, hmm, hqq]
            · have h1 := run_bound (P := P) (w := w) (k := k) (n := l) (y := q.toNat) .slice3C (by omega) (by omega)
              simp [Instr.sliceBounds, hmm, hqq, h1]
      cases hx with
      | slc _ _ L _ _ cap' hL h1 h2 h3 =>
        obtain ⟨m', k1, k2, k3, k4, k5⟩ := key ⟨L.g, L.s + o, none⟩ cap' h1
        refine Met.of (v' := .slice (some (if m' = l.toNat then ⟨L.g, L.s + o, none⟩ else ⟨L.g, L.s + o + l.toNat * i.size, none⟩)) (q.toNat - l.toNat) (m' - l.toNat)) ?_ ?_
        · simp [Instr.sliceAt, Instr.slice, run_underlying hu, k1, sizeOf, typeInfo, hi0, add_lit]
          split <;> rfl
        · have e1 : q.toNat - l.toNat = (q - l).toNat := by omega
          rw [e1]
          by_cases hml : m' = l.toNat
          · have e2 : (q - l).toNat = 0 := by omega
            have e3 : m' - l.toNat = 0 := by omega
            rw [e2, e3]
            exact .slz b _ _ _ L hL
          · rw [if_neg hml]
            have := VR.slc (P := P) (ro := ro) b (o + l.toNat * i.size) L (q - l).toNat (if q = m ∧ (mx.isSome = true ∨ cap = len) then (q - l).toNat else (q - l).toNat + 1) (m' - l.toNat) hL (by omega) (by
              intro he
              split at he
              · rename_i hcc
                obtain ⟨g1, g2⟩ := hcc
                cases hms : mx.isSome with
                | true => have := k4 hms; omega
                | false =>
                  rcases g2 with g2 | g2
                  · rw [hms] at g2; cases g2
                  · have hk5 := k5 hms
                    have hc' := h2 g2
                    have hmn : mx = none := by cases mx with
                      | none => rfl
                      | some => simp at hms
                    subst hmn
                    simp only [bnd] at hm
                    cases hm
                    omega
              · omega) (by
              intro hro sz hsz2
              have hty : L.ty = e := by
                have hb5 := c5 hro
                cases hb : hp[b]? with
                | none => rw [hb] at hb5; cases hb5
                | some Bk =>
                  rw [hb] at hb5
                  simp only [Option.map_some, Option.some.injEq] at hb5
                  rw [hs.ty b L Bk hL hb hro, hb5]
              rw [hty, hsz] at hsz2
              cases hsz2
              have h4 := h3 hro i.size (by rw [hty]; exact hsz)
              have h5 : l.toNat * i.size + (m' - l.toNat) * i.size ≤ cap' * i.size := by rw [← Nat.add_mul]; exact Nat.mul_le_mul_right _ (by omega)
              omega)
            rwa [Nat.add_assoc]
      | slz _ _ _ a L hL =>
        have hl0 : l = 0 := by omega
        have hq0 : q = 0 := by omega
        obtain ⟨m', k1, k2, k3, k4, k5⟩ := key a 0 (Nat.le_refl _)
        have hm0 : m' = 0 := by omega
        subst hm0; subst hl0; subst hq0
        refine Met.of (v' := .slice (some a) 0 0) ?_ ?_
        · simp [Instr.sliceAt, Instr.slice, run_underlying hu, k1, sizeOf, typeInfo, hi0]
        · exact .slz b _ _ a L hL
    · cases h
  · -- the nil slice
    rename_i e hu
    simp only [Option.bind_eq_some_iff] at h
    obtain ⟨l, hl, q, hq, sz, hsz, h⟩ := h
    split at h
    · rename_i hc
      obtain ⟨rfl, rfl, hm⟩ := hc
      cases h
      cases hx
      obtain ⟨i, d, hi0, rfl, hd⟩ := szT_some hsz
      have hmn : mx' = none := by cases hmx with
        | none => rfl
        | some => simp at hm
      subst hmn
      have hb : (Instr.sliceBounds true 0 0 lo' hi' none).run P w = .ok (0, 0, 0) w := by
        rcases bnd_some hl hlo with ⟨rfl, rfl, _⟩ | ⟨k, rfl, rfl⟩ <;> rcases bnd_some hq hhi with ⟨rfl, rfl, _⟩ | ⟨k', rfl, rfl⟩ <;> simp [Instr.sliceBounds, Instr.sliceBound, asIntOf]
      refine Met.of ?_ .snil
      simp [Instr.sliceAt, Instr.slice, run_underlying hu, hb, sizeOf, typeInfo, hi0]
    · cases h
  · cases h

/-- The callee, once its arguments are there. -/
def CallOk (P : Program) (f : FuncId) (args : Array Value) (w : World) (R : Value → World → Prop) : Prop :=
  (∃ v w', (callFunc f args).run P w = .ok (.value v) w' ∧ R v w') ∨ ((callFunc f args).run P w = .ok (.enter f args) w ∧ Calls P f args w fun e w' => ∃ v, e = .returned v ∧ R v w')
/-- What functions come to is what the model's functions do. -/
def Snd (P : Program) (ro : Nat) (B : Base) (C : Fns) : Prop :=
  ∀ (f : FuncId) (args : List Value) (h : Heap) (r : Value) (h' : Heap), C f args h = some (r, h') → ∀ (ρ : List Loc) (w : World) (args' : List Value), SR P ro B ρ h w → B.n ≤ w.heap.size → VRs P ro ρ args args' →
    CallOk P f ⟨args'⟩ w fun r' w' => ∃ ρ', Pre ρ ρ' ∧ SR P ro B ρ' h' w' ∧ VR P ro ρ' r r' ∧ Below B.n w w'

def okOp (x : Operand) : Bool := match x with | .tmp _ | .func _ => true | .const v => plainV v | .global _ => false
def opOk (o : Op) : Bool := o.operands.all okOp
/-- The frame. -/
def ER (P : Program) (ro : Nat) (ρ : List Loc) (e : Env) (a : Act) : Prop := ∀ t, VR P ro ρ (e t) (a.tmps.getD t undef)
theorem ER.mono {ρ ρ' : List Loc} {e : Env} {a : Act} (h : ER P ro ρ e a) (hp : Pre ρ ρ') : ER P ro ρ' e a := fun t => (h t).mono hp
theorem VR_undef {ρ : List Loc} : VR P ro ρ undef undef := .tup [] [] .nil
theorem ER.ov {ρ : List Loc} {e : Env} {a : Act} (h : ER P ro ρ e a) {x : Operand} (hx : okOp x = true) : VR P ro ρ (Sim.ov e x) (a.eval x) := by
  cases x with
  | tmp t => exact h t
  | const v => exact VR.plainV hx
  | global g => simp [okOp] at hx
  | func f => exact .fn _ [] [] [] [] .nil .nil
theorem ER.ovs {ρ : List Loc} {e : Env} {a : Act} (h : ER P ro ρ e a) : ∀ {xs : List Operand}, (∀ x ∈ xs, okOp x = true) → VRs P ro ρ (xs.map (Sim.ov e)) (xs.map a.eval)
  | [], _ => .nil
  | x :: r, hx => .cons _ _ _ _ (h.ov (hx x (by simp))) (ER.ovs h fun y hy => hx y (by simp [hy]))
theorem ER.parts {ρ : List Loc} {e : Env} {a : Act} (h : ER P ro ρ e a) : ∀ {ps : List (Nat × Operand)}, (∀ q ∈ ps, okOp q.2 = true) → PR P ro ρ (ps.map fun q => (q.1, Sim.ov e q.2)) (ps.map fun q => (q.1, a.eval q.2))
  | [], _ => .nil
  | (i, x) :: r, hx => .cons i _ _ _ _ (h.ov (hx (i, x) (by simp))) (ER.parts h fun y hy => hx y (by simp [hy]))
theorem ER.opt {ρ : List Loc} {e : Env} {a : Act} (h : ER P ro ρ e a) {x : Option Operand} (hx : ∀ y, x = some y → okOp y = true) : VRo P ro ρ (x.map (Sim.ov e)) (x.map a.eval) := by
  cases x with
  | none => exact .none
  | some y => exact .some _ _ (h.ov (hx y rfl))

/-- What is known behind an operation. -/
def Aft (P : Program) (ro : Nat) (B : Base) (ρ : List Loc) (h' : Heap) (w : World) (v : Value) (R : Value → World → Prop) : Prop :=
  ∀ v' w' ρ', Pre ρ ρ' → SR P ro B ρ' h' w' → VR P ro ρ' v v' → Below B.n w w' → R v' w'

theorem wp_fine {ρ : List Loc} {h' : Heap} {w : World} {v : Value} {s : Sem Value} {o : Oper} {a : Act} {K : Act → World → Prop} {Q : Exit → Act → World → Prop} (hf : Fine P ro B ρ h' w v s) (he : execOp a.eval o = (do pure (.value (← s)))) (hk : Aft P ro B ρ h' w v fun v' w' => K (a.put o.dst v') w') : o.wp P a w K Q := by
  obtain ⟨v', w', ρ', h1, h2, h3, h4, h5⟩ := hf
  unfold Oper.wp
  rw [he, Sem.run_bind, h1]
  exact hk v' w' ρ' h2 h3 h4 h5
theorem wp_call {ρ : List Loc} {h' : Heap} {w : World} {v : Value} {f : FuncId} {args : Array Value} {o : Oper} {a : Act} {K : Act → World → Prop} {Q : Exit → Act → World → Prop}
    (hc : CallOk P f args w fun r' w' => ∃ ρ', Pre ρ ρ' ∧ SR P ro B ρ' h' w' ∧ VR P ro ρ' v r' ∧ Below B.n w w') (he : (execOp a.eval o).run P w = (callFunc f args).run P w) (hk : Aft P ro B ρ h' w v fun v' w' => K (a.put o.dst v') w') : o.wp P a w K Q := by
  unfold Oper.wp
  rw [he]
  rcases hc with ⟨v', w', h1, ρ', h2, h3, h4, h5⟩ | ⟨h1, h2⟩
  · rw [h1]
    exact hk v' w' ρ' h2 h3 h4 h5
  · rw [h1]
    exact h2.mono fun e w' ⟨v', he, ρ', g2, g3, g4, g5⟩ => by subst he; exact hk v' w' ρ' g2 g3 g4 g5

theorem VRs.invc {ρ : List Loc} {x : Value} {r ys : List Value} (h : VRs P ro ρ (x :: r) ys) : ∃ x' r', ys = x' :: r' ∧ VR P ro ρ x x' ∧ VRs P ro ρ r r' := by
  cases h with | cons _ x' _ r' h1 h2 => exact ⟨x', r', rfl, h1, h2⟩
theorem VRs.inv0 {ρ : List Loc} {ys : List Value} (h : VRs P ro ρ [] ys) : ys = [] := by cases h; rfl
theorem VRs.inv1 {ρ : List Loc} {x : Value} {ys : List Value} (h : VRs P ro ρ [x] ys) : ∃ x', ys = [x'] ∧ VR P ro ρ x x' := by
  obtain ⟨x', r', rfl, h1, h2⟩ := h.invc
  rw [h2.inv0]; exact ⟨x', rfl, h1⟩
theorem VRs.inv2 {ρ : List Loc} {x y : Value} {ys : List Value} (h : VRs P ro ρ [x, y] ys) : ∃ x' y', ys = [x', y'] ∧ VR P ro ρ x x' ∧ VR P ro ρ y y' := by
  obtain ⟨x', r', rfl, h1, h2⟩ := h.invc
  obtain ⟨y', rfl, h3⟩ := h2.inv1
  exact ⟨x', y', rfl, h1, h3⟩
theorem blt_fine {ρ : List Loc} {h h' : Heap} {w : World} (hs : SR P ro B ρ h w) (hB : B.n ≤ w.heap.size) {b : Builtin} {ts : Array TypeId} {args args' : List Value} {v : Value} (ha : ablt P ro b ts.toList args h = some (v, h')) (hr : VRs P ro ρ args args') (ty : TypeId) (cs : Array Bool) :
    ∃ s : Sem Value, builtin b ts ty cs ⟨args'⟩ = (do pure (.value (← s))) ∧ Fine P ro B ρ h' w v s := by
  unfold ablt at ha
  split at ha
  · rename_i t u s x heq
    obtain ⟨s', x', rfl, h1, h2⟩ := hr.inv2
    have hts : ts = #[t, u] := by cases ts; simp_all
    subst hts
    split at ha
    · rename_i hu
      exact ⟨_, rfl, app_snd hs hB ha h1 h2 hu⟩
    · cases ha
  · rename_i t x heq
    obtain ⟨x', rfl, h1⟩ := hr.inv1
    have hts : ts = #[t] := by cases ts; simp_all
    subst hts
    split at ha
    · rename_i s hu
      cases h1; cases ha
      exact ⟨_, rfl, (Met.of (v' := .int .i64 s.size) (by simp [Builtin.len_, run_underlying hu, goInt]) (.int _ _)).fine hs⟩
    · rename_i e y n c hu
      cases ha
      refine ⟨_, rfl, (Met.of (v' := .int .i64 n) ?_ (.int _ _)).fine hs⟩
      cases h1 <;> simp [Builtin.len_, run_underlying hu, goInt]
    · rename_i n e hu
      cases ha
      exact ⟨_, rfl, (Met.of (v' := .int .i64 n) (by simp [Builtin.len_, run_underlying hu, goInt]) (.int _ _)).fine hs⟩
    · cases ha
  · rename_i k a b heq
    obtain ⟨x', rfl, h1⟩ := hr.inv1
    cases h1; cases ha
    rename_i a' b' ha' hb'
    exact ⟨_, rfl, (Met.of (v' := .float _ a') rfl (.flt _ _ _ ha')).fine hs⟩
  · rename_i k a b heq
    obtain ⟨x', rfl, h1⟩ := hr.inv1
    cases h1; cases ha
    rename_i a' b' ha' hb'
    exact ⟨_, rfl, (Met.of (v' := .float _ b') rfl (.flt _ _ _ hb')).fine hs⟩
  · rename_i k a k' b heq
    obtain ⟨x', y', rfl, h1, h2⟩ := hr.inv2
    cases h1; cases h2
    rename_i a' ha' b' hb'
    split at ha
    · rename_i hk
      subst hk
      cases ha
      exact ⟨_, rfl, (Met.of (v' := .complex _ a' b') (run_complex w ts ty _ _ _) (.cpx _ _ _ _ _ ha' hb')).fine hs⟩
    · cases ha
  · rename_i x r heq
    obtain ⟨x', r', rfl, h1, hr⟩ := hr.invc
    simp only [Option.map_eq_some_iff, Prod.mk.injEq] at ha
    obtain ⟨v2, hv, rfl, rfl⟩ := ha
    exact ⟨_, rfl, (by
      obtain ⟨v', ⟨n, q1⟩, q2⟩ := fold2_met (P := P) (ro := ro) hv h1 hr w
      exact ⟨v', ⟨n, by simpa [Builtin.max_] using q1⟩, q2⟩ : Met P ro ρ v2 w _).fine hs⟩
  · rename_i x r heq
    obtain ⟨x', r', rfl, h1, hr⟩ := hr.invc
    simp only [Option.map_eq_some_iff, Prod.mk.injEq] at ha
    obtain ⟨v2, hv, rfl, rfl⟩ := ha
    exact ⟨_, rfl, (by
      obtain ⟨v', ⟨n, q1⟩, q2⟩ := fold2_met (P := P) (ro := ro) hv h1 hr w
      exact ⟨v', ⟨n, by simpa [Builtin.min_] using q1⟩, q2⟩ : Met P ro ρ v2 w _).fine hs⟩
  · cases ha

theorem wp_now {w : World} {v' : Value} {o : Oper} {a : Act} {K : Act → World → Prop} {Q : Exit → Act → World → Prop} (he : (execOp a.eval o).run P w = .ok (.value v') w) (hk : K (a.put o.dst v') w) : o.wp P a w K Q := by
  unfold Oper.wp
  rw [he]
  exact hk
set_option maxHeartbeats 1000000 in
theorem aop_snd {C : Fns} (hC : Snd P ro B C) {ρ : List Loc} {h h' : Heap} {w : World} {o : Oper} {e : Env} {a : Act} {v : Value} (hs : SR P ro B ρ h w) (hB : B.n ≤ w.heap.size) (hE : ER P ro ρ e a) (ok : opOk o.op = true)
    (ha : aop P ro C o.op e h = some (v, h')) {K : Act → World → Prop} {Q : Exit → Act → World → Prop} (hk : Aft P ro B ρ h' w v fun v' w' => K (a.put o.dst v') w') : o.wp P a w K Q := by
  obtain ⟨dst, op, ty, pos, after, guard⟩ := o
  simp only at *
  have okx : ∀ x ∈ op.operands.toList, okOp x = true := by
    intro x hx
    unfold opOk at ok
    rw [← Array.all_toList] at ok
    exact List.all_eq_true.1 ok x hx
  unfold aop at ha
  split at ha
  · rename_i x; cases ha
    exact hk _ _ _ (Pre.refl _) hs (hE.ov (okx x (by simp [Op.operands]))) (Below.refl _ _)
  · rename_i x; cases ha
    exact hk _ _ _ (Pre.refl _) hs (hE.ov (okx x (by simp [Op.operands]))) (Below.refl _ _)
  · rename_i c x y
    split at ha
    · rename_i t ht
      cases ha
      have hc := hE.ov (okx c (by simp [Op.operands]))
      rw [ht] at hc
      generalize hce : a.eval c = cv at hc
      cases hc
      refine wp_now (v' := if t then a.eval x else a.eval y) ?_ (hk _ _ _ (Pre.refl _) hs ?_ (Below.refl _ _))
      · simp [execOp, asBool, hce]
      · cases t
        · exact hE.ov (okx y (by simp [Op.operands]))
        · exact hE.ov (okx x (by simp [Op.operands]))
    · cases ha
  · -- alloc
    simp only [Option.bind_eq_some_iff] at ha
    obtain ⟨z, hz, hb⟩ := ha
    exact wp_fine (alloc_snd hs hB hz hb) rfl hk
  · rename_i t x
    exact wp_fine (box_snd hs hB ha (hE.ov (okx x (by simp [Op.operands])))) rfl hk
  · rename_i t parts
    simp only [Option.map_eq_some_iff, Prod.mk.injEq] at ha
    obtain ⟨v2, hv, rfl, rfl⟩ := ha
    have hp := hE.parts (ps := parts.toList) fun q hq => okx q.2 (by simp only [Op.operands]; simp; exact ⟨q.1, by simpa using hq⟩)
    exact wp_fine (bld_snd hs hv (ps' := parts.map fun q => (q.1, a.eval q.2)) (by simpa using hp)) rfl hk
  · rename_i t n parts
    have hp := hE.parts (ps := parts.toList) fun q hq => okx q.2 (by simp only [Op.operands]; simp; exact ⟨q.1, by simpa using hq⟩)
    exact wp_fine (bldS_snd hs hB ha (ps' := parts.map fun q => (q.1, a.eval q.2)) (by simpa using hp)) rfl hk
  · rename_i t x
    simp only [Option.map_eq_some_iff, Prod.mk.injEq] at ha
    obtain ⟨v2, hv, rfl, rfl⟩ := ha
    obtain ⟨v', q1, q2⟩ := ld_snd hs hv (hE.ov (okx x (by simp [Op.operands])))
    exact wp_fine ((Met.of q1 q2).fine hs) rfl hk
  · rename_i t x y
    simp only [Option.map_eq_some_iff, Prod.mk.injEq] at ha
    obtain ⟨h2, hv, rfl, rfl⟩ := ha
    obtain ⟨w', q1, q2, q3⟩ := stv_snd hs hv (hE.ov (okx x (by simp [Op.operands]))) (hE.ov (okx y (by simp [Op.operands])))
    have he : (execOp a.eval ⟨dst, .store t x y, ty, pos, after, guard⟩).run P w = .ok .skip w' := by simp [execOp, q1]
    unfold Oper.wp
    rw [he]
    exact hk _ _ _ (Pre.refl _) q2 VR_undef q3
  · rename_i x
    have hx := hE.ov (okx x (by simp [Op.operands]))
    split at ha
    · rename_i p hp
      cases ha
      rw [hp] at hx
      generalize hce : a.eval x = cv at hx
      cases hx
      exact wp_now (by simp [execOp, hce]; rfl) (hk _ _ _ (Pre.refl _) hs (by constructor; assumption) (Below.refl _ _))
    · rename_i f p q hp
      cases ha
      rw [hp] at hx
      generalize hce : a.eval x = cv at hx
      cases hx
      exact wp_now (by simp [execOp, hce]; rfl) (hk _ _ _ (Pre.refl _) hs (by constructor <;> assumption) (Below.refl _ _))
    · cases ha
  · rename_i bop t x y t2
    simp only [Option.map_eq_some_iff, Prod.mk.injEq] at ha
    obtain ⟨v2, hv, rfl, rfl⟩ := ha
    obtain ⟨v', ⟨n, q1⟩, q2⟩ := abin_num (P := P) (X := x) (Y := y) hv (hE.ov (okx x (by simp [Op.operands]))) (hE.ov (okx y (by simp [Op.operands]))) w
    exact wp_fine (Met.fine (v := v2) ⟨v', ⟨n, q1⟩, q2⟩ hs) rfl hk
  · rename_i uop t x
    simp only [Option.map_eq_some_iff, Prod.mk.injEq] at ha
    obtain ⟨v2, hv, rfl, rfl⟩ := ha
    exact wp_fine ((aun_met hv (hE.ov (okx x (by simp [Op.operands]))) w).fine hs) rfl hk
  · rename_i t t2 x
    simp only [Option.map_eq_some_iff, Prod.mk.injEq] at ha
    obtain ⟨v2, hv, rfl, rfl⟩ := ha
    exact wp_fine ((aconv_met hs hv (hE.ov (okx x (by simp [Op.operands])))).fine hs) rfl hk
  · rename_i fn first cap
    cases ha
    refine wp_now (v' := .func fn (first.map a.eval) (cap.map a.eval)) (by simp [execOp, Instr.makeFunc]) (hk _ _ _ (Pre.refl _) hs ?_ (Below.refl _ _))
    have h1 := hE.ovs (xs := first.toList) fun x hx => okx x (by simp only [Op.operands]; simp; exact .inl (by simpa using hx))
    have h2 := hE.ovs (xs := cap.toList) fun x hx => okx x (by simp only [Op.operands]; simp; exact .inr (by simpa using hx))
    rw [← Array.toList_map, ← Array.toList_map] at h1 h2
    exact .fn fn _ _ _ _ h1 h2
  · rename_i t l c
    exact wp_fine (mk_snd hs hB ha (hE.ov (okx l (by simp [Op.operands]))) (hE.ov (okx c (by simp [Op.operands])))) rfl hk
  · rename_i t x lo hi mx
    simp only [Option.map_eq_some_iff, Prod.mk.injEq] at ha
    obtain ⟨v2, hv, rfl, rfl⟩ := ha
    refine wp_fine ((slc_met hs hv (hE.ov (okx x (by simp [Op.operands]))) (hE.opt fun y hy => okx y ?_) (hE.opt fun y hy => okx y ?_) (hE.opt fun y hy => okx y ?_)).fine hs) rfl hk
    all_goals (subst hy; simp [Op.operands])
  · rename_i s x f
    simp only [Option.map_eq_some_iff, Prod.mk.injEq] at ha
    obtain ⟨v2, hv, rfl, rfl⟩ := ha
    exact wp_fine ((fadr_met hv (hE.ov (okx x (by simp [Op.operands]))) w).fine hs) rfl hk
  · rename_i s x f
    simp only [Option.map_eq_some_iff, Prod.mk.injEq] at ha
    obtain ⟨v2, hv, rfl, rfl⟩ := ha
    exact wp_fine ((fld_met hv (hE.ov (okx x (by simp [Op.operands]))) w).fine hs) rfl hk
  · rename_i t x i
    simp only [Option.map_eq_some_iff, Prod.mk.injEq] at ha
    obtain ⟨v2, hv, rfl, rfl⟩ := ha
    exact wp_fine ((iadr_met hv (hE.ov (okx x (by simp [Op.operands]))) (hE.ov (okx i (by simp [Op.operands]))) w).fine hs) rfl hk
  · rename_i t x i
    simp only [Option.map_eq_some_iff, Prod.mk.injEq] at ha
    obtain ⟨v2, hv, rfl, rfl⟩ := ha
    exact wp_fine ((idx_met hv (hE.ov (okx x (by simp [Op.operands]))) (hE.ov (okx i (by simp [Op.operands]))) w).fine hs) rfl hk
  · rename_i x i
    split at ha
    · rename_i vs hvs
      simp only [Option.map_eq_some_iff, Prod.mk.injEq] at ha
      obtain ⟨v2, hv, rfl, rfl⟩ := ha
      have hx := hE.ov (okx x (by simp [Op.operands]))
      rw [hvs] at hx
      generalize hce : a.eval x = cv at hx
      cases hx
      rename_i ys hys
      obtain ⟨v', q1, q2⟩ := hys.get hv
      exact wp_now (by simp [execOp, hce, Instr.extract, q1]) (hk _ _ _ (Pre.refl _) hs q2 (Below.refl _ _))
    · cases ha
  · rename_i b args ts
    have hargs := hE.ovs (xs := args.toList) fun x hx => okx x (by simp only [Op.operands, Call.operands]; simpa using hx)
    obtain ⟨s, q1, q2⟩ := blt_fine hs hB ha hargs ty (args.map fun | .const _ => true | _ => false)
    refine wp_fine q2 ?_ hk
    have hm : (⟨args.toList.map a.eval⟩ : Array Value) = args.map a.eval := by rw [← Array.toList_map]
    rw [← q1, hm]
    simp only [execOp, resolve, pure_bind, invoke]
    rfl
  · rename_i f args ts
    have hargs := hE.ovs (xs := args.toList) fun x hx => okx x (by simp only [Op.operands, Call.operands]; simp; exact .inr (by simpa using hx))
    have hf := hE.ov (okx f (by simp only [Op.operands, Call.operands]; simp))
    unfold callV at ha
    split at ha
    · rename_i g first cap hg
      rw [hg] at hf
      generalize hce : a.eval f = cv at hf
      cases hf
      rename_i first' cap' h1 h2
      refine wp_call (f := g) (args := ⟨first' ++ args.toList.map a.eval ++ cap'⟩) (hC _ _ _ _ _ ha ρ w _ hs hB ((h1.append hargs).append h2)) ?_ hk
      simp only [execOp, resolve, hce, Deferred.ofValue, pure_bind, invoke]
      congr 2
      simp [← Array.toList_inj]
    · cases ha
  · cases ha
end Go.Proofs.Yteignhphimfmkaa.Sim
