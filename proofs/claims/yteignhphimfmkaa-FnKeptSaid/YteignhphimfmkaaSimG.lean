/- That operations on numbers, texts and addresses of the abstract machine stand for those of the model. Lemmas only; no condition. -/
import Derived.Test.YteignhphimfmkaaSimF
import Derived.Laws.BytesArg
import Derived.Laws.StructEq
import Derived.Deep.Draws
set_option linter.unusedSimpArgs false
namespace Go.Proofs.Yteignhphimfmkaa.Sim
open Go Go.RowKit

variable {P : Program} {ro : Nat} {B : Base}

/-- A run that doesn't look at the world. -/
def Pu {α : Type} (P : Program) (s : Sem α) : Prop := ∀ (w1 w2 w' : World) (v : α), s.run P w1 = .ok v w' → s.run P w2 = .ok v w2
theorem Pu.pure {α : Type} (a : α) : Pu P (Pure.pure a : Sem α) := fun _ _ _ _ h => by
  have : (Pure.pure a : Sem α) = Sem.pure a := rfl
  rw [this] at h ⊢
  simp only [Sem.run] at h ⊢
  cases h; rfl
theorem Pu.never {α : Type} {s : Sem α} (h : ∀ w v w', s.run P w ≠ .ok v w') : Pu P s := fun _ _ _ _ k => absurd k (h _ _ _)
theorem Pu.halt {α : Type} (x : Halt) : Pu P (.halt x : Sem α) := Pu.never fun _ _ _ h => by simp only [Sem.run] at h; cases h
theorem Pu.bind {α β : Type} {s : Sem α} {f : α → Sem β} (h : Pu P s) (k : ∀ a, Pu P (f a)) : Pu P (s >>= f) := by
  intro w1 w2 w' v hr
  rw [Sem.run_bind] at hr ⊢
  cases hs : s.run P w1 with
  | ok a wa =>
    have h2 := h w1 w2 wa a hs
    have h3 := h w1 wa wa a hs
    rw [hs] at hr
    rw [h2]
    exact k a wa w2 w' v hr
  | halt x wa => rw [hs] at hr; cases hr
theorem Pu.underlying (t : TypeId) : Pu P (underlying t) := by
  intro w1 w2 w' v h
  cases hu : P.underlying t with
  | none => simp [Go.underlying, hu] at h
  | some d => rw [run_underlying hu] at h ⊢; cases h; rfl
theorem never_bind {α β : Type} {s : Sem α} {f : α → Sem β} (h : ∀ a w v w', (f a).run P w ≠ .ok v w') : ∀ w v w', (s >>= f).run P w ≠ .ok v w' := by
  intro w v w' hr
  rw [Sem.run_bind] at hr
  cases hs : s.run P w with
  | ok a wa => rw [hs] at hr; exact h a wa v w' hr
  | halt x wa => rw [hs] at hr; cases hr
theorem never_error {α : Type} (m : String) (w : World) (v : α) (w' : World) : (runtimePanic (.error m) : Sem α).run P w ≠ .ok v w' := by
  intro h
  simp [runtimePanic, goPanic, Sem.run] at h
theorem pu_equal (t : TypeId) (x y : Value) (hx : rigid x = true) (hy : rigid y = true) : Pu P (Op.equal t x y) := by
  unfold Op.equal Op.maxDepth
  rw [show (10000 : Nat) = 9999 + 1 from rfl]
  unfold Op.equalIn
  refine Pu.bind (Pu.underlying t) fun d => ?_
  cases x <;> simp only [rigid, Bool.false_eq_true] at hx <;> cases y <;> simp only [rigid, Bool.false_eq_true] at hy <;> cases d <;> simp only <;>
    first
      | exact Pu.pure _
      | exact Pu.halt _
      | (split <;> first | exact Pu.pure _ | exact Pu.halt _)
theorem pu_bin (op : BinOp) (t : TypeId) (x y : Value) (hx : rigid x = true) (hy : rigid y = true) : Pu P (binOp op t x y) := by
  have heq := pu_equal (P := P) t x y hx hy
  cases x <;> simp only [rigid, Bool.false_eq_true] at hx <;> cases y <;> simp only [rigid, Bool.false_eq_true] at hy <;> cases op <;>
    simp only [binOp, Op.shift, Op.intArith, Op.intDiv, Op.intBits, Op.intCmp, Op.stringOp] <;>
    first
      | exact Pu.pure _
      | exact Pu.halt _
      | exact Pu.bind heq fun _ => Pu.pure _
      | (split <;> first | exact Pu.pure _ | exact Pu.halt _ | exact Pu.never (fun w v w' => never_error _ w v w') | (split <;> first | exact Pu.pure _ | exact Pu.halt _ | exact Pu.never (fun w v w' => never_error _ w v w')))
theorem pu_un (op : UnOp) (x : Value) (hx : rigid x = true) : Pu P (Op.unary op x) := by
  cases x <;> simp only [rigid, Bool.false_eq_true] at hx <;> cases op <;>
    simp only [Op.unary, Op.intArith, Op.intBits] <;>
    first
      | exact Pu.pure _
      | exact Pu.halt _
theorem rigid_VR {ρ : List Loc} {x y : Value} (hx : rigid x = true) (h : VR P ro ρ x y) : y = x := by
  cases h <;> first | rfl | simp [rigid] at hx
theorem VR_rigid {ρ : List Loc} {x : Value} (hx : rigid x = true) : VR P ro ρ x x := by
  cases x <;> simp only [rigid, Bool.false_eq_true] at hx <;> constructor
theorem pure?_some {s : Sem Value} {v : Value} (h : pure? P s = some v) (hp : Pu P s) : rigid v = true ∧ ∀ w, s.run P w = .ok v w := by
  unfold pure? at h
  split at h
  · rename_i u w' hr
    split at h
    · rename_i hrig
      cases h
      exact ⟨hrig, fun w => hp _ w _ _ hr⟩
    · cases h
  · cases h

/-! ### Floats -/
theorem cf_nan {k : FloatKind} {b : Nat} (h : (k.decode b).isNaN = true) : cf k b = nanOf k := if_pos h
theorem cf_not {k : FloatKind} {b : Nat} (h : (k.decode b).isNaN = false) : cf k b = b := by unfold cf; rw [h]; rfl
theorem nanOf_nan (k : FloatKind) : (k.decode (nanOf k)).isNaN = true := by cases k <;> decide +kernel
theorem cf_nanOf (k : FloatKind) : cf k (nanOf k) = nanOf k := cf_nan (nanOf_nan k)
theorem cf_cf (k : FloatKind) (b : Nat) : cf k (cf k b) = cf k b := by
  by_cases h : (k.decode b).isNaN = true
  · rw [cf_nan h, cf_nanOf]
  · have h' : (k.decode b).isNaN = false := by simpa using h
    rw [cf_not h', cf_not h']
/-- Two words that are the same up to the kind of NaN. -/
theorem cf_same {k : FloatKind} {a b : Nat} (h : cf k b = a) : (a = b ∧ (k.decode b).isNaN = false) ∨ ((k.decode a).isNaN = true ∧ (k.decode b).isNaN = true) := by
  by_cases hb : (k.decode b).isNaN = true
  · right
    rw [cf_nan hb] at h
    subst h
    exact ⟨nanOf_nan k, hb⟩
  · have hb' : (k.decode b).isNaN = false := by simpa using hb
    left
    rw [cf_not hb'] at h
    exact ⟨h.symm, hb'⟩
theorem isNaN_iff {d : Ieee.Datum} : d.isNaN = true ↔ ∃ s f, d = .nan s f := by
  cases d <;> simp [Ieee.Datum.isNaN]
theorem order_nan_l {k : FloatKind} {a : Nat} (h : (k.decode a).isNaN = true) (b : Nat) : k.format.order a b = none := by
  obtain ⟨s, f, hd⟩ := isNaN_iff.1 h
  unfold FloatKind.decode at hd
  simp [Ieee.Format.order, hd, Ieee.Datum.order]
theorem order_nan_r {k : FloatKind} {b : Nat} (h : (k.decode b).isNaN = true) (a : Nat) : k.format.order a b = none := by
  obtain ⟨s, f, hd⟩ := isNaN_iff.1 h
  unfold FloatKind.decode at hd
  simp only [Ieee.Format.order, hd]
  cases k.format.read a <;> rfl
theorem order_cf {k : FloatKind} {a b a' b' : Nat} (ha : cf k a' = a) (hb : cf k b' = b) : k.format.order a' b' = k.format.order a b := by
  rcases cf_same ha with ⟨rfl, _⟩ | ⟨h1, h2⟩
  · rcases cf_same hb with ⟨rfl, _⟩ | ⟨h1, h2⟩
    · rfl
    · rw [order_nan_r h2, order_nan_r h1]
  · rw [order_nan_l h2, order_nan_l h1]
theorem bits_nan_l {op : BinOp} {k : FloatKind} {a : Nat} (h : (k.decode a).isNaN = true) (b : Nat) : floatBits op k a b = none := by
  obtain ⟨s, f, hd⟩ := isNaN_iff.1 h
  unfold FloatKind.decode at hd
  cases op <;> simp [floatBits, Ieee.Format.add, Ieee.Format.sub, Ieee.Format.mul, Ieee.Format.div, hd, Ieee.Datum.sum, Ieee.Datum.product, Ieee.Datum.quotient]
theorem bits_nan_r {op : BinOp} {k : FloatKind} {b : Nat} (h : (k.decode b).isNaN = true) (a : Nat) : floatBits op k a b = none := by
  obtain ⟨s, f, hd⟩ := isNaN_iff.1 h
  unfold FloatKind.decode at hd
  cases op <;> simp only [floatBits, Ieee.Format.add, Ieee.Format.sub, Ieee.Format.mul, Ieee.Format.div, hd] <;> cases k.format.read a <;> rfl
theorem bits_cf {op : BinOp} {k : FloatKind} {a b a' b' : Nat} (ha : cf k a' = a) (hb : cf k b' = b) : floatBits op k a' b' = floatBits op k a b := by
  rcases cf_same ha with ⟨rfl, _⟩ | ⟨h1, h2⟩
  · rcases cf_same hb with ⟨rfl, _⟩ | ⟨h1, h2⟩
    · rfl
    · rw [bits_nan_r h2, bits_nan_r h1]
  · rw [bits_nan_l h2, bits_nan_l h1]
theorem read_nan (f : Ieee.Format) (b : Nat) (h : f.infRung < b % f.signWeight) (hb : f.binade ≤ f.infRung) : (f.read b).isNaN = true := by
  unfold Ieee.Format.read
  simp only
  rw [if_neg (by omega), if_neg (by omega), if_neg (by omega)]
  rfl
/-- The word that is drawn where an operation has no answer is a NaN. -/
theorem cut_nan (k : FloatKind) (t : Nat) : (k.decode (match k with | .f32 => (t % 2) * 2 ^ 31 + 0x7f800000 + 1 + (t / 2) % (2 ^ 23 - 1) | .f64 => (t % 2) * 2 ^ 63 + 0x7ff0000000000000 + 1 + (t / 2) % (2 ^ 52 - 1))).isNaN = true := by
  cases k
  · refine read_nan _ _ ?_ (by decide +kernel)
    show Ieee.single.infRung < ((t % 2) * 2 ^ 31 + 0x7f800000 + 1 + (t / 2) % (2 ^ 23 - 1)) % Ieee.single.signWeight
    rw [show Ieee.single.infRung = 2139095040 from by decide +kernel, show Ieee.single.signWeight = 2147483648 from by decide +kernel]
    have h1 : t % 2 = 0 ∨ t % 2 = 1 := by omega
    have h2 := Nat.mod_lt (t / 2) (show 0 < 2 ^ 23 - 1 by decide)
    generalize t / 2 % (2 ^ 23 - 1) = r at *
    rcases h1 with h1 | h1 <;> rw [h1] <;> omega
  · refine read_nan _ _ ?_ (by decide +kernel)
    show Ieee.double.infRung < ((t % 2) * 2 ^ 63 + 0x7ff0000000000000 + 1 + (t / 2) % (2 ^ 52 - 1)) % Ieee.double.signWeight
    rw [show Ieee.double.infRung = 9218868437227405312 from by decide +kernel, show Ieee.double.signWeight = 9223372036854775808 from by decide +kernel]
    have h1 : t % 2 = 0 ∨ t % 2 = 1 := by omega
    have h2 := Nat.mod_lt (t / 2) (show 0 < 2 ^ 52 - 1 by decide)
    generalize t / 2 % (2 ^ 52 - 1) = r at *
    rcases h1 with h1 | h1 <;> rw [h1] <;> omega
theorem choose_nan {q : Question} (k : FloatKind) (hq : ∀ t, q.cut t = (match k with | .f32 => (t % 2) * 2 ^ 31 + 0x7f800000 + 1 + (t / 2) % (2 ^ 23 - 1) | .f64 => (t % 2) * 2 ^ 63 + 0x7ff0000000000000 + 1 + (t / 2) % (2 ^ 52 - 1))) (hf : q.forced = false) (w : World) :
    ∃ b, (choose q).run P w = .ok b w.drew ∧ cf k b = nanOf k := by
  refine ⟨q.cut (w.tape w.drawn q), ?_, ?_⟩
  · show (Sem.choose q Sem.pure).run P w = _
    simp only [Sem.run, hf, Bool.false_eq_true, if_false]
    rfl
  · rw [hq]; exact cf_nan (cut_nan k _)

/-- What an operation on numbers leaves: a value, and the world but for a draw. -/
def Num (P : Program) (ro : Nat) (ρ : List Loc) (v : Value) (s : Sem Value) : Prop := ∀ w, ∃ v', (s.run P w = .ok v' w ∨ s.run P w = .ok v' w.drew) ∧ VR P ro ρ v v'
theorem Num.fine {ρ : List Loc} {h : Heap} {w : World} {v : Value} {s : Sem Value} (hn : Num P ro ρ v s) (hs : SR P ro B ρ h w) : Fine P ro B ρ h w v s := by
  obtain ⟨v', hr | hr, hv⟩ := hn w
  · exact ⟨v', w, ρ, hr, Pre.refl _, hs, hv, Below.refl _ _⟩
  · exact ⟨v', w.drew, ρ, hr, Pre.refl _, hs.drew, hv, (Below.refl _ _).drew⟩

theorem arith_num {ρ : List Loc} (op : BinOp) (k : FloatKind) {a b a' b' : Nat} (h : isArith op = true) (ha : cf k a' = a) (hb : cf k b' = b) :
    Num P ro ρ (.float k (farith op k a b)) (Op.floatArith op k a' b') := by
  intro w
  have hbits := bits_cf (op := op) ha hb
  cases hr : floatBits op k a b with
  | some r =>
    refine ⟨.float k r, .inl ?_, .flt k _ _ ?_⟩
    · rw [hr] at hbits
      unfold floatBits at hbits
      cases op <;> simp only [isArith, Bool.false_eq_true] at h <;> simp only at hbits <;> simp [Op.floatArith, hbits]
    · unfold farith; rw [hr]; rfl
  | none =>
    obtain ⟨b2, h1, h2⟩ := choose_nan (P := P) (q := .nanBits k a' b') k (fun t => by cases k <;> rfl) rfl w
    refine ⟨.float k b2, .inr ?_, .flt k _ _ ?_⟩
    · rw [hr] at hbits
      unfold floatBits at hbits
      cases op <;> simp only [isArith, Bool.false_eq_true] at h <;> simp only at hbits <;> simp [Op.floatArith, hbits, h1]
    · unfold farith; rw [hr, h2]; exact (cf_nanOf k).symm
theorem fcmp_cf {op : BinOp} {k : FloatKind} {a b a' b' : Nat} (ha : cf k a' = a) (hb : cf k b' = b) : fcmp op k a' b' = fcmp op k a b := by
  unfold fcmp; rw [order_cf ha hb]
theorem cmp_run (op : BinOp) (k : FloatKind) (a b : Nat) (h : isCmp op = true) (w : World) : (Op.floatCmp op k a b).run P w = .ok (.bool (fcmp op k a b)) w := by
  cases op <;> simp only [isCmp, Bool.false_eq_true] at h <;> simp [Op.floatCmp, fcmp]

theorem d0 (w : World) : w.drewN 0 = w := rfl
theorem d1 (w : World) : w.drewN 1 = w.drew := rfl
theorem eqFs_run {ρ : List Loc} {xs ys xs' ys' : List Value} (hx : VRs P ro ρ xs xs') (hy : VRs P ro ρ ys ys') (d : Nat) :
    ∀ (fs : List Field) (b : Bool), eqFs P xs ys fs = some b → ∀ w, (Op.eqFields (d + 1) ⟨xs'⟩ ⟨ys'⟩ fs).run P w = .ok b w
  | [], b, h, w => by
    simp only [eqFs, Option.some.injEq] at h
    subst h
    simp [Op.eqFields]
  | f :: fs, b, h, w => by
    unfold eqFs at h
    by_cases hn : f.name ≠ "_"
    · rw [if_pos hn] at h
      split at h
      · rename_i k' k a k2 b2 hu h1 h2
        have hag : ∀ w, (isAgg f.type).run P w = .ok false w := fun w => by simp [isAgg, run_underlying hu]
        obtain ⟨v1, p1, q1⟩ := hx.get h1
        obtain ⟨v2, p2, q2⟩ := hy.get h2
        cases q1
        cases q2
        have r1 : (part f.type (⟨xs'⟩ : Array Value) f.offset).run P w = .ok (.int k a) w := by simp [part, hag, p1]
        have r2 : (part f.type (⟨ys'⟩ : Array Value) f.offset).run P w = .ok (.int k2 b2) w := by simp [part, hag, p2]
        split at h
        · rename_i hk
          subst hk
          have r3 : (Op.equalIn (d + 1) f.type (.int k a) (.int k b2)).run P w = .ok (a == b2) w := run_equalIn_int w d _ _ _ _ _ hu
          unfold Op.eqFields
          rw [if_pos hn, Sem.run_bind, r1, Result.andThen_ok, Sem.run_bind, r2, Result.andThen_ok, Sem.run_bind, r3, Result.andThen_ok]
          split at h
          · rename_i hab
            subst hab
            simp only [BEq.rfl, Bool.not_true, Bool.false_eq_true, if_false]
            exact eqFs_run hx hy d fs b h w
          · rename_i hab
            have : (a == b2) = false := by simpa using hab
            cases h
            simp [this]
        · cases h
      · cases h
    · rw [if_neg hn] at h; cases h
theorem abin_num {ρ : List Loc} {op : BinOp} {t : TypeId} {x y x' y' v : Value} {X Y : Operand} (h : abin P op t x y = some v) (hx : VR P ro ρ x x') (hy : VR P ro ρ y y') :
    ∀ w, ∃ v', (∃ n, (do eqGuard op t X Y x' y'; binOp op t x' y').run P w = .ok v' (w.drewN n)) ∧ VR P ro ρ v v' := by
  intro w
  cases hx <;> cases hy <;> simp only [abin] at h <;>
    first
      | (simp only [rigid, Bool.and_false, Bool.false_and, Bool.false_eq_true, if_false] at h; cases h; done)
      | skip
  case flt.flt k a a' ha k' b b' hb =>
    by_cases hk : k = k'
    · subst hk
      rw [if_pos rfl] at h
      by_cases har : isArith op = true
      · rw [if_pos har] at h
        cases h
        obtain ⟨v', hr, hv⟩ := arith_num (P := P) (ro := ro) (ρ := ρ) op k har ha hb w
        refine ⟨v', ?_, hv⟩
        rcases hr with hr | hr
        · refine ⟨0, ?_⟩
          cases op <;> simp only [isArith, Bool.false_eq_true] at har <;> simpa [eqGuard, binOp, d0, d1] using hr
        · refine ⟨1, ?_⟩
          cases op <;> simp only [isArith, Bool.false_eq_true] at har <;> simpa [eqGuard, binOp, d0, d1] using hr
      · rw [if_neg har] at h
        by_cases hc : isCmp op = true
        · rw [if_pos hc] at h
          cases h
          refine ⟨_, ⟨0, ?_⟩, .bool _⟩
          have := cmp_run (P := P) op k a' b' hc w
          rw [fcmp_cf ha hb] at this
          cases op <;> simp only [isCmp, Bool.false_eq_true] at hc <;> simpa [eqGuard, binOp, d0] using this
        · rw [if_neg hc] at h; cases h
    · rw [if_neg hk] at h; cases h
  case cpx.cpx k a b a' b' ha hb k' c d c' d' hc hd =>
    by_cases hk : k = k'
    · subst hk
      rw [if_pos rfl] at h
      cases op <;> simp only at h <;> try (cases h; done)
      case add =>
        cases h
        obtain ⟨v1, hr1, hv1⟩ := arith_num (P := P) (ro := ro) (ρ := ρ) .add k rfl ha hc w
        cases hv1
        rename_i q1 hq1
        have two : ∀ w2 : World, ∃ q2, (∃ n, (Op.floatArith .add k b' d').run P w2 = .ok (.float k q2) (w2.drewN n)) ∧ cf k q2 = farith .add k b d := by
          intro w2
          obtain ⟨v2, hr2, hv2⟩ := arith_num (P := P) (ro := ro) (ρ := ρ) .add k rfl hb hd w2
          cases hv2
          rename_i q2 hq2
          rcases hr2 with hr2 | hr2
          · exact ⟨q2, ⟨0, hr2⟩, hq2⟩
          · exact ⟨q2, ⟨1, hr2⟩, hq2⟩
        have one : ∃ n, (Op.floatArith .add k a' c').run P w = .ok (.float k q1) (w.drewN n) := by
          rcases hr1 with hr1 | hr1
          · exact ⟨0, hr1⟩
          · exact ⟨1, hr1⟩
        obtain ⟨n1, hn1⟩ := one
        obtain ⟨q2, ⟨n2, hn2⟩, hq2⟩ := two (w.drewN n1)
        refine ⟨.complex k q1 q2, ⟨n1 + n2, ?_⟩, .cpx k _ _ _ _ hq1 hq2⟩
        simp [eqGuard, binOp, Op.complexOp, Op.Complex.arith, hn1, hn2, World.drewN_drewN]
      case sub =>
        cases h
        obtain ⟨v1, hr1, hv1⟩ := arith_num (P := P) (ro := ro) (ρ := ρ) .sub k rfl ha hc w
        cases hv1
        rename_i q1 hq1
        have two : ∀ w2 : World, ∃ q2, (∃ n, (Op.floatArith .sub k b' d').run P w2 = .ok (.float k q2) (w2.drewN n)) ∧ cf k q2 = farith .sub k b d := by
          intro w2
          obtain ⟨v2, hr2, hv2⟩ := arith_num (P := P) (ro := ro) (ρ := ρ) .sub k rfl hb hd w2
          cases hv2
          rename_i q2 hq2
          rcases hr2 with hr2 | hr2
          · exact ⟨q2, ⟨0, hr2⟩, hq2⟩
          · exact ⟨q2, ⟨1, hr2⟩, hq2⟩
        have one : ∃ n, (Op.floatArith .sub k a' c').run P w = .ok (.float k q1) (w.drewN n) := by
          rcases hr1 with hr1 | hr1
          · exact ⟨0, hr1⟩
          · exact ⟨1, hr1⟩
        obtain ⟨n1, hn1⟩ := one
        obtain ⟨q2, ⟨n2, hn2⟩, hq2⟩ := two (w.drewN n1)
        refine ⟨.complex k q1 q2, ⟨n1 + n2, ?_⟩, .cpx k _ _ _ _ hq1 hq2⟩
        simp [eqGuard, binOp, Op.complexOp, Op.Complex.arith, hn1, hn2, World.drewN_drewN]
      case eql =>
        cases h
        have h1 := fcmp_cf (op := .eql) ha hc
        have h2 := fcmp_cf (op := .eql) hb hd
        simp only [fcmp] at h1 h2
        refine ⟨_, ⟨0, ?_⟩, .bool _⟩
        simp [eqGuard, binOp, Op.complexOp, Op.Complex.cmp, Op.floatCmp, asBool, fcmp, h1, h2, d0]
      case neq =>
        cases h
        have h1 := fcmp_cf (op := .eql) ha hc
        have h2 := fcmp_cf (op := .eql) hb hd
        simp only [fcmp] at h1 h2
        refine ⟨_, ⟨0, ?_⟩, .bool _⟩
        simp [eqGuard, binOp, Op.complexOp, Op.Complex.cmp, Op.floatCmp, asBool, fcmp, h1, h2, d0]
    · rw [if_neg hk] at h; cases h
  case agg.agg xs xs' hx ys ys' hy =>
    have key : ∀ b, eqAgg P t xs ys = some b → P.eqGuardType P.depth t = false ∧ (Op.equalIn 10000 t (.agg ⟨xs'⟩) (.agg ⟨ys'⟩)).run P w = .ok b w := by
      intro b hb
      unfold eqAgg at hb
      split at hb
      · rename_i fs hu
        split at hb
        · rename_i hg
          simp only [Bool.and_eq_true, Bool.not_eq_true'] at hg
          refine ⟨hg.1.2, ?_⟩
          have hf : P.fieldsOf t = fs := by simp [Program.fieldsOf, hu]
          rw [run_equalIn_struct w 9999 t _ _ (by rw [hf]; exact hu) hg.1.1, hf]
          exact eqFs_run hx hy 9998 _ _ hb w
        · cases hb
      · cases hb
    cases op <;> simp only at h <;> try (cases h; done)
    case eql =>
      simp only [Option.map_eq_some_iff] at h
      obtain ⟨b, hb, rfl⟩ := h
      obtain ⟨k1, k2⟩ := key b hb
      refine ⟨_, ⟨0, ?_⟩, .bool _⟩
      rw [Sem.run_bind, run_eqGuard_agg w .eql t X Y _ _ k1, Result.andThen_ok, run_eql_struct, k2]
      rfl
    case neq =>
      simp only [Option.map_eq_some_iff] at h
      obtain ⟨b, hb, rfl⟩ := h
      obtain ⟨k1, k2⟩ := key b hb
      refine ⟨_, ⟨0, ?_⟩, .bool _⟩
      rw [Sem.run_bind, run_eqGuard_agg w .neq t X Y _ _ k1, Result.andThen_ok, run_neq_struct, k2]
      rfl
  all_goals
    simp only [rigid, Bool.and_self, if_true] at h
    obtain ⟨hrig, hr⟩ := pure?_some h (pu_bin _ _ _ _ rfl rfl)
    refine ⟨_, ⟨0, ?_⟩, VR_rigid hrig⟩
    have := hr w
    cases op <;> simpa [eqGuard, d0] using this
end Go.Proofs.Yteignhphimfmkaa.Sim
