/- jobsOf told apart from its text, and that contracts shown without it hold beside it. Lemmas only; no condition. -/
import Derived.Test.YtbakaopgdcojfaaJoe
import Derived.Test.YtbakaopgdcojfaaSimR
set_option linter.unusedSimpArgs false
set_option linter.unusedVariables false
set_option maxRecDepth 8000
namespace Go.Proofs.Ytbakaopgdcojfaa.Sim
open Go Go.RowKit Go.Maps
variable {ro B : Nat}
section
variable {P : Program} {X X' : Ext}
theorem callN_lift (hx : ∀ f, X' f ≠ X f → ∀ n args h, callN P ro X n f args h = none) : ∀ n, LeF (callN P ro X n) (callN P ro X' n)
  | 0 => by intro f args h r hr; simp only [callN] at hr; cases hr
  | n + 1 => by
    intro f args h r hr
    by_cases e : X' f = X f
    · rw [callN_succ] at hr ⊢
      rw [e]
      cases hXf : X f with
      | some F => rw [hXf] at hr; exact hr
      | none =>
        rw [hXf] at hr
        simp only [Option.bind_eq_some_iff] at hr ⊢
        obtain ⟨fn, h1, c, h2, h3⟩ := hr
        refine ⟨fn, h1, c, h2, ?_⟩
        split at h3
        · rename_i hcond
          rw [if_pos hcond]
          simp only [Option.bind_eq_some_iff] at h3 ⊢
          obtain ⟨q, h4, h5⟩ := h3
          exact ⟨q, ev_mono (callN_lift hx n) (Nat.le_refl n) h4, h5⟩
        · cases h3
    · rw [hx f e] at hr; cases hr
theorem Call.lift (hx : ∀ f, X' f ≠ X f → ∀ n args h, callN P ro X n f args h = none) {f : FuncId} {args : List Value} {h h' : Heap} {r : Value} : Call P ro X f args h r h' → Call P ro X' f args h r h' := fun ⟨n, hn⟩ => ⟨n, callN_lift hx n _ _ _ _ hn⟩
end
noncomputable def extJ (ro : Nat) : Ext := fun f => if f = 94 then some (jobsF ro) else none
theorem extJ_ok {B : Nat} : XOk Try.prog ro B (extJ ro) := by
  intro f F hF args h r h' hr ρ w args' hs hB hargs
  unfold extJ at hF
  split at hF
  · rename_i hf
    subst hf
    cases hF
    exact jobsF_ok hr hs hB hargs
  · cases hF
theorem jobs_none (n : Nat) (args : List Value) (h : Heap) : callN Try.prog ro noX n 94 args h = none := by
  cases n with
  | zero => rfl
  | succ n =>
    rw [callN_succ]
    simp only [noX, Try.func94, Option.bind_some]
    show (if _ then _ else _) = none
    split
    · show Option.bind (ev _ _ _ _ (Code.seq _ (Code.seq (Code.region _ _ _) _)) _ _) _ = none
      rw [Option.bind_eq_none_iff]
      rintro ⟨y, e, h2⟩ hv
      exfalso
      simp only [ev, Option.bind_eq_some_iff, Option.map_eq_some_iff] at hv
      obtain ⟨a, ⟨a1, ha1, rfl⟩, hb⟩ := hv
      simp only [Option.bind_eq_some_iff, Option.map_eq_some_iff] at hb
      obtain ⟨b, ⟨b1, hb1, rfl⟩, hc⟩ := hb
      simp only [aops, wants, Option.bind_eq_some_iff] at hb1
      simp [aop] at hb1
    · rfl
theorem jlift (f : FuncId) (hf : extJ ro f ≠ noX f) (n : Nat) (args : List Value) (h : Heap) : callN Try.prog ro noX n f args h = none := by
  unfold extJ at hf
  split at hf
  · rename_i e; subst e; exact jobs_none n args h
  · exact absurd rfl hf
theorem noX_n : XN noX := fun _ _ => rfl
theorem upC {f : FuncId} {args : List Value} {h : Heap} {R : Value → Heap → Prop} : CallR Try.prog ro noX f args h R → CallR Try.prog ro (extJ ro) f args h R := fun ⟨r, h', hc, hr⟩ => ⟨r, h', hc.lift jlift, hr⟩
theorem upR {f : FuncId} {args : List Value} {h : Heap} {r : Value} (hr : Ret Try.prog ro noX f args h r) : Ret Try.prog ro (extJ ro) f args h r := by
  have h1 := hr false (fun r' h' => r' = r ∧ h' = h)
  have h2 : CF Try.prog ro noX false f args h (fun r' h' => r' = r ∧ h' = h) := by rw [h1]; exact ⟨rfl, rfl⟩
  obtain ⟨r', h', hc, _, rfl, rfl⟩ := h2
  exact fun _ _ => cf_eq (hc.lift jlift)
/-- That but for jobsOf nothing is known from outside. -/
def XJN (X : Ext) : Prop := ∀ f, (noBody.contains f || f == 94) = false → X f = none
theorem extJ_n : XJN (extJ ro) := by
  intro f hf
  unfold extJ
  split
  · rename_i e; subst e; exact absurd hf (by decide)
  · rfl
theorem jobs_c {h : Heap} {x : Value} {n : Nat} {l : List Int} (a : JobArg ro h x (n, l)) : Call Try.prog ro (extJ ro) 94 [x] h (.slice (some ⟨h.length, 0, none⟩) n (if n = 0 then 0 else n + 1)) (h ++ [⟨2, vints (jobsL (keysL n l) n)⟩]) := call_ext (F := jobsF ro) (by unfold extJ; rw [if_pos rfl]) (jobsF_eq a)
theorem jobs_r {h : Heap} {x : Value} {n : Nat} {l : List Int} (a : JobArg ro h x (n, l)) : CallR Try.prog ro (extJ ro) 94 [x] h (fun r h' => Pfx h h' ∧ h'.length = h.length + 1 ∧ IS h.length (h.length + 1) 1 h' r n (jobsL (keysL n l) n)) :=
  ⟨_, _, jobs_c a, (Pfx.refl h).snoc, by simp, by rw [jobsL_len, Nat.mul_one], .inr ⟨h.length, 0, _, ⟨2, vints (jobsL (keysL n l) n)⟩, rfl, Nat.le_refl _, by omega, get_last rfl, by simp only [vints_len, jobsL_len]; omega, fun j hj => by rw [Nat.zero_add]; exact nth_vints (by rw [jobsL_len]; omega)⟩⟩
end Go.Proofs.Ytbakaopgdcojfaa.Sim
