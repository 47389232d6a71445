/- Whether numbers and complex numbers are the same. Lemmas only; no condition. -/
import Derived.Test.YtelogajobjflfaaMth
import Derived.Test.YtelogajobjflfaaCpx
import Derived.Test.YtelogajobjflfaaDrr
import Derived.Test.YtelogajobjflfaaSkc
set_option linter.unusedSimpArgs false
set_option linter.unusedVariables false
set_option maxRecDepth 8000
namespace Go.Proofs.Ytelogajobjflfaa.Sim
open Go Go.RowKit Fl
variable {ro : Nat} {X : Ext}
/-- A number that is one. -/
def okF (b : Nat) : Prop := (FloatKind.f32.decode b).isNaN = false ∧ okW b ∧ (FloatKind.f64.decode (wd b)).isNaN = false
theorem okF_of {b : Nat} {v : Int} (h : Fl.fin .f32 b v) : okF b := by
  obtain ⟨r, h1, h2⟩ := widen_fin h
  have := okW_of h1
  exact ⟨h.notNaN, this.1, by rw [this.2]; exact h2.notNaN⟩
theorem sign_r (hX : XN X) (hB : X 239 = some (ext1 gBits)) {b : Nat} (hn : (FloatKind.f64.decode b).isNaN = false) (h : Heap) : ∃ t, Ret Try.prog ro X 216 [.float .f64 b] h (.bool t) := by
  have hc : Ret Try.prog ro X 239 [.float .f64 b] h (.int .u64 b) := fun _ _ => cf_eq (call_ext hB (by simp only [ext1, gBits, hn, Bool.false_eq_true, if_false, Option.map_some]))
  have : CallR Try.prog ro X 216 [.float .f64 b] h (fun r h' => (∃ t, r = .bool t) ∧ h' = h) := by
    refine callR_of (hX _ rfl) Try.func216 rfl (by kernel_rfl) (Nat.le_of_ble_eq_true rfl) ?_
    (repeat' first | simp -dsimp (disch := first | omega | assumption | (refine OkS.sto ?_ (by omega); first | assumption | (refine OkS.sto ?_ (by omega); first | assumption | (refine OkS.sto ?_ (by omega); first | assumption | (refine OkS.sto ?_ (by omega); first | assumption | (refine OkS.sto ?_ (by omega); first | assumption | (refine OkS.sto ?_ (by omega); first | assumption)))))) | exact Pfx.refl _ | (apply Pfx.snoc; repeat (first | exact Pfx.refl _ | assumption | apply Pfx.snoc)) | with_unfolding_all exact of_eq_true (eq_true rfl) | (simp only [List.length_append, List.length_cons, List.length_nil]; omega)) only [↓wpre0, ↓wpre1, ↓reduceIte, Int.reduceToNat, Nat.reduceAdd, Nat.reduceMul, Nat.reduceEqDiff, wpost0, wpost1, wpost2, wpost3, wpost4, ite_self, ite_true, ite_false, if_true, if_false, xcv205_2, bin_lss, fr216, wrap_int, wrap_u8, iteP_yes, iteP_no, hc] | refine iteP_two (fun hc hd => ?_) (fun hc hd => ?_) | refine iteP_intro (fun hc => ?_) (fun hc => ?_))
    all_goals exact ⟨_, rfl⟩
  obtain ⟨r, h', h1, ⟨t, rfl⟩, rfl⟩ := this
  exact ⟨t, fun _ _ => cf_eq h1⟩
theorem SameN_r (hX : XN X) (hB : X 239 = some (ext1 gBits)) {b : Nat} (k : okF b) (h : Heap) : Ret Try.prog ro X 157 [.float .f32 b, .float .f32 b] h (.bool true) := by
  obtain ⟨t, ht⟩ := sign_r (ro := ro) hX hB k.2.2 h
  have e1 : fcmp .eql .f32 b b = true := by rw [order_self, k.1]; rfl
  refine ret_of (callR_of (hX _ rfl) Try.func157 rfl (by kernel_rfl) (Nat.le_of_ble_eq_true rfl) ?_)
  (repeat' first | simp -dsimp (disch := first | omega | assumption | (refine OkS.sto ?_ (by omega); first | assumption | (refine OkS.sto ?_ (by omega); first | assumption | (refine OkS.sto ?_ (by omega); first | assumption | (refine OkS.sto ?_ (by omega); first | assumption | (refine OkS.sto ?_ (by omega); first | assumption | (refine OkS.sto ?_ (by omega); first | assumption)))))) | exact Pfx.refl _ | (apply Pfx.snoc; repeat (first | exact Pfx.refl _ | assumption | apply Pfx.snoc)) | with_unfolding_all exact of_eq_true (eq_true rfl) | (simp only [List.length_append, List.length_cons, List.length_nil]; omega)) only [↓wpre0, ↓wpre1, ↓reduceIte, Int.reduceToNat, Nat.reduceAdd, Nat.reduceMul, Nat.reduceEqDiff, wpost0, wpost1, wpost2, wpost3, wpost4, ite_self, ite_true, ite_false, if_true, if_false, bin_fneq, bin_feql, xcv29_59, xbeql4, fr157, wrap_int, wrap_u8, iteP_yes, iteP_no, e1, cv_w k.2.1, ht] | refine iteP_two (fun hc hd => ?_) (fun hc hd => ?_) | refine iteP_intro (fun hc => ?_) (fun hc => ?_))
  all_goals (cases t <;> rfl)
theorem SameC_r (hX : XN X) (hB : X 239 = some (ext1 gBits)) {u : CB} (ka : okF u.a) (kb : okF u.b) (h : Heap) : Ret Try.prog ro X 65 [toV u, toV u] h (.bool true) := by
  refine ret_of (callR_of (hX _ rfl) Try.func65 rfl (by kernel_rfl) (Nat.le_of_ble_eq_true rfl) ?_)
  (repeat' first | simp -dsimp (disch := first | omega | assumption | (refine OkS.sto ?_ (by omega); first | assumption | (refine OkS.sto ?_ (by omega); first | assumption | (refine OkS.sto ?_ (by omega); first | assumption | (refine OkS.sto ?_ (by omega); first | assumption | (refine OkS.sto ?_ (by omega); first | assumption | (refine OkS.sto ?_ (by omega); first | assumption)))))) | exact Pfx.refl _ | (apply Pfx.snoc; repeat (first | exact Pfx.refl _ | assumption | apply Pfx.snoc)) | with_unfolding_all exact of_eq_true (eq_true rfl) | (simp only [List.length_append, List.length_cons, List.length_nil]; omega)) only [↓wpre0, ↓wpre1, ↓reduceIte, Int.reduceToNat, Nat.reduceAdd, Nat.reduceMul, Nat.reduceEqDiff, wpost0, wpost1, wpost2, wpost3, wpost4, ite_self, ite_true, ite_false, if_true, if_false, blt_real, blt_imag, fr65, wrap_int, wrap_u8, iteP_yes, iteP_no, SameN_r hX hB ka, SameN_r hX hB kb] | refine iteP_two (fun hc hd => ?_) (fun hc hd => ?_) | refine iteP_intro (fun hc => ?_) (fun hc => ?_))
end Go.Proofs.Ytelogajobjflfaa.Sim

/- The functions of the library and the draws that laws lean on, as one. Lemmas only; no condition. -/
set_option linter.unusedSimpArgs false
set_option linter.unusedVariables false
set_option maxRecDepth 8000
namespace Go.Proofs.Ytelogajobjflfaa.Sim
open Go Go.RowKit
variable {ro : Nat} {X : Ext}
theorem XN.orS {A B : Ext} (a : XN A) (b : XN B) : XN (orX A B) := fun f hf => by unfold orX; rw [a f hf]; exact b f hf
theorem XN.onlyS {n : Nat} {F : Option (List Value → Heap → Option (Value × Heap))} (hn : noBody.contains n = true) : XN fun g => if g = n then F else none := fun f hf => by
  show (if f = n then F else none) = none
  rw [if_neg]
  intro e
  rw [e, hn] at hf
  cases hf
noncomputable def xS0 : Ext := orX (soloX 239 gBits) (orX (soloX 238 gFrom) extB)
noncomputable def xS1 (ro : Nat) : Ext := orX (xPl ro xS0) xS0
theorem xn_S0 : XN xS0 := XN.orS (XN.onlyS (by decide +kernel)) (XN.orS (XN.onlyS (by decide +kernel)) extB_n)
theorem xn_S1 (ro : Nat) : XN (xS1 ro) := XN.orS (XN.onlyS (by decide +kernel)) xn_S0
theorem xok_S0 {ro : Nat} {B : Base} : XOk Try.prog ro B xS0 := orX_ok xBits_ok (orX_ok xFrom_ok extB_ok)
theorem xok_S1 {ro : Nat} {B : Base} : XOk Try.prog ro B (xS1 ro) := orX_ok (xPl_ok xok_S0) xok_S0
theorem XDW.of (hX : XN X) (hF : X 259 = some (ext1 fFrom)) : XDW X := ⟨hX _ rfl, hX _ rfl, hX _ rfl, hX _ rfl, hX _ rfl, hX _ rfl, hX _ rfl, hX _ rfl, hX _ rfl, hX _ rfl, hF⟩
end Go.Proofs.Ytelogajobjflfaa.Sim

/- Seeds, symbols and noise, walked. Lemmas only; no condition. -/
set_option linter.unusedSimpArgs false
set_option linter.unusedVariables false
set_option maxRecDepth 8000
namespace Go.Proofs.Ytelogajobjflfaa.Sim.Fl
open Ieee Go
/-- A sum with zero. -/
theorem add_zero_fin {k : FloatKind} {a b : Nat} {v : Int} (ha : fin k a v) (hb : fin k b 0) : fin k (farith .add k a b) v ∧ fin k (farith .add k b a) v := by
  obtain ⟨s, m, e, d, hv⟩ := id ha
  obtain ⟨hm, e', he, hl⟩ := read_mag d
  have : e' = e := by omega
  subst this
  have habs : (sg s m).natAbs = m := sg_abs s m
  have hT : m * 2 ^ e' < 2 ^ top k := by
    refine Nat.lt_of_lt_of_le (Nat.mul_lt_mul_of_pos_right hm (Nat.two_pow_pos _)) ?_
    rw [← Nat.pow_add]
    refine Nat.pow_le_pow_right (by decide) ?_
    cases k
    · have h1 : FloatKind.f32.format.exponentBits = 8 := rfl
      have h2 : top .f32 = 277 := rfl
      have h3 : dig .f32 = 24 := rfl
      rw [h1] at hl
      omega
    · have h1 : FloatKind.f64.format.exponentBits = 11 := rfl
      have h2 : top .f64 = 2098 := rfl
      have h3 : dig .f64 = 53 := rfl
      rw [h1] at hl
      omega
  have hb' : fin k b (0 * 2 ^ e') := by rw [Int.zero_mul]; exact hb
  rw [hv] at ha ⊢
  refine ⟨?_, ?_⟩
  · have := add_fx ha hb' (by rw [Int.add_zero, habs]; exact hm) (by rw [Int.add_zero, habs]; exact hT)
    rwa [Int.add_zero] at this
  · have := add_fx hb' ha (by rw [Int.zero_add, habs]; exact hm) (by rw [Int.zero_add, habs]; exact hT)
    rwa [Int.zero_add] at this
end Go.Proofs.Ytelogajobjflfaa.Sim.Fl
namespace Go.Proofs.Ytelogajobjflfaa.Sim
open Go Go.RowKit Fl
variable {ro n : Nat} {X : Ext} {h : Heap} {x y : Value} {l : List Int}
def nxN (s : Nat) : Nat := (1103515245 * s + 12345) % 2147483648
def drN (seed n : Nat) : Nat := nxN (nxN ((seed + 40503 * n) % 2147483648)) / 65536
theorem nxN_lt (s : Nat) : nxN s < 2147483648 := Nat.mod_lt _ (by decide)
theorem drN_lt (s n : Nat) : drN s n < 32768 := by
  have := nxN_lt (nxN ((s + 40503 * n) % 2147483648))
  unfold drN
  omega
theorem tm_cast {z : Int} {a b : Nat} (h : z = (a : Int)) : z.tmod (b : Int) = ((a % b : Nat) : Int) := by subst h; rfl
theorem td_cast {z : Int} {a b : Nat} (h : z = (a : Int)) : z.tdiv (b : Int) = ((a / b : Nat) : Int) := by subst h; rfl
theorem nextSeed_r (hX : XN X) {s : Nat} (hs : s ≤ 2147483647) (h : Heap) : Ret Try.prog ro X 164 [.int .i64 s] h (.int .i64 (nxN s : Nat)) := by
  have hm : (1103515245 * (s : Int) + 12345).tmod 2147483648 = ((nxN s : Nat) : Int) := tm_cast (b := 2147483648) (by omega)
  have hl := nxN_lt s
  refine ret_of (callR_of (hX _ rfl) Try.func164 rfl (by kernel_rfl) (Nat.le_of_ble_eq_true rfl) ?_)
  (repeat' first | simp -dsimp (disch := first | omega | assumption | (refine OkS.sto ?_ (by omega); first | assumption | (refine OkS.sto ?_ (by omega); first | assumption | (refine OkS.sto ?_ (by omega); first | assumption | (refine OkS.sto ?_ (by omega); first | assumption | (refine OkS.sto ?_ (by omega); first | assumption | (refine OkS.sto ?_ (by omega); first | assumption)))))) | exact Pfx.refl _ | (apply Pfx.snoc; repeat (first | exact Pfx.refl _ | assumption | apply Pfx.snoc)) | with_unfolding_all exact of_eq_true (eq_true rfl) | (simp only [List.length_append, List.length_cons, List.length_nil]; omega)) only [↓wpre0, ↓wpre1, ↓reduceIte, Int.reduceToNat, Nat.reduceAdd, Nat.reduceMul, Nat.reduceEqDiff, wpost0, wpost1, wpost2, wpost3, wpost4, ite_self, ite_true, ite_false, if_true, if_false, bin_mul, bin_add, bin_rem, fr164, wrap_int, wrap_u8, iteP_yes, iteP_no, bin_rem, hm] | refine iteP_two (fun hc hd => ?_) (fun hc hd => ?_) | refine iteP_intro (fun hc => ?_) (fun hc => ?_))
theorem draw_r (hX : XN X) {s k : Nat} (hs : s ≤ 2147483647) (hk : k ≤ 1000000000) (h : Heap) : Ret Try.prog ro X 217 [.int .i64 s, .int .i64 k] h (.int .i64 (drN s k : Nat)) := by
  have hm : ((s : Int) + 40503 * (k : Int)).tmod 2147483648 = (((s + 40503 * k) % 2147483648 : Nat) : Int) := tm_cast (b := 2147483648) (by omega)
  have l0 : (s + 40503 * k) % 2147483648 ≤ 2147483647 := by omega
  have l1 := nxN_lt ((s + 40503 * k) % 2147483648)
  have l2 := nxN_lt (nxN ((s + 40503 * k) % 2147483648))
  have r1 := nextSeed_r (ro := ro) hX l0 h
  have r2 := nextSeed_r (ro := ro) hX (show nxN ((s + 40503 * k) % 2147483648) ≤ 2147483647 by omega) h
  have hd : ((nxN (nxN ((s + 40503 * k) % 2147483648)) : Nat) : Int).tdiv 65536 = ((drN s k : Nat) : Int) := td_cast (b := 65536) rfl
  have l3 := drN_lt s k
  generalize (s + 40503 * k) % 2147483648 = a at *
  generalize nxN a = b at *
  generalize nxN b = c at *
  refine ret_of (callR_of (hX _ rfl) Try.func217 rfl (by kernel_rfl) (Nat.le_of_ble_eq_true rfl) ?_)
  (repeat' first | simp -dsimp (disch := first | omega | assumption | (refine OkS.sto ?_ (by omega); first | assumption | (refine OkS.sto ?_ (by omega); first | assumption | (refine OkS.sto ?_ (by omega); first | assumption | (refine OkS.sto ?_ (by omega); first | assumption | (refine OkS.sto ?_ (by omega); first | assumption | (refine OkS.sto ?_ (by omega); first | assumption)))))) | exact Pfx.refl _ | (apply Pfx.snoc; repeat (first | exact Pfx.refl _ | assumption | apply Pfx.snoc)) | with_unfolding_all exact of_eq_true (eq_true rfl) | (simp only [List.length_append, List.length_cons, List.length_nil]; omega)) only [↓wpre0, ↓wpre1, ↓reduceIte, Int.reduceToNat, Nat.reduceAdd, Nat.reduceMul, Nat.reduceEqDiff, wpost0, wpost1, wpost2, wpost3, wpost4, ite_self, ite_true, ite_false, if_true, if_false, bin_mul, bin_add, bin_rem, bin_quo, fr217, wrap_int, wrap_u8, iteP_yes, iteP_no, bin_rem, bin_quo, hm, r1, r2, hd] | refine iteP_two (fun hc hd => ?_) (fun hc hd => ?_) | refine iteP_intro (fun hc => ?_) (fun hc => ?_))
def hfB (k : Nat) : Nat := if k % 2 = 1 then 3204448256 else 1056964608
theorem half_r (hX : XN X) (k : Nat) (h : Heap) : Ret Try.prog ro X 218 [.int .i64 k] h (.float .f32 (hfB k)) := by
  have hm : ((k : Int)).tmod 2 = ((k % 2 : Nat) : Int) := tm_cast (b := 2) rfl
  have h2 : k % 2 < 2 := Nat.mod_lt _ (by decide)
  refine ret_of (callR_of (hX _ rfl) Try.func218 rfl (by kernel_rfl) (Nat.le_of_ble_eq_true rfl) ?_)
  rcases (show k % 2 = 0 ∨ k % 2 = 1 by omega) with q | q
  · have e : hfB k = 1056964608 := by unfold hfB; rw [if_neg (by omega)]
    rw [e]
    rw [q] at hm
    (repeat' first | simp -dsimp (disch := first | omega | assumption | (refine OkS.sto ?_ (by omega); first | assumption | (refine OkS.sto ?_ (by omega); first | assumption | (refine OkS.sto ?_ (by omega); first | assumption | (refine OkS.sto ?_ (by omega); first | assumption | (refine OkS.sto ?_ (by omega); first | assumption | (refine OkS.sto ?_ (by omega); first | assumption)))))) | exact Pfx.refl _ | (apply Pfx.snoc; repeat (first | exact Pfx.refl _ | assumption | apply Pfx.snoc)) | with_unfolding_all exact of_eq_true (eq_true rfl) | (simp only [List.length_append, List.length_cons, List.length_nil]; omega)) only [↓wpre0, ↓wpre1, ↓reduceIte, Int.reduceToNat, Nat.reduceAdd, Nat.reduceMul, Nat.reduceEqDiff, wpost0, wpost1, wpost2, wpost3, wpost4, ite_self, ite_true, ite_false, if_true, if_false, bin_rem, bin_eql, fr218, wrap_int, wrap_u8, iteP_yes, iteP_no, bin_rem, hm] | refine iteP_two (fun hc hd => ?_) (fun hc hd => ?_) | refine iteP_intro (fun hc => ?_) (fun hc => ?_))
  · have e : hfB k = 3204448256 := by unfold hfB; rw [if_pos q]
    rw [e]
    rw [q] at hm
    (repeat' first | simp -dsimp (disch := first | omega | assumption | (refine OkS.sto ?_ (by omega); first | assumption | (refine OkS.sto ?_ (by omega); first | assumption | (refine OkS.sto ?_ (by omega); first | assumption | (refine OkS.sto ?_ (by omega); first | assumption | (refine OkS.sto ?_ (by omega); first | assumption | (refine OkS.sto ?_ (by omega); first | assumption)))))) | exact Pfx.refl _ | (apply Pfx.snoc; repeat (first | exact Pfx.refl _ | assumption | apply Pfx.snoc)) | with_unfolding_all exact of_eq_true (eq_true rfl) | (simp only [List.length_append, List.length_cons, List.length_nil]; omega)) only [↓wpre0, ↓wpre1, ↓reduceIte, Int.reduceToNat, Nat.reduceAdd, Nat.reduceMul, Nat.reduceEqDiff, wpost0, wpost1, wpost2, wpost3, wpost4, ite_self, ite_true, ite_false, if_true, if_false, bin_rem, bin_eql, fr218, wrap_int, wrap_u8, iteP_yes, iteP_no, bin_rem, hm] | refine iteP_two (fun hc hd => ?_) (fun hc hd => ?_) | refine iteP_intro (fun hc => ?_) (fun hc => ?_))
def syF (s k : Nat) : CB := ⟨hfB (drN s (2 * k) / 16384), hfB (drN s (2 * k) / 8192)⟩
theorem symbol_r (hX : XN X) {s k : Nat} (hs : s ≤ 2147483647) (hk : k ≤ 1000000) (h : Heap) : Ret Try.prog ro X 161 [.int .i64 s, .int .i64 k] h (toV (syF s k)) := by
  have r1 := draw_r (ro := ro) hX hs (show 2 * k ≤ 1000000000 by omega) h
  have l1 := drN_lt s (2 * k)
  have e2 : (2 : Int) * (k : Int) = ((2 * k : Nat) : Int) := by omega
  have d1 : ((drN s (2 * k) : Nat) : Int).tdiv 16384 = ((drN s (2 * k) / 16384 : Nat) : Int) := td_cast (b := 16384) rfl
  have d2 : ((drN s (2 * k) : Nat) : Int).tdiv 8192 = ((drN s (2 * k) / 8192 : Nat) : Int) := td_cast (b := 8192) rfl
  have eS : syF s k = ⟨hfB (drN s (2 * k) / 16384), hfB (drN s (2 * k) / 8192)⟩ := rfl
  rw [eS]
  generalize drN s (2 * k) = d at *
  have r2 := half_r (ro := ro) hX (d / 16384) h
  have r3 := half_r (ro := ro) hX (d / 8192) h
  have l2 : d / 16384 ≤ 1 := by omega
  have l3 : d / 8192 ≤ 3 := by omega
  generalize d / 16384 = a at *
  generalize d / 8192 = b at *
  refine ret_of (callR_of (hX _ rfl) Try.func161 rfl (by kernel_rfl) (Nat.le_of_ble_eq_true rfl) ?_)
  (repeat' first | simp -dsimp (disch := first | omega | assumption | (refine OkS.sto ?_ (by omega); first | assumption | (refine OkS.sto ?_ (by omega); first | assumption | (refine OkS.sto ?_ (by omega); first | assumption | (refine OkS.sto ?_ (by omega); first | assumption | (refine OkS.sto ?_ (by omega); first | assumption | (refine OkS.sto ?_ (by omega); first | assumption)))))) | exact Pfx.refl _ | (apply Pfx.snoc; repeat (first | exact Pfx.refl _ | assumption | apply Pfx.snoc)) | with_unfolding_all exact of_eq_true (eq_true rfl) | (simp only [List.length_append, List.length_cons, List.length_nil]; omega)) only [↓wpre0, ↓wpre1, ↓reduceIte, Int.reduceToNat, Nat.reduceAdd, Nat.reduceMul, Nat.reduceEqDiff, wpost0, wpost1, wpost2, wpost3, wpost4, ite_self, ite_true, ite_false, if_true, if_false, bin_mul, bin_quo, blt_cpx, fr161, wrap_int, wrap_u8, iteP_yes, iteP_no, e2, r1, bin_quo, d1, d2, r2, r3] | refine iteP_two (fun hc hd => ?_) (fun hc hd => ?_) | refine iteP_intro (fun hc => ?_) (fun hc => ?_))
theorem isSeed_r (hX : XN X) {s : Nat} (hs : s ≤ 2147483647) (h : Heap) : Ret Try.prog ro X 160 [.int .i64 s] h (.bool true) := by
  have e : (decide ((0 : Int) ≤ (s : Int)) && decide ((s : Int) ≤ 2147483647)) = true := by simp; omega
  refine ret_of (callR_of (hX _ rfl) Try.func160 rfl (by kernel_rfl) (Nat.le_of_ble_eq_true rfl) ?_)
  (repeat' first | simp -dsimp (disch := first | omega | assumption | (refine OkS.sto ?_ (by omega); first | assumption | (refine OkS.sto ?_ (by omega); first | assumption | (refine OkS.sto ?_ (by omega); first | assumption | (refine OkS.sto ?_ (by omega); first | assumption | (refine OkS.sto ?_ (by omega); first | assumption | (refine OkS.sto ?_ (by omega); first | assumption)))))) | exact Pfx.refl _ | (apply Pfx.snoc; repeat (first | exact Pfx.refl _ | assumption | apply Pfx.snoc)) | with_unfolding_all exact of_eq_true (eq_true rfl) | (simp only [List.length_append, List.length_cons, List.length_nil]; omega)) only [↓wpre0, ↓wpre1, ↓reduceIte, Int.reduceToNat, Nat.reduceAdd, Nat.reduceMul, Nat.reduceEqDiff, wpost0, wpost1, wpost2, wpost3, wpost4, ite_self, ite_true, ite_false, if_true, if_false, fr160, wrap_int, wrap_u8, iteP_yes, iteP_no, wit_r hX, e] | refine iteP_two (fun hc hd => ?_) (fun hc hd => ?_) | refine iteP_intro (fun hc => ?_) (fun hc => ?_))
theorem isIndex_r (hX : XN X) {s : Nat} (hs : s ≤ 1000000) (h : Heap) : Ret Try.prog ro X 139 [.int .i64 s] h (.bool true) := by
  have e : (decide ((0 : Int) ≤ (s : Int)) && decide ((s : Int) ≤ 1000000)) = true := by simp; omega
  refine ret_of (callR_of (hX _ rfl) Try.func139 rfl (by kernel_rfl) (Nat.le_of_ble_eq_true rfl) ?_)
  (repeat' first | simp -dsimp (disch := first | omega | assumption | (refine OkS.sto ?_ (by omega); first | assumption | (refine OkS.sto ?_ (by omega); first | assumption | (refine OkS.sto ?_ (by omega); first | assumption | (refine OkS.sto ?_ (by omega); first | assumption | (refine OkS.sto ?_ (by omega); first | assumption | (refine OkS.sto ?_ (by omega); first | assumption)))))) | exact Pfx.refl _ | (apply Pfx.snoc; repeat (first | exact Pfx.refl _ | assumption | apply Pfx.snoc)) | with_unfolding_all exact of_eq_true (eq_true rfl) | (simp only [List.length_append, List.length_cons, List.length_nil]; omega)) only [↓wpre0, ↓wpre1, ↓reduceIte, Int.reduceToNat, Nat.reduceAdd, Nat.reduceMul, Nat.reduceEqDiff, wpost0, wpost1, wpost2, wpost3, wpost4, ite_self, ite_true, ite_false, if_true, if_false, fr139, wrap_int, wrap_u8, iteP_yes, iteP_no, wit_r hX, e] | refine iteP_two (fun hc hd => ?_) (fun hc hd => ?_) | refine iteP_intro (fun hc => ?_) (fun hc => ?_))
theorem SymbolOf_r (hX : XN X) {s k : Nat} (hs : s ≤ 2147483647) (hk : k ≤ 1000000) (h : Heap) : Ret Try.prog ro X 72 [.int .i64 s, .int .i64 k] h (.tuple ⟨[toV (syF s k), .bool true]⟩) := by
  refine ret_of (callR_of (hX _ rfl) Try.func72 rfl (by kernel_rfl) (Nat.le_of_ble_eq_true rfl) ?_)
  (repeat' first | simp -dsimp (disch := first | omega | assumption | (refine OkS.sto ?_ (by omega); first | assumption | (refine OkS.sto ?_ (by omega); first | assumption | (refine OkS.sto ?_ (by omega); first | assumption | (refine OkS.sto ?_ (by omega); first | assumption | (refine OkS.sto ?_ (by omega); first | assumption | (refine OkS.sto ?_ (by omega); first | assumption)))))) | exact Pfx.refl _ | (apply Pfx.snoc; repeat (first | exact Pfx.refl _ | assumption | apply Pfx.snoc)) | with_unfolding_all exact of_eq_true (eq_true rfl) | (simp only [List.length_append, List.length_cons, List.length_nil]; omega)) only [↓wpre0, ↓wpre1, ↓reduceIte, Int.reduceToNat, Nat.reduceAdd, Nat.reduceMul, Nat.reduceEqDiff, wpost0, wpost1, wpost2, wpost3, wpost4, ite_self, ite_true, ite_false, if_true, if_false, un_not, fr72, wrap_int, wrap_u8, iteP_yes, iteP_no, isSeed_r hX hs, isIndex_r hX hk, symbol_r hX hs hk] | refine iteP_two (fun hc hd => ?_) (fun hc hd => ?_) | refine iteP_intro (fun hc => ?_) (fun hc => ?_))
theorem NextSeed_r (hX : XN X) {s : Nat} (hs : s ≤ 2147483647) (h : Heap) : Ret Try.prog ro X 76 [.int .i64 s] h (.tuple ⟨[.int .i64 (nxN s : Nat), .bool true]⟩) := by
  refine ret_of (callR_of (hX _ rfl) Try.func76 rfl (by kernel_rfl) (Nat.le_of_ble_eq_true rfl) ?_)
  (repeat' first | simp -dsimp (disch := first | omega | assumption | (refine OkS.sto ?_ (by omega); first | assumption | (refine OkS.sto ?_ (by omega); first | assumption | (refine OkS.sto ?_ (by omega); first | assumption | (refine OkS.sto ?_ (by omega); first | assumption | (refine OkS.sto ?_ (by omega); first | assumption | (refine OkS.sto ?_ (by omega); first | assumption)))))) | exact Pfx.refl _ | (apply Pfx.snoc; repeat (first | exact Pfx.refl _ | assumption | apply Pfx.snoc)) | with_unfolding_all exact of_eq_true (eq_true rfl) | (simp only [List.length_append, List.length_cons, List.length_nil]; omega)) only [↓wpre0, ↓wpre1, ↓reduceIte, Int.reduceToNat, Nat.reduceAdd, Nat.reduceMul, Nat.reduceEqDiff, wpost0, wpost1, wpost2, wpost3, wpost4, ite_self, ite_true, ite_false, if_true, if_false, un_not, fr76, wrap_int, wrap_u8, iteP_yes, iteP_no, isSeed_r hX hs, nextSeed_r hX hs] | refine iteP_two (fun hc hd => ?_) (fun hc hd => ?_) | refine iteP_intro (fun hc => ?_) (fun hc => ?_))
def scB (u : CB) (b : Nat) : CB := ⟨farith .mul .f32 u.a b, farith .mul .f32 u.b b⟩
theorem Scale_r (hX : XN X) (u : CB) (b : Nat) (h : Heap) : Ret Try.prog ro X 80 [toV u, .float .f32 b] h (toV (scB u b)) := by
  refine ret_of (callR_of (hX _ rfl) Try.func80 rfl (by kernel_rfl) (Nat.le_of_ble_eq_true rfl) ?_)
  (repeat' first | simp -dsimp (disch := first | omega | assumption | (refine OkS.sto ?_ (by omega); first | assumption | (refine OkS.sto ?_ (by omega); first | assumption | (refine OkS.sto ?_ (by omega); first | assumption | (refine OkS.sto ?_ (by omega); first | assumption | (refine OkS.sto ?_ (by omega); first | assumption | (refine OkS.sto ?_ (by omega); first | assumption)))))) | exact Pfx.refl _ | (apply Pfx.snoc; repeat (first | exact Pfx.refl _ | assumption | apply Pfx.snoc)) | with_unfolding_all exact of_eq_true (eq_true rfl) | (simp only [List.length_append, List.length_cons, List.length_nil]; omega)) only [↓wpre0, ↓wpre1, ↓reduceIte, Int.reduceToNat, Nat.reduceAdd, Nat.reduceMul, Nat.reduceEqDiff, wpost0, wpost1, wpost2, wpost3, wpost4, ite_self, ite_true, ite_false, if_true, if_false, blt_real, bin_fmul, blt_imag, blt_cpx, fr80, wrap_int, wrap_u8, iteP_yes, iteP_no] | refine iteP_two (fun hc hd => ?_) (fun hc hd => ?_) | refine iteP_intro (fun hc => ?_) (fun hc => ?_))
  rfl
/-- A part of noise. -/
def paF (d : Nat) : Nat := farith .quo .f32 (farith .sub .f32 (cf .f32 (FloatKind.f32.nearest (d : Int))) 1182793728) 1182793728
theorem part_r (hX : XN X) {b s k : Nat} (hs : s ≤ 2147483647) (hk : k ≤ 1000000000) (hc : cell h b 0 = some (.int .i64 s)) : Ret Try.prog ro X 219 [.int .i64 k, .pointer (some ⟨b, 0, none⟩)] h (.float .f32 (paF (drN s k))) := by
  refine ret_of (callR_of (hX _ rfl) Try.func219 rfl (by kernel_rfl) (Nat.le_of_ble_eq_true rfl) ?_)
  (repeat' first | simp -dsimp (disch := first | omega | assumption | (refine OkS.sto ?_ (by omega); first | assumption | (refine OkS.sto ?_ (by omega); first | assumption | (refine OkS.sto ?_ (by omega); first | assumption | (refine OkS.sto ?_ (by omega); first | assumption | (refine OkS.sto ?_ (by omega); first | assumption | (refine OkS.sto ?_ (by omega); first | assumption)))))) | exact Pfx.refl _ | (apply Pfx.snoc; repeat (first | exact Pfx.refl _ | assumption | apply Pfx.snoc)) | with_unfolding_all exact of_eq_true (eq_true rfl) | (simp only [List.length_append, List.length_cons, List.length_nil]; omega)) only [↓wpre0, ↓wpre1, ↓reduceIte, Int.reduceToNat, Nat.reduceAdd, Nat.reduceMul, Nat.reduceEqDiff, wpost0, wpost1, wpost2, wpost3, wpost4, ite_self, ite_true, ite_false, if_true, if_false, xld2, xcv2_29, bin_fsub, bin_fquo, fr219, wrap_int, wrap_u8, iteP_yes, iteP_no, hc, draw_r hX hs hk, conv_if Try.underlying2 Try.underlying29] | refine iteP_two (fun hc hd => ?_) (fun hc hd => ?_) | refine iteP_intro (fun hc => ?_) (fun hc => ?_))
  rfl
def nzI (k i : Nat) : Nat := 16 * k + i + 1000000
def nzF (s k i lev : Nat) : CB := scB ⟨paF (drN s (2 * nzI k i)), paF (drN s (2 * nzI k i + 1))⟩ lev
theorem noise_r (hX : XN X) {s k i lev : Nat} (hs : s ≤ 2147483647) (hk : k ≤ 1000000) (hi : i ≤ 15) (h : Heap) : Ret Try.prog ro X 165 [.int .i64 s, .int .i64 k, .int .i64 i, .float .f32 lev] h (toV (nzF s k i lev)) := by
  have hb : boxV h 2 (.int .i64 s) = some (.pointer (some ⟨h.length, 0, none⟩), h ++ [⟨2, [.int .i64 s]⟩]) := box_go rfl
  have p0 : Pfx h (h ++ [(⟨2, [.int .i64 s]⟩ : Blk)]) := (Pfx.refl h).snoc
  have c0 : cell (h ++ [(⟨2, [.int .i64 s]⟩ : Blk)]) h.length 0 = some (.int .i64 s) := cell_last rfl
  have hn : nzI k i ≤ 18000000 := by unfold nzI; omega
  have e1 : (16 : Int) * (k : Int) + (i : Int) + 1000000 = ((nzI k i : Nat) : Int) := by unfold nzI; omega
  have e2 : (2 : Int) * ((nzI k i : Nat) : Int) = ((2 * nzI k i : Nat) : Int) := by omega
  have e3 : ((2 * nzI k i : Nat) : Int) + 1 = ((2 * nzI k i + 1 : Nat) : Int) := by omega
  have r1 := part_r (ro := ro) (k := 2 * nzI k i) hX hs (by omega) c0
  have r2 := part_r (ro := ro) (k := 2 * nzI k i + 1) hX hs (by omega) c0
  have ef : ∀ a b, endH (.complex .f32 a b) h (h ++ [(⟨2, [.int .i64 s]⟩ : Blk)]) = h := fun a b => endH_flat rfl p0
  have eN : nzF s k i lev = scB ⟨paF (drN s (2 * nzI k i)), paF (drN s (2 * nzI k i + 1))⟩ lev := rfl
  rw [eN]
  generalize nzI k i = N at *
  have r3 : ∀ H, Ret Try.prog ro X 80 [.complex .f32 (paF (drN s (2 * N))) (paF (drN s (2 * N + 1))), .float .f32 lev] H (toV (scB ⟨paF (drN s (2 * N)), paF (drN s (2 * N + 1))⟩ lev)) := fun H => Scale_r hX ⟨paF (drN s (2 * N)), paF (drN s (2 * N + 1))⟩ lev H
  refine ret_of (callR_of (hX _ rfl) Try.func165 rfl (by kernel_rfl) (Nat.le_of_ble_eq_true rfl) ?_)
  (repeat' first | simp -dsimp (disch := first | omega | assumption | (refine OkS.sto ?_ (by omega); first | assumption | (refine OkS.sto ?_ (by omega); first | assumption | (refine OkS.sto ?_ (by omega); first | assumption | (refine OkS.sto ?_ (by omega); first | assumption | (refine OkS.sto ?_ (by omega); first | assumption | (refine OkS.sto ?_ (by omega); first | assumption)))))) | exact Pfx.refl _ | (apply Pfx.snoc; repeat (first | exact Pfx.refl _ | assumption | apply Pfx.snoc)) | with_unfolding_all exact of_eq_true (eq_true rfl) | (simp only [List.length_append, List.length_cons, List.length_nil]; omega)) only [↓wpre0, ↓wpre1, ↓reduceIte, Int.reduceToNat, Nat.reduceAdd, Nat.reduceMul, Nat.reduceEqDiff, wpost0, wpost1, wpost2, wpost3, wpost4, ite_self, ite_true, ite_false, if_true, if_false, bin_mul, bin_add, blt_cpx, fr165, wrap_int, wrap_u8, iteP_yes, iteP_no, hb, e1, e2, e3, r1, r2, r3, ef] | refine iteP_two (fun hc hd => ?_) (fun hc hd => ?_) | refine iteP_intro (fun hc => ?_) (fun hc => ?_))
theorem NoiseOf_r (hX : XN X) {s k i lev : Nat} (hs : s ≤ 2147483647) (hk : k ≤ 1000000) (hi : i ≤ 15) (h : Heap) : Ret Try.prog ro X 78 [.int .i64 s, .int .i64 k, .int .i64 i, .float .f32 lev] h (.tuple ⟨[toV (nzF s k i lev), .bool true]⟩) := by
  have e : (decide ((0 : Int) ≤ (i : Int)) && decide ((i : Int) ≤ 15)) = true := by simp; omega
  refine ret_of (callR_of (hX _ rfl) Try.func78 rfl (by kernel_rfl) (Nat.le_of_ble_eq_true rfl) ?_)
  (repeat' first | simp -dsimp (disch := first | omega | assumption | (refine OkS.sto ?_ (by omega); first | assumption | (refine OkS.sto ?_ (by omega); first | assumption | (refine OkS.sto ?_ (by omega); first | assumption | (refine OkS.sto ?_ (by omega); first | assumption | (refine OkS.sto ?_ (by omega); first | assumption | (refine OkS.sto ?_ (by omega); first | assumption)))))) | exact Pfx.refl _ | (apply Pfx.snoc; repeat (first | exact Pfx.refl _ | assumption | apply Pfx.snoc)) | with_unfolding_all exact of_eq_true (eq_true rfl) | (simp only [List.length_append, List.length_cons, List.length_nil]; omega)) only [↓wpre0, ↓wpre1, ↓reduceIte, Int.reduceToNat, Nat.reduceAdd, Nat.reduceMul, Nat.reduceEqDiff, wpost0, wpost1, wpost2, wpost3, wpost4, ite_self, ite_true, ite_false, if_true, if_false, un_not, fr78, wrap_int, wrap_u8, iteP_yes, iteP_no, isSeed_r hX hs, isIndex_r hX hk, wit_r hX, e, noise_r hX hs hk hi] | refine iteP_two (fun hc hd => ?_) (fun hc hd => ?_) | refine iteP_intro (fun hc => ?_) (fun hc => ?_))
/-! ### What they are worth -/
theorem paF_fin {d : Nat} (hd : d < 32768) : Fl.fin .f32 (paF d) (((d : Int) - 16384) * 2 ^ 135) := by
  have e24 : (2 : Nat) ^ 24 = 16777216 := by decide
  have hn := nearest_fx .f32 (n := (d : Int)) (show (d : Int).natAbs < 2 ^ 24 by rw [e24]; omega)
  rw [show (-lp .f32).toNat = 149 by decide] at hn
  have hl : Fl.fin .f32 1182793728 (((16384 : Nat) : Int) * 2 ^ 149) := lit_fin (m := 2 ^ 23) (e := 140) (by decide +kernel) (by decide +kernel)
  have hs : ((d : Int) - ((16384 : Nat) : Int)).natAbs < 2 ^ 24 := by rw [e24]; omega
  have h1 := sub_fx hn hl hs (small_pow hs (by decide))
  exact quo_fx h1 (d := 23) (e2 := 140) (by decide +kernel) (by decide) (by decide) hs (small_pow hs (by decide))
theorem quart_fin : Fl.fin .f32 1048576000 (((1 : Nat) : Int) * 2 ^ 147) := lit_fin (m := 2 ^ 23) (e := 124) (by decide +kernel) (by decide +kernel)
theorem nquart_fin : Fl.fin .f32 3196059648 ((-16384) * 2 ^ 133) := ⟨true, 2 ^ 23, 124, by decide +kernel, by decide +kernel⟩
theorem paq_fin {d : Nat} (hd : d < 32768) : Fl.fin .f32 (farith .mul .f32 (paF d) 1048576000) (((d : Int) - 16384) * 2 ^ 133) := by
  have e24 : (2 : Nat) ^ 24 = 16777216 := by decide
  have hs : (((d : Int) - 16384) * ((1 : Nat) : Int)).natAbs < 2 ^ 24 := by rw [e24]; omega
  have := mul_fx (paF_fin hd) quart_fin (t := 133) (by decide) hs (small_pow hs (by decide))
  have e : ((d : Int) - 16384) * ((1 : Nat) : Int) = (d : Int) - 16384 := by omega
  rw [e] at this
  exact this
theorem paz_fin {d : Nat} (hd : d < 32768) : Fl.fin .f32 (farith .mul .f32 (paF d) 0) 0 := by
  have hz : Fl.fin .f32 0 (0 * 2 ^ 149) := by rw [Int.zero_mul]; exact zero_fin
  have := mul_fx (paF_fin hd) hz (t := 135) (by decide) (by rw [Int.mul_zero]; decide) (by rw [Int.mul_zero]; exact small_pow (n := 0) (t := 135) (by decide) (by decide))
  rw [Int.mul_zero, Int.zero_mul] at this
  exact this
/-- What the law asks of a part of noise. -/
theorem paq_cmp {d : Nat} (hd : d < 32768) : fcmp .lss .f32 1048576000 (farith .mul .f32 (paF d) 1048576000) = false ∧ fcmp .lss .f32 (farith .mul .f32 (paF d) 1048576000) 3196059648 = false := by
  have q : Fl.fin .f32 1048576000 (16384 * 2 ^ 133) := by
    have := quart_fin
    have e : ((1 : Nat) : Int) * 2 ^ 147 = 16384 * 2 ^ 133 := by
      rw [show (16384 : Int) = 2 ^ 14 by decide, ← Int.pow_add]
      exact Int.one_mul _
    rw [e] at this
    exact this
  refine ⟨?_, ?_⟩
  · rw [cmp_lt q (paq_fin hd)]
    exact decide_eq_false fun g => by have := u_lt.1 g; omega
  · rw [cmp_lt (paq_fin hd) nquart_fin]
    exact decide_eq_false fun g => by have := u_lt.1 g; omega
theorem paq_bd {d : Nat} (hd : d < 32768) : bd .f32 147 (farith .mul .f32 (paF d) 1048576000) := (paq_fin hd).bd (by
  rw [abs_mul_pow, pow_cut (show 147 = 14 + 133 from rfl)]
  exact Nat.mul_le_mul_right _ (by omega))
theorem nzq_bd (s k i : Nat) : bdC 147 (nzF s k i 1048576000) := ⟨paq_bd (drN_lt _ _), paq_bd (drN_lt _ _)⟩
theorem hfB_or (k : Nat) : hfB k = 3204448256 ∨ hfB k = 1056964608 := by
  unfold hfB
  split
  · exact .inl rfl
  · exact .inr rfl
theorem half_bd (k : Nat) : bd .f32 148 (hfB k) := by
  rcases hfB_or k with q | q <;> rw [q]
  · exact Fl.fin.bd (v := (-1) * 2 ^ 148) ⟨true, 2 ^ 23, 125, by decide +kernel, by decide +kernel⟩ (by rw [abs_mul_pow]; simp)
  · exact Fl.fin.bd (v := 1 * 2 ^ 148) ⟨false, 2 ^ 23, 125, by decide +kernel, by decide +kernel⟩ (by rw [abs_mul_pow]; simp)
theorem syF_bd (s k : Nat) : bdC 148 (syF s k) := ⟨half_bd _, half_bd _⟩
end Go.Proofs.Ytelogajobjflfaa.Sim

/- Snapshots, walked. Lemmas only; no condition. -/
set_option linter.unusedSimpArgs false
set_option linter.unusedVariables false
set_option maxRecDepth 8000
namespace Go.Proofs.Ytelogajobjflfaa.Sim
open Go Go.RowKit Fl
variable {ro lo hi lo' hi' n : Nat} {X : Ext} {h : Heap} {x y : Value} {l : List Int} {u v : Int} {g s0 s k lev : Nat}
/-- A row that is changed up to a place. -/
def mixF (A B : Nat → CB) (i q : Nat) : CB := if q < i then A q else B q
theorem rowV_mix {A B : Nat → CB} {i : Nat} (hi : i < n) : (rowV n (mixF A B i)).set i (toV (A i)) = rowV n (mixF A B (i + 1)) := by
  refine List.ext_getElem (by simp [rowV]) fun j h1 h2 => ?_
  simp only [rowV, List.getElem_set, List.getElem_map, List.getElem_range, mixF]
  by_cases e : i = j
  · subst e
    rw [if_pos rfl, if_pos (by omega)]
  · rw [if_neg e]
    by_cases q : j < i
    · rw [if_pos q, if_pos (by omega)]
    · rw [if_neg q, if_neg (by omega)]
theorem mix_at {A B : Nat → CB} {i : Nat} : mixF A B i i = B i := if_neg (Nat.lt_irrefl i)
theorem mix_zero {A B : Nat → CB} : rowV n (mixF A B 0) = rowV n B := rowV_congr fun i _ => if_neg (Nat.not_lt_zero i)
theorem mix_end {A B : Nat → CB} : rowV n (mixF A B n) = rowV n A := rowV_congr fun i hi => if_pos hi
theorem mk_cpx (h : Heap) (hn : n ≤ 1000) : mk Try.prog h 44 (.int .i64 n) (.int .i64 n) = some (.slice (some ⟨h.length, 0, none⟩) n n, h ++ [⟨46, rowV n (fun _ => zeroB)⟩]) := by
  have e : ∀ m, (List.replicate m [Value.complex .f32 0 0]).flatten = rowV m (fun _ => zeroB) := by
    intro m
    induction m with
    | zero => rfl
    | succ m ih =>
      rw [List.replicate_succ', List.flatten_append, ih, rowV_succ]
      rfl
  simp only [mk, tel44, tsz46, tby46, tze46, Option.bind_some]
  rw [if_pos ⟨by omega, trivial, by omega, by omega, by decide⟩, Int.toNat_natCast]
  congr 4
  exact congrArg (Blk.mk _) (e n)
/-- What an element receives, but for noise. -/
def snM (l : List Int) (u v : Int) (g s0 k : Nat) (i : Nat) : CB := mulB (scB (syF s0 k) g) (PH (stpN l u v i))
def snN (l : List Int) (u v : Int) (g s0 s k lev : Nat) (i : Nat) : CB := addB (addB zeroB (snM l u v g s0 k i)) (nzF s k i lev)
/-- One source. -/
def srcL (u v : Int) (g s0 : Nat) : List Value := [.int .i64 u, .int .i64 v, .float .f32 g, .int .i64 s0]
set_option maxHeartbeats 8000000 in
theorem snapshot_c (hX : XN X) (hA : XAbs X) (hI : IS lo hi 2 h x n l) (hg : goodP n l) (hd : dirB u v = true) (hS : VS lo' hi' 4 h y 1 (srcL u v g s0)) (hgm : bdC 149 (scB (syF s0 k) g)) (hs : s ≤ 2147483647) (hs0 : s0 ≤ 2147483647) (hk : k ≤ 1000000) (hro : ro ≤ h.length) (hlo : hi ≤ h.length) (hlo' : hi' ≤ h.length) :
    CallR Try.prog ro X 162 [x, y, .float .f32 lev, .int .i64 s, .int .i64 k] h (fun r h' => Pfx h h' ∧ RowB h.length h' r n (snN l u v g s0 s k lev)) := by
  have h16 := hg.n16
  have n1 := hg.n1
  have hmk := mk_cpx (n := n) h (by omega)
  refine callR_of (hX _ rfl) Try.func162 rfl (by kernel_rfl) (Nat.le_of_ble_eq_true rfl) ?_
  (repeat' first | simp -dsimp (disch := first | omega | assumption | (refine OkS.sto ?_ (by omega); first | assumption | (refine OkS.sto ?_ (by omega); first | assumption | (refine OkS.sto ?_ (by omega); first | assumption | (refine OkS.sto ?_ (by omega); first | assumption | (refine OkS.sto ?_ (by omega); first | assumption | (refine OkS.sto ?_ (by omega); first | assumption)))))) | exact Pfx.refl _ | (apply Pfx.snoc; repeat (first | exact Pfx.refl _ | assumption | apply Pfx.snoc)) | with_unfolding_all exact of_eq_true (eq_true rfl) | (simp only [List.length_append, List.length_cons, List.length_nil]; omega)) only [↓wpre0, ↓wpre1, ↓reduceIte, Int.reduceToNat, Nat.reduceAdd, Nat.reduceMul, Nat.reduceEqDiff, wpost0, wpost1, wpost2, wpost3, wpost4, ite_self, ite_true, ite_false, if_true, if_false, xlen54, xlen108, bin_lss, xiad108, xld107, tze107, xst107, xfad107_2, xld2, xfad107_1, xld29, xfad107_0, xld62, xlen44, xiad44, xld46, xst46, bin_add, fr162, wrap_int, wrap_u8, iteP_yes, iteP_no, hI.len Try.underlying54, hS.len Try.underlying108, hmk] | refine iteP_two (fun hc hd => ?_) (fun hc hd => ?_) | refine iteP_intro (fun hc => ?_) (fun hc => ?_))
  obtain ⟨O, hO⟩ : ∃ O : Value, O = .slice (some ⟨h.length, 0, none⟩) n n := ⟨_, rfl⟩
  have bO : bOf O = h.length := by rw [hO]; rfl
  have g0 : VG h.length 46 1 (h ++ [(⟨46, rowV n (fun _ => zeroB)⟩ : Blk)]) O n (rowV n (fun _ => zeroB)) := by
    rw [hO]
    exact vg_lit h (Nat.le_refl _) (by rw [rowV_len, Nat.mul_one])
  have p0 : Pfx h (h ++ [(⟨46, rowV n (fun _ => zeroB)⟩ : Blk)]) := (Pfx.refl h).snoc
  generalize hH0 : h ++ [(⟨46, rowV n (fun _ => zeroB)⟩ : Blk)] = H0 at *
  rw [← hO]
  refine loop_exit 0 (fun e h' => Pfx h h' ∧ e 2 = .float .f32 lev ∧ e 3 = .int .i64 s ∧ e 4 = .int .i64 k ∧ e 11 = O ∧ VG h.length 46 1 h' O n (rowV n (fun i => addB zeroB (snM l u v g s0 k i)))) ?_ ?_
  · refine loop_rounds (fun mm e h' => ∃ j : Nat, mm = 1 - j ∧ j ≤ 1 ∧ Pfx h h' ∧ e 0 = x ∧ e 2 = .float .f32 lev ∧ e 3 = .int .i64 s ∧ e 4 = .int .i64 k ∧ e 11 = O ∧ e 21 = y ∧ e 22 = .int .i64 1 ∧ e 23 = .int .i64 j ∧ VG h.length 46 1 h' O n (rowV n (if j = 0 then (fun _ => zeroB) else fun i => addB zeroB (snM l u v g s0 k i)))) _ ⟨0, rfl, ?_⟩ ?_
    · simp only [updO_at, updO_not, entry_at, List.getD_cons_zero, List.getD_cons_succ, ↓reduceIte, Nat.reduceEqDiff, true_and, and_true]
      (repeat' (first | assumption | rfl | omega | refine And.intro ?_ ?_))
    · rintro mm e h' ⟨j, hmm, hj, hp, g0', g2, g3, g4, g11, g21, g22, g23, hO'⟩
      have hlp := hp.len
      rcases (show j = 0 ∨ j = 1 by omega) with rfl | rfl
      · rw [if_pos rfl] at hO'
        have hS' := hS.pre hp
        have hI' := hI.pre hp
        have hld : ld Try.prog h' 107 (ea y 0) = some (.agg ⟨[.int .i64 u, .int .i64 v, .float .f32 g, .int .i64 s0]⟩) := by
          rw [VS.ldm (P := Try.prog) (t := 107) (m := 4) (c := 0) hS' tsz107 tag107 (by omega) (by omega)]
          rfl
        have hcc : cells (h' ++ [(⟨107, [.int .i64 u, .int .i64 v, .float .f32 g, .int .i64 s0]⟩ : Blk)]) h'.length 0 2 = some (.agg ⟨[.int .i64 u, .int .i64 v]⟩) := cells_last rfl (by simp)
        (repeat' first | simp -dsimp (disch := first | omega | assumption | (refine OkS.sto ?_ (by omega); first | assumption | (refine OkS.sto ?_ (by omega); first | assumption | (refine OkS.sto ?_ (by omega); first | assumption | (refine OkS.sto ?_ (by omega); first | assumption | (refine OkS.sto ?_ (by omega); first | assumption | (refine OkS.sto ?_ (by omega); first | assumption)))))) | exact Pfx.refl _ | (apply Pfx.snoc; repeat (first | exact Pfx.refl _ | assumption | apply Pfx.snoc)) | with_unfolding_all exact of_eq_true (eq_true rfl) | (simp only [List.length_append, List.length_cons, List.length_nil]; omega)) only [↓wpre0, ↓wpre1, ↓reduceIte, Int.reduceToNat, Nat.reduceAdd, Nat.reduceMul, Nat.reduceEqDiff, wpost0, wpost1, wpost2, wpost3, wpost4, ite_self, ite_true, ite_false, if_true, if_false, xlen54, xlen108, bin_lss, xiad108, xld107, tze107, xst107, xfad107_2, xld2, xfad107_1, xld29, xfad107_0, xld62, xlen44, xiad44, xld46, xst46, bin_add, fr162, wrap_int, wrap_u8, iteP_yes, iteP_no, g0', g2, g3, g4, g11, g21, g22, g23, hS'.iad Try.underlying108 tsz107, hld, symbol_r hX hs0 hk, Scale_r hX, hcc] | refine iteP_two (fun hc hd => ?_) (fun hc hd => ?_) | refine iteP_intro (fun hc => ?_) (fun hc => ?_))
        have p1 : Pfx h' (h' ++ [(⟨107, [.int .i64 u, .int .i64 v, .float .f32 g, .int .i64 s0]⟩ : Blk)]) := (Pfx.refl h').snoc
        have l1 : (h' ++ [(⟨107, [.int .i64 u, .int .i64 v, .float .f32 g, .int .i64 s0]⟩ : Blk)]).length = h'.length + 1 := by simp
        have bOl := hO'.bof.2
        rw [bO] at bOl
        refine cf_rel (steering_c hX hA (hI'.pre p1) hg hd (by omega) (by omega)) (fun q => by cases q) ?_
        rintro z H2 ⟨p2, hZ⟩
        have l2 := p2.len
        have pz := p1.trans p2
        have hO2 := hO'.pre pz
        rw [l1] at l2
        (repeat' first | simp -dsimp (disch := first | omega | assumption | (refine OkS.sto ?_ (by omega); first | assumption | (refine OkS.sto ?_ (by omega); first | assumption | (refine OkS.sto ?_ (by omega); first | assumption | (refine OkS.sto ?_ (by omega); first | assumption | (refine OkS.sto ?_ (by omega); first | assumption | (refine OkS.sto ?_ (by omega); first | assumption)))))) | exact Pfx.refl _ | (apply Pfx.snoc; repeat (first | exact Pfx.refl _ | assumption | apply Pfx.snoc)) | with_unfolding_all exact of_eq_true (eq_true rfl) | (simp only [List.length_append, List.length_cons, List.length_nil]; omega)) only [↓wpre0, ↓wpre1, ↓reduceIte, Int.reduceToNat, Nat.reduceAdd, Nat.reduceMul, Nat.reduceEqDiff, wpost0, wpost1, wpost2, wpost3, wpost4, ite_self, ite_true, ite_false, if_true, if_false, xlen54, xlen108, bin_lss, xiad108, xld107, tze107, xst107, xfad107_2, xld2, xfad107_1, xld29, xfad107_0, xld62, xlen44, xiad44, xld46, xst46, bin_add, fr162, wrap_int, wrap_u8, iteP_yes, iteP_no, g0', g2, g3, g4, g11, g21, g22, g23, hZ.len] | refine iteP_two (fun hc hd => ?_) (fun hc hd => ?_) | refine iteP_intro (fun hc => ?_) (fun hc => ?_))
        refine loop_exit 2 (fun e h2 => Pfx h h2 ∧ e 0 = x ∧ e 2 = .float .f32 lev ∧ e 3 = .int .i64 s ∧ e 4 = .int .i64 k ∧ e 11 = O ∧ e 21 = y ∧ e 22 = .int .i64 1 ∧ e 23 = .int .i64 0 ∧ VG h.length 46 1 h2 O n (rowV n (fun i => addB zeroB (snM l u v g s0 k i)))) ?_ ?_
        · refine loop_rounds (fun mm e h2 => ∃ i : Nat, mm = n - i ∧ i ≤ n ∧ Rng h.length (h.length + 1) H2 h2 ∧ e 0 = x ∧ e 2 = .float .f32 lev ∧ e 3 = .int .i64 s ∧ e 4 = .int .i64 k ∧ e 11 = O ∧ e 14 = toV (scB (syF s0 k) g) ∧ e 21 = y ∧ e 22 = .int .i64 1 ∧ e 23 = .int .i64 0 ∧ e 37 = z ∧ e 38 = .int .i64 n ∧ e 39 = .int .i64 i ∧ VG h.length 46 1 h2 O n (rowV n (mixF (fun i => addB zeroB (snM l u v g s0 k i)) (fun _ => zeroB) i))) _ ⟨0, rfl, ?_⟩ ?_
          · simp only [updO_at, updO_not, entry_at, List.getD_cons_zero, List.getD_cons_succ, ↓reduceIte, Nat.reduceEqDiff, true_and, and_true]
            have m0 : VG h.length 46 1 H2 O n (rowV n (mixF (fun i => addB zeroB (snM l u v g s0 k i)) (fun _ => zeroB) 0)) := by rw [mix_zero]; exact hO2
            (repeat' (first | assumption | rfl | omega | exact Rng.refl _ _ _ | refine And.intro ?_ ?_))
          · rintro mm e h2 ⟨i, hmm, hle, r, g0', g2, g3, g4, g11, g14, g21, g22, g23, g37, g38, g39, hV⟩
            have hks : (i : Int) + 1 = ((i + 1 : Nat) : Int) := by omega
            have hR := hV.vsl
            have hz2 : RowB (h'.length + 1) h2 z n (fun i => PH (stpN l u v i)) := by
              unfold RowB
              rw [r.1]
              rw [← l1]
              exact VS.rng hZ r (.inr (by omega))
            by_cases hi : i < n
            · have hldO : ld Try.prog h2 46 (ea O (i * 1)) = some (toV zeroB) := by
                have := RowB.ld hR hi
                rw [mix_at] at this
                exact this
              have hldz := hz2.ld hi
              have hM := Mul_r (ro := ro) hX (mulB_bd hgm (PH_bdC (stp_lt hg hd hi)) (show 154 + 148 = 149 + 153 from rfl) (by decide)).1
              have hst : stv Try.prog ro h2 46 (ea O (i * 1)) (toV (addB zeroB (snM l u v g s0 k i))) = some (sto h2 O (i * 1) (toV (addB zeroB (snM l u v g s0 k i)))) := VS.stv hV.vs tsz46 (by omega) rfl rfl (by omega)
              have hvs := hV.sto (c := i * 1) (by omega) (toV (addB zeroB (snM l u v g s0 k i)))
              rw [Nat.mul_one, rowV_mix (A := fun i => addB zeroB (snM l u v g s0 k i)) hi] at hvs
              have hrr := hV.vs.rsto (by omega) (i * 1) (toV (addB zeroB (snM l u v g s0 k i)))
              rw [bO] at hrr
              have hr2 := r.trans hrr
              have hA2 := Add_r (ro := ro) hX zeroB (snM l u v g s0 k i)
              unfold snM at hA2 hst
              (repeat' first | simp -dsimp (disch := first | omega | assumption | (refine OkS.sto ?_ (by omega); first | assumption | (refine OkS.sto ?_ (by omega); first | assumption | (refine OkS.sto ?_ (by omega); first | assumption | (refine OkS.sto ?_ (by omega); first | assumption | (refine OkS.sto ?_ (by omega); first | assumption | (refine OkS.sto ?_ (by omega); first | assumption)))))) | exact Pfx.refl _ | (apply Pfx.snoc; repeat (first | exact Pfx.refl _ | assumption | apply Pfx.snoc)) | with_unfolding_all exact of_eq_true (eq_true rfl) | (simp only [List.length_append, List.length_cons, List.length_nil]; omega)) only [↓wpre0, ↓wpre1, ↓reduceIte, Int.reduceToNat, Nat.reduceAdd, Nat.reduceMul, Nat.reduceEqDiff, wpost0, wpost1, wpost2, wpost3, wpost4, ite_self, ite_true, ite_false, if_true, if_false, xlen54, xlen108, bin_lss, xiad108, xld107, tze107, xst107, xfad107_2, xld2, xfad107_1, xld29, xfad107_0, xld62, xlen44, xiad44, xld46, xst46, bin_add, fr162, wrap_int, wrap_u8, iteP_yes, iteP_no, g0', g2, g3, g4, g11, g14, g21, g22, g23, g37, g38, g39, RowB.iad hR, hz2.iad, hldO, hldz, hM, hA2, hst] | refine iteP_two (fun hc hd => ?_) (fun hc hd => ?_) | refine iteP_intro (fun hc => ?_) (fun hc => ?_))
              refine ⟨n - (i + 1), by omega, i + 1, ?_⟩
              rw [Nat.mul_one] at hr2
              rw [Nat.mul_one]
              (repeat' (first | assumption | rfl | omega | (rw [hks]) | refine And.intro ?_ ?_))
            · have ei : i = n := by omega
              subst ei
              rw [mix_end] at hV
              have pp := (hp.trans pz).rng r (Nat.le_refl _)
              (repeat' first | simp -dsimp (disch := first | omega | assumption | (refine OkS.sto ?_ (by omega); first | assumption | (refine OkS.sto ?_ (by omega); first | assumption | (refine OkS.sto ?_ (by omega); first | assumption | (refine OkS.sto ?_ (by omega); first | assumption | (refine OkS.sto ?_ (by omega); first | assumption | (refine OkS.sto ?_ (by omega); first | assumption)))))) | exact Pfx.refl _ | (apply Pfx.snoc; repeat (first | exact Pfx.refl _ | assumption | apply Pfx.snoc)) | with_unfolding_all exact of_eq_true (eq_true rfl) | (simp only [List.length_append, List.length_cons, List.length_nil]; omega)) only [↓wpre0, ↓wpre1, ↓reduceIte, Int.reduceToNat, Nat.reduceAdd, Nat.reduceMul, Nat.reduceEqDiff, wpost0, wpost1, wpost2, wpost3, wpost4, ite_self, ite_true, ite_false, if_true, if_false, xlen54, xlen108, bin_lss, xiad108, xld107, tze107, xst107, xfad107_2, xld2, xfad107_1, xld29, xfad107_0, xld62, xlen44, xiad44, xld46, xst46, bin_add, fr162, wrap_int, wrap_u8, iteP_yes, iteP_no, g0', g2, g3, g4, g11, g14, g21, g22, g23, g37, g38, g39] | refine iteP_two (fun hc hd => ?_) (fun hc hd => ?_) | refine iteP_intro (fun hc => ?_) (fun hc => ?_))
              exact ⟨pp, hV⟩
        · rintro e h2 ⟨pp, g0', g2, g3, g4, g11, g21, g22, g23, hV⟩
          (repeat' first | simp -dsimp (disch := first | omega | assumption | (refine OkS.sto ?_ (by omega); first | assumption | (refine OkS.sto ?_ (by omega); first | assumption | (refine OkS.sto ?_ (by omega); first | assumption | (refine OkS.sto ?_ (by omega); first | assumption | (refine OkS.sto ?_ (by omega); first | assumption | (refine OkS.sto ?_ (by omega); first | assumption)))))) | exact Pfx.refl _ | (apply Pfx.snoc; repeat (first | exact Pfx.refl _ | assumption | apply Pfx.snoc)) | with_unfolding_all exact of_eq_true (eq_true rfl) | (simp only [List.length_append, List.length_cons, List.length_nil]; omega)) only [↓wpre0, ↓wpre1, ↓reduceIte, Int.reduceToNat, Nat.reduceAdd, Nat.reduceMul, Nat.reduceEqDiff, wpost0, wpost1, wpost2, wpost3, wpost4, ite_self, ite_true, ite_false, if_true, if_false, xlen54, xlen108, bin_lss, xiad108, xld107, tze107, xst107, xfad107_2, xld2, xfad107_1, xld29, xfad107_0, xld62, xlen44, xiad44, xld46, xst46, bin_add, fr162, wrap_int, wrap_u8, iteP_yes, iteP_no, g0', g2, g3, g4, g11, g21, g22, g23] | refine iteP_two (fun hc hd => ?_) (fun hc hd => ?_) | refine iteP_intro (fun hc => ?_) (fun hc => ?_))
          refine ⟨0, by omega, 1, ?_⟩
          have hV1 : VG h.length 46 1 h2 O n (rowV n (if (1 : Nat) = 0 then (fun _ => zeroB) else fun i => addB zeroB (snM l u v g s0 k i))) := hV
          (repeat' (first | assumption | rfl | omega | refine And.intro ?_ ?_))
      · (repeat' first | simp -dsimp (disch := first | omega | assumption | (refine OkS.sto ?_ (by omega); first | assumption | (refine OkS.sto ?_ (by omega); first | assumption | (refine OkS.sto ?_ (by omega); first | assumption | (refine OkS.sto ?_ (by omega); first | assumption | (refine OkS.sto ?_ (by omega); first | assumption | (refine OkS.sto ?_ (by omega); first | assumption)))))) | exact Pfx.refl _ | (apply Pfx.snoc; repeat (first | exact Pfx.refl _ | assumption | apply Pfx.snoc)) | with_unfolding_all exact of_eq_true (eq_true rfl) | (simp only [List.length_append, List.length_cons, List.length_nil]; omega)) only [↓wpre0, ↓wpre1, ↓reduceIte, Int.reduceToNat, Nat.reduceAdd, Nat.reduceMul, Nat.reduceEqDiff, wpost0, wpost1, wpost2, wpost3, wpost4, ite_self, ite_true, ite_false, if_true, if_false, xlen54, xlen108, bin_lss, xiad108, xld107, tze107, xst107, xfad107_2, xld2, xfad107_1, xld29, xfad107_0, xld62, xlen44, xiad44, xld46, xst46, bin_add, fr162, wrap_int, wrap_u8, iteP_yes, iteP_no, g0', g2, g3, g4, g11, g21, g22, g23] | refine iteP_two (fun hc hd => ?_) (fun hc hd => ?_) | refine iteP_intro (fun hc => ?_) (fun hc => ?_))
        exact ⟨hp, hO'⟩
  · rintro e h' ⟨hp, g2, g3, g4, g11, hO'⟩
    have hnf : Sim.flat O = false := by rw [hO]; rfl
    (repeat' first | simp -dsimp (disch := first | omega | assumption | (refine OkS.sto ?_ (by omega); first | assumption | (refine OkS.sto ?_ (by omega); first | assumption | (refine OkS.sto ?_ (by omega); first | assumption | (refine OkS.sto ?_ (by omega); first | assumption | (refine OkS.sto ?_ (by omega); first | assumption | (refine OkS.sto ?_ (by omega); first | assumption)))))) | exact Pfx.refl _ | (apply Pfx.snoc; repeat (first | exact Pfx.refl _ | assumption | apply Pfx.snoc)) | with_unfolding_all exact of_eq_true (eq_true rfl) | (simp only [List.length_append, List.length_cons, List.length_nil]; omega)) only [↓wpre0, ↓wpre1, ↓reduceIte, Int.reduceToNat, Nat.reduceAdd, Nat.reduceMul, Nat.reduceEqDiff, wpost0, wpost1, wpost2, wpost3, wpost4, ite_self, ite_true, ite_false, if_true, if_false, xlen54, xlen108, bin_lss, xiad108, xld107, tze107, xst107, xfad107_2, xld2, xfad107_1, xld29, xfad107_0, xld62, xlen44, xiad44, xld46, xst46, bin_add, fr162, wrap_int, wrap_u8, iteP_yes, iteP_no, g2, g3, g4, g11, RowB.len hO'.vsl] | refine iteP_two (fun hc hd => ?_) (fun hc hd => ?_) | refine iteP_intro (fun hc => ?_) (fun hc => ?_))
    refine loop_rounds (fun mm e h2 => ∃ i : Nat, mm = n - i ∧ i ≤ n ∧ Rng h.length (h.length + 1) h' h2 ∧ e 2 = .float .f32 lev ∧ e 3 = .int .i64 s ∧ e 4 = .int .i64 k ∧ e 11 = O ∧ e 58 = .int .i64 n ∧ e 59 = .int .i64 i ∧ VG h.length 46 1 h2 O n (rowV n (mixF (snN l u v g s0 s k lev) (fun i => addB zeroB (snM l u v g s0 k i)) i))) _ ⟨0, rfl, ?_⟩ ?_
    · simp only [updO_at, updO_not, entry_at, List.getD_cons_zero, List.getD_cons_succ, ↓reduceIte, Nat.reduceEqDiff, true_and, and_true]
      have m0 : VG h.length 46 1 h' O n (rowV n (mixF (snN l u v g s0 s k lev) (fun i => addB zeroB (snM l u v g s0 k i)) 0)) := by rw [mix_zero]; exact hO'
      (repeat' (first | assumption | rfl | omega | exact Rng.refl _ _ _ | refine And.intro ?_ ?_))
    · rintro mm e h2 ⟨i, hmm, hle, r, g2, g3, g4, g11, g58, g59, hV⟩
      have hks : (i : Int) + 1 = ((i + 1 : Nat) : Int) := by omega
      have hR := hV.vsl
      by_cases hi : i < n
      · have hldO : ld Try.prog h2 46 (ea O (i * 1)) = some (toV (addB zeroB (snM l u v g s0 k i))) := by
          have := RowB.ld hR hi
          rw [mix_at] at this
          exact this
        have hst : stv Try.prog ro h2 46 (ea O (i * 1)) (toV (snN l u v g s0 s k lev i)) = some (sto h2 O (i * 1) (toV (snN l u v g s0 s k lev i))) := VS.stv hV.vs tsz46 (by omega) rfl rfl (by omega)
        have hvs := hV.sto (c := i * 1) (by omega) (toV (snN l u v g s0 s k lev i))
        rw [Nat.mul_one, rowV_mix (A := snN l u v g s0 s k lev) hi] at hvs
        have hrr := hV.vs.rsto (by omega) (i * 1) (toV (snN l u v g s0 s k lev i))
        rw [bO] at hrr
        have hr2 := r.trans hrr
        have hA2 := Add_r (ro := ro) hX (addB zeroB (snM l u v g s0 k i)) (nzF s k i lev)
        have hN := noise_r (ro := ro) (lev := lev) hX hs hk (show i ≤ 15 by omega)
        have eS : snN l u v g s0 s k lev i = addB (addB zeroB (snM l u v g s0 k i)) (nzF s k i lev) := rfl
        rw [eS] at hst
        generalize snM l u v g s0 k i = M at *
        (repeat' first | simp -dsimp (disch := first | omega | assumption | (refine OkS.sto ?_ (by omega); first | assumption | (refine OkS.sto ?_ (by omega); first | assumption | (refine OkS.sto ?_ (by omega); first | assumption | (refine OkS.sto ?_ (by omega); first | assumption | (refine OkS.sto ?_ (by omega); first | assumption | (refine OkS.sto ?_ (by omega); first | assumption)))))) | exact Pfx.refl _ | (apply Pfx.snoc; repeat (first | exact Pfx.refl _ | assumption | apply Pfx.snoc)) | with_unfolding_all exact of_eq_true (eq_true rfl) | (simp only [List.length_append, List.length_cons, List.length_nil]; omega)) only [↓wpre0, ↓wpre1, ↓reduceIte, Int.reduceToNat, Nat.reduceAdd, Nat.reduceMul, Nat.reduceEqDiff, wpost0, wpost1, wpost2, wpost3, wpost4, ite_self, ite_true, ite_false, if_true, if_false, xlen54, xlen108, bin_lss, xiad108, xld107, tze107, xst107, xfad107_2, xld2, xfad107_1, xld29, xfad107_0, xld62, xlen44, xiad44, xld46, xst46, bin_add, fr162, wrap_int, wrap_u8, iteP_yes, iteP_no, g2, g3, g4, g11, g58, g59, RowB.iad hR, hldO, hN, hA2, hst] | refine iteP_two (fun hc hd => ?_) (fun hc hd => ?_) | refine iteP_intro (fun hc => ?_) (fun hc => ?_))
        refine ⟨n - (i + 1), by omega, i + 1, ?_⟩
        rw [eS] at hvs
        rw [eS, Nat.mul_one] at hr2
        rw [Nat.mul_one]
        (repeat' (first | assumption | rfl | omega | (rw [hks]) | refine And.intro ?_ ?_))
      · have ei : i = n := by omega
        subst ei
        rw [mix_end] at hV
        have pp := hp.rng r (Nat.le_refl _)
        (repeat' first | simp -dsimp (disch := first | omega | assumption | (refine OkS.sto ?_ (by omega); first | assumption | (refine OkS.sto ?_ (by omega); first | assumption | (refine OkS.sto ?_ (by omega); first | assumption | (refine OkS.sto ?_ (by omega); first | assumption | (refine OkS.sto ?_ (by omega); first | assumption | (refine OkS.sto ?_ (by omega); first | assumption)))))) | exact Pfx.refl _ | (apply Pfx.snoc; repeat (first | exact Pfx.refl _ | assumption | apply Pfx.snoc)) | with_unfolding_all exact of_eq_true (eq_true rfl) | (simp only [List.length_append, List.length_cons, List.length_nil]; omega)) only [↓wpre0, ↓wpre1, ↓reduceIte, Int.reduceToNat, Nat.reduceAdd, Nat.reduceMul, Nat.reduceEqDiff, wpost0, wpost1, wpost2, wpost3, wpost4, ite_self, ite_true, ite_false, if_true, if_false, xlen54, xlen108, bin_lss, xiad108, xld107, tze107, xst107, xfad107_2, xld2, xfad107_1, xld29, xfad107_0, xld62, xlen44, xiad44, xld46, xst46, bin_add, fr162, wrap_int, wrap_u8, iteP_yes, iteP_no, g2, g3, g4, g11, g58, g59, endH_not hnf] | refine iteP_two (fun hc hd => ?_) (fun hc hd => ?_) | refine iteP_intro (fun hc => ?_) (fun hc => ?_))
        exact ⟨pp, hV.vsl⟩
end Go.Proofs.Ytelogajobjflfaa.Sim

/- Sources, lists of snapshots, wrong symbols; what a law draws. Lemmas only; no condition. -/
set_option linter.unusedSimpArgs false
set_option linter.unusedVariables false
set_option maxRecDepth 8000
namespace Go.Proofs.Ytelogajobjflfaa.Sim
open Go Go.RowKit Fl
variable {ro lo hi lo' hi' n : Nat} {X : Ext} {h : Heap} {x y : Value} {l : List Int} {u v : Int} {g s0 s k lev : Nat} {cd : List UInt8}
theorem SteeringOf_c (hX : XN X) (hA : XAbs X) (hI : IS lo hi 2 h x n l) (ht : tyP ro h x) (hg : goodP n l) (hd : dirB u v = true) (hro : ro ≤ h.length) (hlo : hi ≤ h.length) : CallR Try.prog ro X 74 [x, .agg ⟨[.int .i64 u, .int .i64 v]⟩] h (fun r h' => ∃ z, r = .tuple ⟨[z, .bool true]⟩ ∧ Pfx h h' ∧ RowB h.length h' z n (fun i => PH (stpN l u v i))) := by
  have n1 := hg.n1
  have hb : boxV h 62 (.agg ⟨[.int .i64 u, .int .i64 v]⟩) = some (.pointer (some ⟨h.length, 0, none⟩), h ++ [⟨62, [.int .i64 u, .int .i64 v]⟩]) := box_go rfl
  have p0 : Pfx h (h ++ [(⟨62, [.int .i64 u, .int .i64 v]⟩ : Blk)]) := (Pfx.refl h).snoc
  have hro0 : ro ≤ (h ++ [(⟨62, [.int .i64 u, .int .i64 v]⟩ : Blk)]).length := by simp; omega
  have hv := vPlaces_r (ro := ro) hX (hI.pre p0) (ht.pre hI (by omega) p0) hg hro0
  have hdr := vDir_r (ro := ro) hX u v _ hro0
  rw [hd] at hdr
  refine callR_of (hX _ rfl) Try.func74 rfl (by kernel_rfl) (Nat.le_of_ble_eq_true rfl) ?_
  (repeat' first | simp -dsimp (disch := first | omega | assumption | (refine OkS.sto ?_ (by omega); first | assumption | (refine OkS.sto ?_ (by omega); first | assumption | (refine OkS.sto ?_ (by omega); first | assumption | (refine OkS.sto ?_ (by omega); first | assumption | (refine OkS.sto ?_ (by omega); first | assumption | (refine OkS.sto ?_ (by omega); first | assumption)))))) | exact Pfx.refl _ | (apply Pfx.snoc; repeat (first | exact Pfx.refl _ | assumption | apply Pfx.snoc)) | with_unfolding_all exact of_eq_true (eq_true rfl) | (simp only [List.length_append, List.length_cons, List.length_nil]; omega)) only [↓wpre0, ↓wpre1, ↓reduceIte, Int.reduceToNat, Nat.reduceAdd, Nat.reduceMul, Nat.reduceEqDiff, wpost0, wpost1, wpost2, wpost3, wpost4, ite_self, ite_true, ite_false, if_true, if_false, un_not, xld62, fr74, wrap_int, wrap_u8, iteP_yes, iteP_no, hb, hv, hdr] | refine iteP_two (fun hc hd => ?_) (fun hc hd => ?_) | refine iteP_intro (fun hc => ?_) (fun hc => ?_))
  refine cf_rel (steering_c hX hA (hI.pre p0) hg hd hro0 (by simp; omega)) (fun q => by cases q) ?_
  rintro z H1 ⟨p1, hZ⟩
  have hnf : Sim.flat (.tuple ⟨[z, .bool true]⟩) = false := by
    rcases hZ.2 with ⟨q, _⟩ | ⟨b, o, cap, Bk, rfl, _⟩
    · omega
    · rfl
  (repeat' first | simp -dsimp (disch := first | omega | assumption | (refine OkS.sto ?_ (by omega); first | assumption | (refine OkS.sto ?_ (by omega); first | assumption | (refine OkS.sto ?_ (by omega); first | assumption | (refine OkS.sto ?_ (by omega); first | assumption | (refine OkS.sto ?_ (by omega); first | assumption | (refine OkS.sto ?_ (by omega); first | assumption)))))) | exact Pfx.refl _ | (apply Pfx.snoc; repeat (first | exact Pfx.refl _ | assumption | apply Pfx.snoc)) | with_unfolding_all exact of_eq_true (eq_true rfl) | (simp only [List.length_append, List.length_cons, List.length_nil]; omega)) only [↓wpre0, ↓wpre1, ↓reduceIte, Int.reduceToNat, Nat.reduceAdd, Nat.reduceMul, Nat.reduceEqDiff, wpost0, wpost1, wpost2, wpost3, wpost4, ite_self, ite_true, ite_false, if_true, if_false, un_not, xld62, fr74, wrap_int, wrap_u8, iteP_yes, iteP_no, endH_not hnf] | refine iteP_two (fun hc hd => ?_) (fun hc hd => ?_) | refine iteP_intro (fun hc => ?_) (fun hc => ?_))
  exact ⟨z, rfl, p0.trans p1, hZ.low (by simp)⟩
set_option maxHeartbeats 2000000 in
theorem vSources_r (hX : XN X) (hd : dirB u v = true) (hS : VS lo' hi' 4 h y 1 (srcL u v g s0)) (hs0 : s0 ≤ 2147483647) (hro : ro ≤ h.length) : Ret Try.prog ro X 77 [y] h (.bool true) := by
  refine ret_of (callR_of (hX _ rfl) Try.func77 rfl (by kernel_rfl) (Nat.le_of_ble_eq_true rfl) ?_)
  (repeat' first | simp -dsimp (disch := first | omega | assumption | (refine OkS.sto ?_ (by omega); first | assumption | (refine OkS.sto ?_ (by omega); first | assumption | (refine OkS.sto ?_ (by omega); first | assumption | (refine OkS.sto ?_ (by omega); first | assumption | (refine OkS.sto ?_ (by omega); first | assumption | (refine OkS.sto ?_ (by omega); first | assumption)))))) | exact Pfx.refl _ | (apply Pfx.snoc; repeat (first | exact Pfx.refl _ | assumption | apply Pfx.snoc)) | with_unfolding_all exact of_eq_true (eq_true rfl) | (simp only [List.length_append, List.length_cons, List.length_nil]; omega)) only [↓wpre0, ↓wpre1, ↓reduceIte, Int.reduceToNat, Nat.reduceAdd, Nat.reduceMul, Nat.reduceEqDiff, wpost0, wpost1, wpost2, wpost3, wpost4, ite_self, ite_true, ite_false, if_true, if_false, xlen108, bin_lss, xiad108, xld107, tze107, xst107, xfad107_0, xld62, un_not, xfad107_2, xld2, bin_add, bin_leq, fr77, wrap_int, wrap_u8, iteP_yes, iteP_no, hS.len Try.underlying108] | refine iteP_two (fun hc hd => ?_) (fun hc hd => ?_) | refine iteP_intro (fun hc => ?_) (fun hc => ?_))
  refine loop_rounds (fun mm e h' => ∃ j : Nat, mm = 1 - j ∧ j ≤ 1 ∧ Pfx h h' ∧ e 0 = y ∧ e 5 = y ∧ e 6 = .int .i64 1 ∧ e 7 = .int .i64 j) _ ⟨0, rfl, ?_⟩ ?_
  · simp only [updO_at, updO_not, entry_at, List.getD_cons_zero, List.getD_cons_succ, ↓reduceIte, Nat.reduceEqDiff, true_and, and_true]
    (repeat' (first | assumption | rfl | omega | exact Pfx.refl _ | refine And.intro ?_ ?_))
  · rintro mm e h' ⟨j, hmm, hj, hp, g0, g5, g6, g7⟩
    have hlp := hp.len
    have hS' := hS.pre hp
    rcases (show j = 0 ∨ j = 1 by omega) with rfl | rfl
    · have hld : ld Try.prog h' 107 (ea y 0) = some (.agg ⟨[.int .i64 u, .int .i64 v, .float .f32 g, .int .i64 s0]⟩) := by
        rw [VS.ldm (P := Try.prog) (t := 107) (m := 4) (c := 0) hS' tsz107 tag107 (by omega) (by omega)]
        rfl
      have hcc : cells (h' ++ [(⟨107, [.int .i64 u, .int .i64 v, .float .f32 g, .int .i64 s0]⟩ : Blk)]) h'.length 0 2 = some (.agg ⟨[.int .i64 u, .int .i64 v]⟩) := cells_last rfl (by simp)
      have hdr := vDir_r (ro := ro) hX u v (h' ++ [(⟨107, [.int .i64 u, .int .i64 v, .float .f32 g, .int .i64 s0]⟩ : Blk)]) (by simp; omega)
      rw [hd] at hdr
      (repeat' first | simp -dsimp (disch := first | omega | assumption | (refine OkS.sto ?_ (by omega); first | assumption | (refine OkS.sto ?_ (by omega); first | assumption | (refine OkS.sto ?_ (by omega); first | assumption | (refine OkS.sto ?_ (by omega); first | assumption | (refine OkS.sto ?_ (by omega); first | assumption | (refine OkS.sto ?_ (by omega); first | assumption)))))) | exact Pfx.refl _ | (apply Pfx.snoc; repeat (first | exact Pfx.refl _ | assumption | apply Pfx.snoc)) | with_unfolding_all exact of_eq_true (eq_true rfl) | (simp only [List.length_append, List.length_cons, List.length_nil]; omega)) only [↓wpre0, ↓wpre1, ↓reduceIte, Int.reduceToNat, Nat.reduceAdd, Nat.reduceMul, Nat.reduceEqDiff, wpost0, wpost1, wpost2, wpost3, wpost4, ite_self, ite_true, ite_false, if_true, if_false, xlen108, bin_lss, xiad108, xld107, tze107, xst107, xfad107_0, xld62, un_not, xfad107_2, xld2, bin_add, bin_leq, fr77, wrap_int, wrap_u8, iteP_yes, iteP_no, g0, g5, g6, g7, hS'.iad Try.underlying108 tsz107, hld, hcc, hdr, isSeed_r hX hs0] | refine iteP_two (fun hc hd => ?_) (fun hc hd => ?_) | refine iteP_intro (fun hc => ?_) (fun hc => ?_))
      refine ⟨0, by omega, 1, ?_⟩
      (repeat' (first | assumption | rfl | omega | exact hp.snoc | refine And.intro ?_ ?_))
    · have ef : ∀ z, endH (.bool z) h h' = h := fun z => endH_flat rfl hp
      (repeat' first | simp -dsimp (disch := first | omega | assumption | (refine OkS.sto ?_ (by omega); first | assumption | (refine OkS.sto ?_ (by omega); first | assumption | (refine OkS.sto ?_ (by omega); first | assumption | (refine OkS.sto ?_ (by omega); first | assumption | (refine OkS.sto ?_ (by omega); first | assumption | (refine OkS.sto ?_ (by omega); first | assumption)))))) | exact Pfx.refl _ | (apply Pfx.snoc; repeat (first | exact Pfx.refl _ | assumption | apply Pfx.snoc)) | with_unfolding_all exact of_eq_true (eq_true rfl) | (simp only [List.length_append, List.length_cons, List.length_nil]; omega)) only [↓wpre0, ↓wpre1, ↓reduceIte, Int.reduceToNat, Nat.reduceAdd, Nat.reduceMul, Nat.reduceEqDiff, wpost0, wpost1, wpost2, wpost3, wpost4, ite_self, ite_true, ite_false, if_true, if_false, xlen108, bin_lss, xiad108, xld107, tze107, xst107, xfad107_0, xld62, un_not, xfad107_2, xld2, bin_add, bin_leq, fr77, wrap_int, wrap_u8, iteP_yes, iteP_no, g0, g5, g6, g7, hS'.len Try.underlying108, ef] | refine iteP_two (fun hc hd => ?_) (fun hc hd => ?_) | refine iteP_intro (fun hc => ?_) (fun hc => ?_))
      rfl
theorem SnapshotOf_c (hX : XN X) (hA : XAbs X) (hI : IS lo hi 2 h x n l) (ht : tyP ro h x) (hg : goodP n l) (hd : dirB u v = true) (hS : VS lo' hi' 4 h y 1 (srcL u v g s0)) (hgm : bdC 149 (scB (syF s0 k) g)) (hs : s ≤ 2147483647) (hs0 : s0 ≤ 2147483647) (hk : k ≤ 1000000) (hro : ro ≤ h.length) (hlo : hi ≤ h.length) (hlo' : hi' ≤ h.length) :
    CallR Try.prog ro X 73 [x, y, .float .f32 lev, .int .i64 s, .int .i64 k] h (fun r h' => ∃ z, r = .tuple ⟨[z, .bool true]⟩ ∧ Pfx h h' ∧ RowB h.length h' z n (snN l u v g s0 s k lev)) := by
  have n1 := hg.n1
  refine callR_of (hX _ rfl) Try.func73 rfl (by kernel_rfl) (Nat.le_of_ble_eq_true rfl) ?_
  (repeat' first | simp -dsimp (disch := first | omega | assumption | (refine OkS.sto ?_ (by omega); first | assumption | (refine OkS.sto ?_ (by omega); first | assumption | (refine OkS.sto ?_ (by omega); first | assumption | (refine OkS.sto ?_ (by omega); first | assumption | (refine OkS.sto ?_ (by omega); first | assumption | (refine OkS.sto ?_ (by omega); first | assumption)))))) | exact Pfx.refl _ | (apply Pfx.snoc; repeat (first | exact Pfx.refl _ | assumption | apply Pfx.snoc)) | with_unfolding_all exact of_eq_true (eq_true rfl) | (simp only [List.length_append, List.length_cons, List.length_nil]; omega)) only [↓wpre0, ↓wpre1, ↓reduceIte, Int.reduceToNat, Nat.reduceAdd, Nat.reduceMul, Nat.reduceEqDiff, wpost0, wpost1, wpost2, wpost3, wpost4, ite_self, ite_true, ite_false, if_true, if_false, un_not, fr73, wrap_int, wrap_u8, iteP_yes, iteP_no, vPlaces_r hX hI ht hg hro, vSources_r hX hd hS hs0 hro, isSeed_r hX hs, isIndex_r hX hk] | refine iteP_two (fun hc hd => ?_) (fun hc hd => ?_) | refine iteP_intro (fun hc => ?_) (fun hc => ?_))
  refine cf_rel (snapshot_c hX hA hI hg hd hS hgm hs hs0 hk hro hlo hlo') (fun q => by cases q) ?_
  rintro z H1 ⟨p1, hZ⟩
  have hnf : Sim.flat (.tuple ⟨[z, .bool true]⟩) = false := by
    rcases hZ.2 with ⟨q, _⟩ | ⟨b, o, cap, Bk, rfl, _⟩
    · omega
    · rfl
  (repeat' first | simp -dsimp (disch := first | omega | assumption | (refine OkS.sto ?_ (by omega); first | assumption | (refine OkS.sto ?_ (by omega); first | assumption | (refine OkS.sto ?_ (by omega); first | assumption | (refine OkS.sto ?_ (by omega); first | assumption | (refine OkS.sto ?_ (by omega); first | assumption | (refine OkS.sto ?_ (by omega); first | assumption)))))) | exact Pfx.refl _ | (apply Pfx.snoc; repeat (first | exact Pfx.refl _ | assumption | apply Pfx.snoc)) | with_unfolding_all exact of_eq_true (eq_true rfl) | (simp only [List.length_append, List.length_cons, List.length_nil]; omega)) only [↓wpre0, ↓wpre1, ↓reduceIte, Int.reduceToNat, Nat.reduceAdd, Nat.reduceMul, Nat.reduceEqDiff, wpost0, wpost1, wpost2, wpost3, wpost4, ite_self, ite_true, ite_false, if_true, if_false, un_not, fr73, wrap_int, wrap_u8, iteP_yes, iteP_no, endH_not hnf] | refine iteP_two (fun hc hd => ?_) (fun hc hd => ?_) | refine iteP_intro (fun hc => ?_) (fun hc => ?_))
  exact ⟨z, rfl, p1, hZ⟩
/-- Rows, each outside of one block. -/
structure RWS (lo n : Nat) (h : Heap) (bx : Nat) (R : List Value) (F : Nat → Nat → CB) : Prop where
  row : ∀ j, j < R.length → RowB lo h (vth R j) n (F j)
  out : ∀ j, j < R.length → bOf (vth R j) ≠ bx
theorem RowB.frb {lo : Nat} {h h' : Heap} {x : Value} {f : Nat → CB} (r : RowB lo h x n f) (hl : h.length ≤ h'.length) (hh : h'[bOf x]? = h[bOf x]?) : RowB lo h' x n f := (VS.frb r hh).wide (Nat.le_refl _) hl
set_option maxHeartbeats 8000000 in
theorem SnapshotsOf_c (hX : XN X) (hA : XAbs X) (hI : IS lo hi 2 h x n l) (ht : tyP ro h x) (hg : goodP n l) (hd : dirB u v = true) (hS : VS lo' hi' 4 h y 1 (srcL u v g s0)) (hgm : ∀ k, bdC 149 (scB (syF s0 k) g)) (hs : s ≤ 2147483647) (hs0 : s0 ≤ 2147483647) (hk : k ≤ 900000) (hro : ro ≤ h.length) (hlo : hi ≤ h.length) (hlo' : hi' ≤ h.length) :
    CallR Try.prog ro X 75 [x, y, .float .f32 lev, .int .i64 s, .int .i64 k, .int .i64 3] h (fun r h' => ∃ z R, r = .tuple ⟨[z, .bool true]⟩ ∧ Pfx h h' ∧ VG h.length 44 1 h' z 3 R ∧ ∀ j, j < 3 → RowB h.length h' (vth R j) n (snN l u v g s0 s (k + j) lev)) := by
  have n1 := hg.n1
  have e3 : (k : Int) + 3 - 1 = ((k + 2 : Nat) : Int) := by omega
  refine callR_of (hX _ rfl) Try.func75 rfl (by kernel_rfl) (Nat.le_of_ble_eq_true rfl) ?_
  (repeat' first | simp -dsimp (disch := first | omega | assumption | (refine OkS.sto ?_ (by omega); first | assumption | (refine OkS.sto ?_ (by omega); first | assumption | (refine OkS.sto ?_ (by omega); first | assumption | (refine OkS.sto ?_ (by omega); first | assumption | (refine OkS.sto ?_ (by omega); first | assumption | (refine OkS.sto ?_ (by omega); first | assumption)))))) | exact Pfx.refl _ | (apply Pfx.snoc; repeat (first | exact Pfx.refl _ | assumption | apply Pfx.snoc)) | with_unfolding_all exact of_eq_true (eq_true rfl) | (simp only [List.length_append, List.length_cons, List.length_nil]; omega)) only [↓wpre0, ↓wpre1, ↓reduceIte, Int.reduceToNat, Nat.reduceAdd, Nat.reduceMul, Nat.reduceEqDiff, wpost0, wpost1, wpost2, wpost3, wpost4, ite_self, ite_true, ite_false, if_true, if_false, un_not, bin_gtr, bin_add, bin_sub, xbls36_0, xbls36_1, bin_lss, fr75, wrap_int, wrap_u8, iteP_yes, iteP_no, vPlaces_r hX hI ht hg hro, vSources_r hX hd hS hs0 hro, isSeed_r hX hs, isIndex_r hX (show k ≤ 1000000 by omega), isIndex_r hX (show k + 2 ≤ 1000000 by omega), wit_r hX, e3] | refine iteP_two (fun hc hd => ?_) (fun hc hd => ?_) | refine iteP_intro (fun hc => ?_) (fun hc => ?_))
  refine loop_rounds (fun mm e h' => ∃ (j : Nat) (z : Value) (R : List Value), mm = 3 - j ∧ j ≤ 3 ∧ Pfx h h' ∧ e 0 = x ∧ e 1 = y ∧ e 2 = .float .f32 lev ∧ e 3 = .int .i64 s ∧ e 4 = .int .i64 k ∧ e 14 = z ∧ e 52 = .int .i64 3 ∧ e 53 = .int .i64 j ∧ VG h.length 44 1 h' z j R ∧ RWS h.length n h' (bOf z) R (fun j => snN l u v g s0 s (k + j) lev) ∧ R.length = j) _ ⟨0, .slice (some ⟨h.length, 0, none⟩) 0 0, [], rfl, ?_⟩ ?_
  · simp only [updO_at, updO_not, entry_at, List.getD_cons_zero, List.getD_cons_succ, ↓reduceIte, Nat.reduceEqDiff, true_and, and_true]
    have q1 : Pfx h (h ++ [(⟨44, []⟩ : Blk)]) := (Pfx.refl h).snoc
    have q2 : VG h.length 44 1 (h ++ [(⟨44, []⟩ : Blk)]) (.slice (some ⟨h.length, 0, none⟩) 0 0) 0 [] := vg_new h (Nat.le_refl _)
    have q3 : RWS h.length n (h ++ [(⟨44, []⟩ : Blk)]) (bOf (.slice (some ⟨h.length, 0, none⟩) 0 0)) [] (fun j => snN l u v g s0 s (k + j) lev) := ⟨fun j hj => by simp at hj, fun j hj => by simp at hj⟩
    (repeat' (first | assumption | rfl | omega | exact q1 | exact q2 | exact q3 | exact Nat.zero_le _ | refine And.intro ?_ ?_))
  · rintro mm e h' ⟨j, z, R, hmm, hj, hp, g0, g1, g2, g3, g4, g14, g52, g53, hZ, hR, hRl⟩
    have hks : (j : Int) + 1 = ((j + 1 : Nat) : Int) := by omega
    have hlp := hp.len
    have hbz := hZ.bof
    by_cases hin : j < 3
    · have hkj : (k : Int) + (j : Int) = ((k + j : Nat) : Int) := by omega
      (repeat' first | simp -dsimp (disch := first | omega | assumption | (refine OkS.sto ?_ (by omega); first | assumption | (refine OkS.sto ?_ (by omega); first | assumption | (refine OkS.sto ?_ (by omega); first | assumption | (refine OkS.sto ?_ (by omega); first | assumption | (refine OkS.sto ?_ (by omega); first | assumption | (refine OkS.sto ?_ (by omega); first | assumption)))))) | exact Pfx.refl _ | (apply Pfx.snoc; repeat (first | exact Pfx.refl _ | assumption | apply Pfx.snoc)) | with_unfolding_all exact of_eq_true (eq_true rfl) | (simp only [List.length_append, List.length_cons, List.length_nil]; omega)) only [↓wpre0, ↓wpre1, ↓reduceIte, Int.reduceToNat, Nat.reduceAdd, Nat.reduceMul, Nat.reduceEqDiff, wpost0, wpost1, wpost2, wpost3, wpost4, ite_self, ite_true, ite_false, if_true, if_false, un_not, bin_gtr, bin_add, bin_sub, xbls36_0, xbls36_1, bin_lss, fr75, wrap_int, wrap_u8, iteP_yes, iteP_no, g0, g1, g2, g3, g4, g14, g52, g53, hkj] | refine iteP_two (fun hc hd => ?_) (fun hc hd => ?_) | refine iteP_intro (fun hc => ?_) (fun hc => ?_))
      refine cf_rel (snapshot_c (k := k + j) (lev := lev) hX hA (hI.pre hp) hg hd (hS.pre hp) (hgm _) hs hs0 (by omega) (by omega) (by omega) (by omega)) (fun q => by cases q) ?_
      rintro w H1 ⟨p1, hw⟩
      have l1 := p1.len
      have hwb := VS.bof hw (by omega)
      have hsh := VS.shape hw
      have hZ1 := hZ.pre p1
      obtain ⟨H, ap, vg, old, hlen⟩ := acc1 (P := Try.prog) (ro := ro) (T := 36) (h := H1) (v := w) tel36 tsz44 tby44 tze44 (.inl hZ1) (by omega) (by omega) hsh.2.2 (by omega) (by omega)
      have hbl : bldS Try.prog H1 36 1 [(0, w)] = some (.slice (some ⟨H1.length, 0, none⟩) 1 1, H1 ++ [⟨44, [w]⟩]) := by
        have := bldS_one (h := H1) (v := w) tel36 tsz44 tze44 rfl (by decide) (by rw [hsh.2.1]; rfl) (by rw [hsh.2.1]; simp [hsh.2.2])
        rw [hsh.2.1] at this
        exact this
      have lH := old.2.2
      have hR' : RWS h.length n H (bOf (.slice (some ⟨H1.length + 1, 0, none⟩) (j + 1) (j + 1 + 1))) (R ++ [w]) (fun j => snN l u v g s0 s (k + j) lev) := by
        refine ⟨fun i hi => ?_, fun i hi => ?_⟩
        · rw [List.length_append, List.length_singleton] at hi
          by_cases e : i < R.length
          · rw [vth_append_left e]
            have r := (hR.row i e).pre p1
            refine r.frb lH (old.2.1 _ (VS.bof r (by omega)).2.2 (.inr (hR.out i e)))
          · have ei : i = j := by omega
            subst ei
            rw [vth_append_right (by omega), hRl, Nat.sub_self]
            exact RowB.low (RowB.frb hw lH (old.2.1 _ hwb.2.2 (.inr (by show bOf w ≠ bOf z; omega)))) (by omega)
        · rw [List.length_append, List.length_singleton] at hi
          show bOf (vth (R ++ [w]) i) ≠ H1.length + 1
          by_cases e : i < R.length
          · rw [vth_append_left e]
            have := (VS.bof ((hR.row i e).pre p1) (by omega)).2.2
            omega
          · have ei : i = j := by omega
            subst ei
            rw [vth_append_right (by omega), hRl, Nat.sub_self]
            show bOf w ≠ _
            omega
      have hpp := old.1 h (hp.trans p1) (Nat.le_refl _)
      have hRl' : (R ++ [w]).length = j + 1 := by simp [hRl]
      (repeat' first | simp -dsimp (disch := first | omega | assumption | (refine OkS.sto ?_ (by omega); first | assumption | (refine OkS.sto ?_ (by omega); first | assumption | (refine OkS.sto ?_ (by omega); first | assumption | (refine OkS.sto ?_ (by omega); first | assumption | (refine OkS.sto ?_ (by omega); first | assumption | (refine OkS.sto ?_ (by omega); first | assumption)))))) | exact Pfx.refl _ | (apply Pfx.snoc; repeat (first | exact Pfx.refl _ | assumption | apply Pfx.snoc)) | with_unfolding_all exact of_eq_true (eq_true rfl) | (simp only [List.length_append, List.length_cons, List.length_nil]; omega)) only [↓wpre0, ↓wpre1, ↓reduceIte, Int.reduceToNat, Nat.reduceAdd, Nat.reduceMul, Nat.reduceEqDiff, wpost0, wpost1, wpost2, wpost3, wpost4, ite_self, ite_true, ite_false, if_true, if_false, un_not, bin_gtr, bin_add, bin_sub, xbls36_0, xbls36_1, bin_lss, fr75, wrap_int, wrap_u8, iteP_yes, iteP_no, g0, g1, g2, g3, g4, g14, g52, g53, hkj, hbl, ap] | refine iteP_two (fun hc hd => ?_) (fun hc hd => ?_) | refine iteP_intro (fun hc => ?_) (fun hc => ?_))
      refine ⟨3 - (j + 1), by omega, j + 1, .slice (some ⟨H1.length + 1, 0, none⟩) (j + 1) (j + 1 + 1), R ++ [w], ?_⟩
      (repeat' (first | assumption | rfl | omega | (rw [hks]) | refine And.intro ?_ ?_))
    · have ej : j = 3 := by omega
      subst ej
      have hnf : Sim.flat (.tuple ⟨[z, .bool true]⟩) = false := by obtain ⟨_, b, cap, rfl, _⟩ := hZ; rfl
      (repeat' first | simp -dsimp (disch := first | omega | assumption | (refine OkS.sto ?_ (by omega); first | assumption | (refine OkS.sto ?_ (by omega); first | assumption | (refine OkS.sto ?_ (by omega); first | assumption | (refine OkS.sto ?_ (by omega); first | assumption | (refine OkS.sto ?_ (by omega); first | assumption | (refine OkS.sto ?_ (by omega); first | assumption)))))) | exact Pfx.refl _ | (apply Pfx.snoc; repeat (first | exact Pfx.refl _ | assumption | apply Pfx.snoc)) | with_unfolding_all exact of_eq_true (eq_true rfl) | (simp only [List.length_append, List.length_cons, List.length_nil]; omega)) only [↓wpre0, ↓wpre1, ↓reduceIte, Int.reduceToNat, Nat.reduceAdd, Nat.reduceMul, Nat.reduceEqDiff, wpost0, wpost1, wpost2, wpost3, wpost4, ite_self, ite_true, ite_false, if_true, if_false, un_not, bin_gtr, bin_add, bin_sub, xbls36_0, xbls36_1, bin_lss, fr75, wrap_int, wrap_u8, iteP_yes, iteP_no, g0, g1, g2, g3, g4, g14, g52, g53, endH_not hnf] | refine iteP_two (fun hc hd => ?_) (fun hc hd => ?_) | refine iteP_intro (fun hc => ?_) (fun hc => ?_))
      exact ⟨z, R, rfl, hp, hZ, fun i hi => hR.row i (by omega)⟩
end Go.Proofs.Ytelogajobjflfaa.Sim

/- Directions and numbers that a law draws; wrong symbols. Lemmas only; no condition. -/
set_option linter.unusedSimpArgs false
set_option linter.unusedVariables false
set_option maxRecDepth 8000
namespace Go.Proofs.Ytelogajobjflfaa.Sim
open Go Go.RowKit Fl
variable {ro lo hi lo' hi' n : Nat} {X : Ext} {h : Heap} {x y : Value} {l : List Int} {u v : Int} {g s0 s k lev : Nat} {cd : List UInt8}
theorem xbld107_0_1_2 {u v s : Int} {g : Nat} : bld Try.prog 107 [(0, .agg ⟨[.int .i64 u, .int .i64 v]⟩), (1, .float .f32 g), (2, .int .i64 s)] = some (.agg ⟨[.int .i64 u, .int .i64 v, .float .f32 g, .int .i64 s]⟩) := by kernel_rfl
theorem r8Long_r (hX : X 40 = none) {lo hi lo' hi' n n' : Nat} {x y : Value} {L M : List Value} {h : Heap} (hV : VS lo hi 1 h x n L) (hU : VS lo' hi' 1 h y n' M) (hn : n ≤ 140737488355328) (hn' : n' ≤ 140737488355328) : Ret Try.prog ro X 40 [x, y] h (.bool (decide (48 < n) || decide (48 < n'))) := by
  refine ret_of (callR_of hX Try.func40 rfl (by kernel_rfl) (Nat.le_of_ble_eq_true rfl) ?_)
  (repeat' first | simp -dsimp (disch := first | omega | assumption | (refine OkS.sto ?_ (by omega); first | assumption | (refine OkS.sto ?_ (by omega); first | assumption | (refine OkS.sto ?_ (by omega); first | assumption | (refine OkS.sto ?_ (by omega); first | assumption | (refine OkS.sto ?_ (by omega); first | assumption | (refine OkS.sto ?_ (by omega); first | assumption)))))) | exact Pfx.refl _ | (apply Pfx.snoc; repeat (first | exact Pfx.refl _ | assumption | apply Pfx.snoc)) | with_unfolding_all exact of_eq_true (eq_true rfl) | (simp only [List.length_append, List.length_cons, List.length_nil]; omega)) only [↓wpre0, ↓wpre1, ↓reduceIte, Int.reduceToNat, Nat.reduceAdd, Nat.reduceMul, Nat.reduceEqDiff, wpost0, wpost1, wpost2, wpost3, wpost4, ite_self, ite_true, ite_false, if_true, if_false, xlen22, bin_gtr, fr40, wrap_int, wrap_u8, iteP_yes, iteP_no, hV.len Try.underlying22, hU.len Try.underlying22] | refine iteP_two (fun hc hd => ?_) (fun hc hd => ?_) | refine iteP_intro (fun hc => ?_) (fun hc => ?_))
  all_goals first
    | (rw [decide_eq_true (p := 48 < n) (by omega)]; rfl)
    | (rw [decide_eq_false (p := 48 < n) (by omega), Bool.false_or]; congr 1; exact decide_eq_decide.2 (by omega))
theorem r8At_r (hX : X 47 = none) {lo hi : Nat} {x : Value} {cd : List UInt8} {h : Heap} {i n : Int} (hV : VS lo hi 1 h x cd.length (cd.map u8v)) (h0 : 0 ≤ i) (h1 : i ≤ 100000) (hn : 2 ≤ n) (hn2 : n ≤ 100000) (hl : cd.length ≤ 1099511627776) : ∃ v : Nat, (v : Int) < n ∧ Ret Try.prog ro X 47 [x, .int .i64 i, .int .i64 n] h (.int .i64 v) := by
  by_cases hin : i < cd.length
  · obtain ⟨m, rfl⟩ : ∃ m : Nat, i = m := ⟨i.toNat, by omega⟩
    have hm : m < cd.length := by omega
    have hld : ld Try.prog h 5 (ea x (m * 1)) = some (.int .u8 ((cd[m]'hm).toNat : Int)) := by
      rw [hV.ld1 tsz5 tag5 (by omega), Nat.mul_one]
      simp [vth, u8v, List.getD_eq_getElem?_getD, hm]
    have hb := (cd[m]'hm).toNat_lt
    generalize (cd[m]'hm).toNat = w at *
    have hmod : ((w : Int).tmod n) = ((w % n.toNat : Nat) : Int) := by
      rw [Int.tmod_eq_emod_of_nonneg (by omega)]
      conv => lhs; rw [show n = (n.toNat : Int) by omega]
      rfl
    have hlt : w % n.toNat < n.toNat := Nat.mod_lt _ (by omega)
    refine ⟨w % n.toNat, by omega, ?_⟩
    refine ret_of (callR_of hX Try.func47 rfl (by kernel_rfl) (Nat.le_of_ble_eq_true rfl) ?_)
    (repeat' first | simp -dsimp (disch := first | omega | assumption | (refine OkS.sto ?_ (by omega); first | assumption | (refine OkS.sto ?_ (by omega); first | assumption | (refine OkS.sto ?_ (by omega); first | assumption | (refine OkS.sto ?_ (by omega); first | assumption | (refine OkS.sto ?_ (by omega); first | assumption | (refine OkS.sto ?_ (by omega); first | assumption)))))) | exact Pfx.refl _ | (apply Pfx.snoc; repeat (first | exact Pfx.refl _ | assumption | apply Pfx.snoc)) | with_unfolding_all exact of_eq_true (eq_true rfl) | (simp only [List.length_append, List.length_cons, List.length_nil]; omega)) only [↓wpre0, ↓wpre1, ↓reduceIte, Int.reduceToNat, Nat.reduceAdd, Nat.reduceMul, Nat.reduceEqDiff, wpost0, wpost1, wpost2, wpost3, wpost4, ite_self, ite_true, ite_false, if_true, if_false, bin_leq, xlen22, bin_geq, xiad22, xld5, xcv5_2, bin_rem, fr47, wrap_int, wrap_u8, iteP_yes, iteP_no, hV.len Try.underlying22, hV.iad Try.underlying22 tsz5, Int.toNat_natCast, hld, bin_rem, hmod] | refine iteP_two (fun hc hd => ?_) (fun hc hd => ?_) | refine iteP_intro (fun hc => ?_) (fun hc => ?_))
  · refine ⟨0, by omega, ?_⟩
    refine ret_of (callR_of hX Try.func47 rfl (by kernel_rfl) (Nat.le_of_ble_eq_true rfl) ?_)
    (repeat' first | simp -dsimp (disch := first | omega | assumption | (refine OkS.sto ?_ (by omega); first | assumption | (refine OkS.sto ?_ (by omega); first | assumption | (refine OkS.sto ?_ (by omega); first | assumption | (refine OkS.sto ?_ (by omega); first | assumption | (refine OkS.sto ?_ (by omega); first | assumption | (refine OkS.sto ?_ (by omega); first | assumption)))))) | exact Pfx.refl _ | (apply Pfx.snoc; repeat (first | exact Pfx.refl _ | assumption | apply Pfx.snoc)) | with_unfolding_all exact of_eq_true (eq_true rfl) | (simp only [List.length_append, List.length_cons, List.length_nil]; omega)) only [↓wpre0, ↓wpre1, ↓reduceIte, Int.reduceToNat, Nat.reduceAdd, Nat.reduceMul, Nat.reduceEqDiff, wpost0, wpost1, wpost2, wpost3, wpost4, ite_self, ite_true, ite_false, if_true, if_false, bin_leq, xlen22, bin_geq, xiad22, xld5, xcv5_2, bin_rem, fr47, wrap_int, wrap_u8, iteP_yes, iteP_no, hV.len Try.underlying22] | refine iteP_two (fun hc hd => ?_) (fun hc hd => ?_) | refine iteP_intro (fun hc => ?_) (fun hc => ?_))
    rfl
set_option maxHeartbeats 2000000 in
theorem EightD_c (hX : XN X) (hV : VS lo hi 1 h x n (cd.map u8v)) (hro : ro ≤ h.length) (hhi : hi ≤ h.length) (hl : cd.length ≤ 1099511627776) :
    CallR Try.prog ro X 71 [x] h (fun r h' => ∃ a b : Nat, a < 91 ∧ b < 91 ∧ r = .agg ⟨[.int .i64 ((a : Int) - 45), .int .i64 ((b : Int) - 45)]⟩ ∧ h' = h) := by
  refine callR_of (hX _ rfl) Try.func71 rfl (by kernel_rfl) (Nat.le_of_ble_eq_true rfl) ?_
  (repeat' first | simp -dsimp (disch := first | omega | assumption | (refine OkS.sto ?_ (by omega); first | assumption | (refine OkS.sto ?_ (by omega); first | assumption | (refine OkS.sto ?_ (by omega); first | assumption | (refine OkS.sto ?_ (by omega); first | assumption | (refine OkS.sto ?_ (by omega); first | assumption | (refine OkS.sto ?_ (by omega); first | assumption)))))) | exact Pfx.refl _ | (apply Pfx.snoc; repeat (first | exact Pfx.refl _ | assumption | apply Pfx.snoc)) | with_unfolding_all exact of_eq_true (eq_true rfl) | (simp only [List.length_append, List.length_cons, List.length_nil]; omega)) only [↓wpre0, ↓wpre1, ↓reduceIte, Int.reduceToNat, Nat.reduceAdd, Nat.reduceMul, Nat.reduceEqDiff, wpost0, wpost1, wpost2, wpost3, wpost4, ite_self, ite_true, ite_false, if_true, if_false, tze62, bin_sub, xbld62_0, xst62, xfad62_1, xst2, xld62, fr71, wrap_int, wrap_u8, iteP_yes, iteP_no] | refine iteP_two (fun hc hd => ?_) (fun hc hd => ?_) | refine iteP_intro (fun hc => ?_) (fun hc => ?_))
  have p0 : Pfx h (h ++ [(⟨62, [.int .i64 0, .int .i64 0]⟩ : Blk)]) := (Pfx.refl h).snoc
  have l0 : (h ++ [(⟨62, [.int .i64 0, .int .i64 0]⟩ : Blk)]).length = h.length + 1 := by simp
  refine cf_rel (From_c (hX _ rfl) (hV.pre p0) (by omega)) (fun q => by cases q) ?_
  rintro r H1 ⟨rfl, p1, l1, S1⟩
  rw [l0] at l1 S1
  (repeat' first | simp -dsimp (disch := first | omega | assumption | (refine OkS.sto ?_ (by omega); first | assumption | (refine OkS.sto ?_ (by omega); first | assumption | (refine OkS.sto ?_ (by omega); first | assumption | (refine OkS.sto ?_ (by omega); first | assumption | (refine OkS.sto ?_ (by omega); first | assumption | (refine OkS.sto ?_ (by omega); first | assumption)))))) | exact Pfx.refl _ | (apply Pfx.snoc; repeat (first | exact Pfx.refl _ | assumption | apply Pfx.snoc)) | with_unfolding_all exact of_eq_true (eq_true rfl) | (simp only [List.length_append, List.length_cons, List.length_nil]; omega)) only [↓wpre0, ↓wpre1, ↓reduceIte, Int.reduceToNat, Nat.reduceAdd, Nat.reduceMul, Nat.reduceEqDiff, wpost0, wpost1, wpost2, wpost3, wpost4, ite_self, ite_true, ite_false, if_true, if_false, tze62, bin_sub, xbld62_0, xst62, xfad62_1, xst2, xld62, fr71, wrap_int, wrap_u8, iteP_yes, iteP_no, l0] | refine iteP_two (fun hc hd => ?_) (fun hc hd => ?_) | refine iteP_intro (fun hc => ?_) (fun hc => ?_))
  refine cf_rel (pick_c (hX _ rfl) (hX _ rfl) (n := 91) S1 (by omega) (by omega) (by omega) hl (by omega)) (fun q => by cases q) ?_
  rintro r H2 ⟨a, rfl, _, ha, S2, o2⟩
  have ha' := ha (by omega)
  have l2 := o2.1
  (repeat' first | simp -dsimp (disch := first | omega | assumption | (refine OkS.sto ?_ (by omega); first | assumption | (refine OkS.sto ?_ (by omega); first | assumption | (refine OkS.sto ?_ (by omega); first | assumption | (refine OkS.sto ?_ (by omega); first | assumption | (refine OkS.sto ?_ (by omega); first | assumption | (refine OkS.sto ?_ (by omega); first | assumption)))))) | exact Pfx.refl _ | (apply Pfx.snoc; repeat (first | exact Pfx.refl _ | assumption | apply Pfx.snoc)) | with_unfolding_all exact of_eq_true (eq_true rfl) | (simp only [List.length_append, List.length_cons, List.length_nil]; omega)) only [↓wpre0, ↓wpre1, ↓reduceIte, Int.reduceToNat, Nat.reduceAdd, Nat.reduceMul, Nat.reduceEqDiff, wpost0, wpost1, wpost2, wpost3, wpost4, ite_self, ite_true, ite_false, if_true, if_false, tze62, bin_sub, xbld62_0, xst62, xfad62_1, xst2, xld62, fr71, wrap_int, wrap_u8, iteP_yes, iteP_no, l0] | refine iteP_two (fun hc hd => ?_) (fun hc hd => ?_) | refine iteP_intro (fun hc => ?_) (fun hc => ?_))
  have p2 : Pfx H2 (H2 ++ [(⟨62, [.int .i64 ((a : Int) - 45), .int .i64 0]⟩ : Blk)]) := (Pfx.refl H2).snoc
  have l3 : (H2 ++ [(⟨62, [.int .i64 ((a : Int) - 45), .int .i64 0]⟩ : Blk)]).length = H2.length + 1 := by simp
  refine cf_rel (pick_c (hX _ rfl) (hX _ rfl) (n := 91) (S2.pre p2) (by omega) (by omega) (by omega) hl (by omega)) (fun q => by cases q) ?_
  rintro r H4 ⟨b, rfl, _, hb, S4, o4⟩
  have hb' := hb (by omega)
  have l4 := o4.1
  have D4 : H4[H2.length]? = some ⟨62, [.int .i64 ((a : Int) - 45), .int .i64 0]⟩ := by
    rw [o4.2 _ (by omega)]; exact get_last rfl
  have P4 : put ro H4 H2.length 1 1 (.int .i64 ((b : Int) - 45)) = some (H4.set H2.length ⟨62, [.int .i64 ((a : Int) - 45), .int .i64 ((b : Int) - 45)]⟩) := putb (n := 1) (o := 1) D4 (by omega) rfl (by simp) rfl
  have C5 : cells (H4.set H2.length ⟨62, [.int .i64 ((a : Int) - 45), .int .i64 ((b : Int) - 45)]⟩) H2.length 0 2 = some (.agg ⟨[.int .i64 ((a : Int) - 45), .int .i64 ((b : Int) - 45)]⟩) := cells_set (o := 0) (n := 2) (by omega) (by simp)
  have D5 : (H4.set H2.length ⟨62, [.int .i64 ((a : Int) - 45), .int .i64 ((b : Int) - 45)]⟩)[h.length]? = some ⟨62, [.int .i64 0, .int .i64 0]⟩ := by
    rw [set_get (by omega), o4.2 _ (by omega), p2.get (by omega), o2.2 _ (by omega), p1.get (by omega)]
    exact get_last rfl
  have P5 : put ro (H4.set H2.length ⟨62, [.int .i64 ((a : Int) - 45), .int .i64 ((b : Int) - 45)]⟩) h.length 0 2 (.agg ⟨[.int .i64 ((a : Int) - 45), .int .i64 ((b : Int) - 45)]⟩) = some ((H4.set H2.length ⟨62, [.int .i64 ((a : Int) - 45), .int .i64 ((b : Int) - 45)]⟩).set h.length ⟨62, [.int .i64 ((a : Int) - 45), .int .i64 ((b : Int) - 45)]⟩) := putb (n := 2) (o := 0) D5 (by omega) rfl (by simp) rfl
  have C6 : cells ((H4.set H2.length ⟨62, [.int .i64 ((a : Int) - 45), .int .i64 ((b : Int) - 45)]⟩).set h.length ⟨62, [.int .i64 ((a : Int) - 45), .int .i64 ((b : Int) - 45)]⟩) h.length 0 2 = some (.agg ⟨[.int .i64 ((a : Int) - 45), .int .i64 ((b : Int) - 45)]⟩) := cells_set (o := 0) (n := 2) (by rw [List.length_set]; omega) (by simp)
  have pH : Pfx h ((H4.set H2.length ⟨62, [.int .i64 ((a : Int) - 45), .int .i64 ((b : Int) - 45)]⟩).set h.length ⟨62, [.int .i64 ((a : Int) - 45), .int .i64 ((b : Int) - 45)]⟩) := by
    have q1 : Pfx h H2 := pfx_onl (p0.trans p1) o2 (by omega)
    have q2 : Pfx h H4 := pfx_onl (q1.trans p2) o4 (by omega)
    exact (q2.set (by omega)).set (Nat.le_refl _)
  have ef : endH (.agg ⟨[.int .i64 ((a : Int) - 45), .int .i64 ((b : Int) - 45)]⟩) h ((H4.set H2.length ⟨62, [.int .i64 ((a : Int) - 45), .int .i64 ((b : Int) - 45)]⟩).set h.length ⟨62, [.int .i64 ((a : Int) - 45), .int .i64 ((b : Int) - 45)]⟩) = h := endH_flat rfl pH
  (repeat' first | simp -dsimp (disch := first | omega | assumption | (refine OkS.sto ?_ (by omega); first | assumption | (refine OkS.sto ?_ (by omega); first | assumption | (refine OkS.sto ?_ (by omega); first | assumption | (refine OkS.sto ?_ (by omega); first | assumption | (refine OkS.sto ?_ (by omega); first | assumption | (refine OkS.sto ?_ (by omega); first | assumption)))))) | exact Pfx.refl _ | (apply Pfx.snoc; repeat (first | exact Pfx.refl _ | assumption | apply Pfx.snoc)) | with_unfolding_all exact of_eq_true (eq_true rfl) | (simp only [List.length_append, List.length_cons, List.length_nil]; omega)) only [↓wpre0, ↓wpre1, ↓reduceIte, Int.reduceToNat, Nat.reduceAdd, Nat.reduceMul, Nat.reduceEqDiff, wpost0, wpost1, wpost2, wpost3, wpost4, ite_self, ite_true, ite_false, if_true, if_false, tze62, bin_sub, xbld62_0, xst62, xfad62_1, xst2, xld62, fr71, wrap_int, wrap_u8, iteP_yes, iteP_no, l0, P4, C5, P5, C6, ef] | refine iteP_two (fun hc hd => ?_) (fun hc hd => ?_) | refine iteP_intro (fun hc => ?_) (fun hc => ?_))
  exact ⟨a, b, by omega, by omega, rfl⟩
/-- A complex number, turned. -/
def ngB (u : CB) : CB := ⟨cf .f32 (Op.negFloat .f32 u.a), cf .f32 (Op.negFloat .f32 u.b)⟩

def eqC (u w : CB) : Bool := fcmp .eql .f32 u.a w.a && fcmp .eql .f32 u.b w.b
theorem half_tab : ∀ a : Fin 2, fcmp .eql .f32 (hfB a) (hfB a) = true ∧ fcmp .eql .f32 (cf .f32 (Op.negFloat .f32 (hfB a))) (hfB a) = false ∧ fcmp .leq .f32 0 (hfB a) = decide (a.val = 0) := by decide +kernel
theorem hfB_two (k : Nat) : hfB k = hfB (k % 2) := by unfold hfB; rw [Nat.mod_mod]
theorem half_eq (k : Nat) : fcmp .eql .f32 (hfB k) (hfB k) = true := by rw [hfB_two]; exact (half_tab ⟨k % 2, Nat.mod_lt _ (by decide)⟩).1
theorem half_ne (k : Nat) : fcmp .eql .f32 (cf .f32 (Op.negFloat .f32 (hfB k))) (hfB k) = false := by rw [hfB_two]; exact (half_tab ⟨k % 2, Nat.mod_lt _ (by decide)⟩).2.1
theorem half_sg (k : Nat) : fcmp .leq .f32 0 (hfB k) = decide (k % 2 = 0) := by rw [hfB_two]; exact (half_tab ⟨k % 2, Nat.mod_lt _ (by decide)⟩).2.2
theorem half_pow : ∀ a b : Fin 2, fcmp .eql .f32 (nr (pwF ⟨hfB a, hfB b⟩)) 1056964608 = true := by decide +kernel
theorem syF_pow (s k : Nat) : fcmp .eql .f32 (nr (pwF (syF s k))) 1056964608 = true := by
  have := half_pow ⟨(drN s (2 * k) / 16384) % 2, Nat.mod_lt _ (by decide)⟩ ⟨(drN s (2 * k) / 8192) % 2, Nat.mod_lt _ (by decide)⟩
  simp only [← hfB_two] at this
  exact this
theorem syF_eq (s k : Nat) : eqC (syF s k) (syF s k) = true := by unfold eqC syF; simp only [half_eq, Bool.and_self]
theorem syF_ne (s k : Nat) : eqC (ngB (syF s k)) (syF s k) = false := by unfold eqC ngB syF; simp only [half_ne, Bool.false_and]
theorem signHalf_r (hX : XN X) (k : Nat) (h : Heap) : Ret Try.prog ro X 158 [.float .f32 (hfB k)] h (.float .f32 (hfB k)) := by
  have hs := half_sg k
  rcases (show k % 2 = 0 ∨ k % 2 = 1 by omega) with q | q
  · have e : hfB k = 1056964608 := by unfold hfB; rw [if_neg (by omega)]
    rw [decide_eq_true q, e] at hs
    rw [e]
    refine ret_of (callR_of (hX _ rfl) Try.func158 rfl (by kernel_rfl) (Nat.le_of_ble_eq_true rfl) ?_)
    (repeat' first | simp -dsimp (disch := first | omega | assumption | (refine OkS.sto ?_ (by omega); first | assumption | (refine OkS.sto ?_ (by omega); first | assumption | (refine OkS.sto ?_ (by omega); first | assumption | (refine OkS.sto ?_ (by omega); first | assumption | (refine OkS.sto ?_ (by omega); first | assumption | (refine OkS.sto ?_ (by omega); first | assumption)))))) | exact Pfx.refl _ | (apply Pfx.snoc; repeat (first | exact Pfx.refl _ | assumption | apply Pfx.snoc)) | with_unfolding_all exact of_eq_true (eq_true rfl) | (simp only [List.length_append, List.length_cons, List.length_nil]; omega)) only [↓wpre0, ↓wpre1, ↓reduceIte, Int.reduceToNat, Nat.reduceAdd, Nat.reduceMul, Nat.reduceEqDiff, wpost0, wpost1, wpost2, wpost3, wpost4, ite_self, ite_true, ite_false, if_true, if_false, bin_fgeq, fr158, wrap_int, wrap_u8, iteP_yes, iteP_no, hs] | refine iteP_two (fun hc hd => ?_) (fun hc hd => ?_) | refine iteP_intro (fun hc => ?_) (fun hc => ?_))
  · have e : hfB k = 3204448256 := by unfold hfB; rw [if_pos q]
    rw [decide_eq_false (by omega), e] at hs
    rw [e]
    refine ret_of (callR_of (hX _ rfl) Try.func158 rfl (by kernel_rfl) (Nat.le_of_ble_eq_true rfl) ?_)
    (repeat' first | simp -dsimp (disch := first | omega | assumption | (refine OkS.sto ?_ (by omega); first | assumption | (refine OkS.sto ?_ (by omega); first | assumption | (refine OkS.sto ?_ (by omega); first | assumption | (refine OkS.sto ?_ (by omega); first | assumption | (refine OkS.sto ?_ (by omega); first | assumption | (refine OkS.sto ?_ (by omega); first | assumption)))))) | exact Pfx.refl _ | (apply Pfx.snoc; repeat (first | exact Pfx.refl _ | assumption | apply Pfx.snoc)) | with_unfolding_all exact of_eq_true (eq_true rfl) | (simp only [List.length_append, List.length_cons, List.length_nil]; omega)) only [↓wpre0, ↓wpre1, ↓reduceIte, Int.reduceToNat, Nat.reduceAdd, Nat.reduceMul, Nat.reduceEqDiff, wpost0, wpost1, wpost2, wpost3, wpost4, ite_self, ite_true, ite_false, if_true, if_false, bin_fgeq, fr158, wrap_int, wrap_u8, iteP_yes, iteP_no, hs] | refine iteP_two (fun hc hd => ?_) (fun hc hd => ?_) | refine iteP_intro (fun hc => ?_) (fun hc => ?_))
theorem Nearest_r (hX : XN X) (s k : Nat) (h : Heap) : Ret Try.prog ro X 68 [toV (syF s k)] h (toV (syF s k)) := by
  refine ret_of (callR_of (hX _ rfl) Try.func68 rfl (by kernel_rfl) (Nat.le_of_ble_eq_true rfl) ?_)
  unfold syF
  (repeat' first | simp -dsimp (disch := first | omega | assumption | (refine OkS.sto ?_ (by omega); first | assumption | (refine OkS.sto ?_ (by omega); first | assumption | (refine OkS.sto ?_ (by omega); first | assumption | (refine OkS.sto ?_ (by omega); first | assumption | (refine OkS.sto ?_ (by omega); first | assumption | (refine OkS.sto ?_ (by omega); first | assumption)))))) | exact Pfx.refl _ | (apply Pfx.snoc; repeat (first | exact Pfx.refl _ | assumption | apply Pfx.snoc)) | with_unfolding_all exact of_eq_true (eq_true rfl) | (simp only [List.length_append, List.length_cons, List.length_nil]; omega)) only [↓wpre0, ↓wpre1, ↓reduceIte, Int.reduceToNat, Nat.reduceAdd, Nat.reduceMul, Nat.reduceEqDiff, wpost0, wpost1, wpost2, wpost3, wpost4, ite_self, ite_true, ite_false, if_true, if_false, blt_real, blt_imag, blt_cpx, fr68, wrap_int, wrap_u8, iteP_yes, iteP_no, signHalf_r hX] | refine iteP_two (fun hc hd => ?_) (fun hc hd => ?_) | refine iteP_intro (fun hc => ?_) (fun hc => ?_))
set_option maxHeartbeats 2000000 in
theorem Wrong_r (hX : XN X) {c : CB} (hR : RowB lo h y 1 (fun _ => c)) (hs : s ≤ 2147483647) (hk : k ≤ 900000) (h' : Heap) (hh : h' = h) : Ret Try.prog ro X 81 [y, .int .i64 s, .int .i64 k] h' (.tuple ⟨[.int .i64 (if eqC c (syF s k) = true then 0 else 1), .bool true]⟩) := by
  subst hh
  have e1 : (k : Int) + ((1 : Nat) : Int) - 1 = (k : Int) := by omega
  refine ret_of (callR_of (hX _ rfl) Try.func81 rfl (by kernel_rfl) (Nat.le_of_ble_eq_true rfl) ?_)
  (repeat' first | simp -dsimp (disch := first | omega | assumption | (refine OkS.sto ?_ (by omega); first | assumption | (refine OkS.sto ?_ (by omega); first | assumption | (refine OkS.sto ?_ (by omega); first | assumption | (refine OkS.sto ?_ (by omega); first | assumption | (refine OkS.sto ?_ (by omega); first | assumption | (refine OkS.sto ?_ (by omega); first | assumption)))))) | exact Pfx.refl _ | (apply Pfx.snoc; repeat (first | exact Pfx.refl _ | assumption | apply Pfx.snoc)) | with_unfolding_all exact of_eq_true (eq_true rfl) | (simp only [List.length_append, List.length_cons, List.length_nil]; omega)) only [↓wpre0, ↓wpre1, ↓reduceIte, Int.reduceToNat, Nat.reduceAdd, Nat.reduceMul, Nat.reduceEqDiff, wpost0, wpost1, wpost2, wpost3, wpost4, ite_self, ite_true, ite_false, if_true, if_false, xlen44, bin_gtr, un_not, bin_add, bin_sub, bin_lss, xiad44, xld46, bin_cneq, fr81, wrap_int, wrap_u8, iteP_yes, iteP_no, hR.len, isSeed_r hX hs, isIndex_r hX (show k ≤ 1000000 by omega), e1] | refine iteP_two (fun hc hd => ?_) (fun hc hd => ?_) | refine iteP_intro (fun hc => ?_) (fun hc => ?_))
  refine loop_rounds (fun mm e h2 => ∃ j : Nat, mm = 1 - j ∧ j ≤ 1 ∧ h2 = h' ∧ e 1 = .int .i64 s ∧ e 2 = .int .i64 k ∧ e 9 = .int .i64 (if j = 0 then 0 else if eqC c (syF s k) = true then 0 else 1) ∧ e 38 = y ∧ e 39 = .int .i64 1 ∧ e 40 = .int .i64 j) _ ⟨0, rfl, ?_⟩ ?_
  · simp only [updO_at, updO_not, entry_at, List.getD_cons_zero, List.getD_cons_succ, ↓reduceIte, Nat.reduceEqDiff, true_and, and_true]
    (repeat' (first | assumption | rfl | omega | refine And.intro ?_ ?_))
  · rintro mm e h2 ⟨j, hmm, hj, rfl, g1, g2, g9, g38, g39, g40⟩
    rcases (show j = 0 ∨ j = 1 by omega) with rfl | rfl
    · have hld := hR.ld (i := 0) (by omega)
      have hsy := symbol_r (ro := ro) hX hs (show k ≤ 1000000 by omega)
      have e0 : (k : Int) + ((0 : Nat) : Int) = (k : Int) := by omega
      cases hq : eqC c (syF s k) with
      | true =>
        have hq' := hq
        unfold eqC at hq'
        (repeat' first | simp -dsimp (disch := first | omega | assumption | (refine OkS.sto ?_ (by omega); first | assumption | (refine OkS.sto ?_ (by omega); first | assumption | (refine OkS.sto ?_ (by omega); first | assumption | (refine OkS.sto ?_ (by omega); first | assumption | (refine OkS.sto ?_ (by omega); first | assumption | (refine OkS.sto ?_ (by omega); first | assumption)))))) | exact Pfx.refl _ | (apply Pfx.snoc; repeat (first | exact Pfx.refl _ | assumption | apply Pfx.snoc)) | with_unfolding_all exact of_eq_true (eq_true rfl) | (simp only [List.length_append, List.length_cons, List.length_nil]; omega)) only [↓wpre0, ↓wpre1, ↓reduceIte, Int.reduceToNat, Nat.reduceAdd, Nat.reduceMul, Nat.reduceEqDiff, wpost0, wpost1, wpost2, wpost3, wpost4, ite_self, ite_true, ite_false, if_true, if_false, xlen44, bin_gtr, un_not, bin_add, bin_sub, bin_lss, xiad44, xld46, bin_cneq, fr81, wrap_int, wrap_u8, iteP_yes, iteP_no, g1, g2, g9, g38, g39, g40, hR.iad, hld, hsy, e0, hq'] | refine iteP_two (fun hc hd => ?_) (fun hc hd => ?_) | refine iteP_intro (fun hc => ?_) (fun hc => ?_))
        exact ⟨0, by omega, 1, by (repeat' (first | assumption | rfl | omega | refine And.intro ?_ ?_))⟩
      | false =>
        have hq' := hq
        unfold eqC at hq'
        (repeat' first | simp -dsimp (disch := first | omega | assumption | (refine OkS.sto ?_ (by omega); first | assumption | (refine OkS.sto ?_ (by omega); first | assumption | (refine OkS.sto ?_ (by omega); first | assumption | (refine OkS.sto ?_ (by omega); first | assumption | (refine OkS.sto ?_ (by omega); first | assumption | (refine OkS.sto ?_ (by omega); first | assumption)))))) | exact Pfx.refl _ | (apply Pfx.snoc; repeat (first | exact Pfx.refl _ | assumption | apply Pfx.snoc)) | with_unfolding_all exact of_eq_true (eq_true rfl) | (simp only [List.length_append, List.length_cons, List.length_nil]; omega)) only [↓wpre0, ↓wpre1, ↓reduceIte, Int.reduceToNat, Nat.reduceAdd, Nat.reduceMul, Nat.reduceEqDiff, wpost0, wpost1, wpost2, wpost3, wpost4, ite_self, ite_true, ite_false, if_true, if_false, xlen44, bin_gtr, un_not, bin_add, bin_sub, bin_lss, xiad44, xld46, bin_cneq, fr81, wrap_int, wrap_u8, iteP_yes, iteP_no, g1, g2, g9, g38, g39, g40, hR.iad, hld, hsy, e0, hq'] | refine iteP_two (fun hc hd => ?_) (fun hc hd => ?_) | refine iteP_intro (fun hc => ?_) (fun hc => ?_))
        exact ⟨0, by omega, 1, by (repeat' (first | assumption | rfl | omega | refine And.intro ?_ ?_))⟩
    · (repeat' first | simp -dsimp (disch := first | omega | assumption | (refine OkS.sto ?_ (by omega); first | assumption | (refine OkS.sto ?_ (by omega); first | assumption | (refine OkS.sto ?_ (by omega); first | assumption | (refine OkS.sto ?_ (by omega); first | assumption | (refine OkS.sto ?_ (by omega); first | assumption | (refine OkS.sto ?_ (by omega); first | assumption)))))) | exact Pfx.refl _ | (apply Pfx.snoc; repeat (first | exact Pfx.refl _ | assumption | apply Pfx.snoc)) | with_unfolding_all exact of_eq_true (eq_true rfl) | (simp only [List.length_append, List.length_cons, List.length_nil]; omega)) only [↓wpre0, ↓wpre1, ↓reduceIte, Int.reduceToNat, Nat.reduceAdd, Nat.reduceMul, Nat.reduceEqDiff, wpost0, wpost1, wpost2, wpost3, wpost4, ite_self, ite_true, ite_false, if_true, if_false, xlen44, bin_gtr, un_not, bin_add, bin_sub, bin_lss, xiad44, xld46, bin_cneq, fr81, wrap_int, wrap_u8, iteP_yes, iteP_no, g1, g2, g9, g38, g39, g40] | refine iteP_two (fun hc hd => ?_) (fun hc hd => ?_) | refine iteP_intro (fun hc => ?_) (fun hc => ?_))
end Go.Proofs.Ytelogajobjflfaa.Sim

/- What FnSnapshots leans on. Lemmas only; no condition. -/
set_option linter.unusedSimpArgs false
set_option linter.unusedVariables false
set_option maxRecDepth 8000
namespace Go.Proofs.Ytelogajobjflfaa.Sim
open Go Go.RowKit Fl
variable {ro lo hi lo' hi' n : Nat} {X : Ext} {h : Heap} {x y : Value} {l : List Int} {u v : Int} {g s0 s k lev : Nat} {cd md : List UInt8}
/-- A gain in quarters. -/
def gnF (q : Nat) : Nat := farith .quo .f32 (cf .f32 (FloatKind.f32.nearest (1 + (q : Int)))) 1082130432
theorem gnF_bd {q : Nat} (hq : q < 8) : bd .f32 150 (gnF q) := by
  have hn : bd .f32 152 (cf .f32 (FloatKind.f32.nearest (1 + (q : Int)))) := by
    have e24 : (2 : Nat) ^ 24 = 16777216 := by decide
    refine (nearest_fx .f32 (n := 1 + (q : Int)) (show (1 + (q : Int)).natAbs < 2 ^ 24 by rw [e24]; omega)).bd ?_
    rw [abs_mul_pow, show (-lp .f32).toNat = 149 by decide]
    exact mul_pow_le (n := 152) (b := 3) (m := 149) (by omega) rfl
  exact quo_bd hn (w := 151) (big_of (by decide +kernel)) (by decide) (by decide)
theorem scS_bd {s k q : Nat} (hq : q < 8) : bdC 149 (scB (syF s k) (gnF q)) := ⟨mul_bd (syF_bd s k).a (gnF_bd hq) (by decide) (by decide), mul_bd (syF_bd s k).b (gnF_bd hq) (by decide) (by decide)⟩
theorem snM_bd (hg : goodP n l) (hd : dirB u v = true) {q : Nat} (hq : q < 8) {i : Nat} (hi : i < n) : bdC 154 (snM l u v (gnF q) s0 k i) := (mulB_bd (scS_bd hq) (PH_bdC (stp_lt hg hd hi)) (by decide) (by decide)).2
/-- Without noise, what an element receives is the symbol times its gain, in its phase. -/
theorem snz_eq (hg : goodP n l) (hd : dirB u v = true) {q : Nat} (hq : q < 8) {i : Nat} (hi : i < n) : fcmp .eql .f32 (snN l u v (gnF q) s0 s k 0 i).a (snM l u v (gnF q) s0 k i).a = true ∧ fcmp .eql .f32 (snN l u v (gnF q) s0 s k 0 i).b (snM l u v (gnF q) s0 k i).b = true := by
  have b := snM_bd (s0 := s0) (k := k) hg hd hq hi
  have l1 := drN_lt s (2 * nzI k i)
  have l2 := drN_lt s (2 * nzI k i + 1)
  unfold snN
  generalize snM l u v (gnF q) s0 k i = M at *
  unfold nzF
  generalize drN s (2 * nzI k i) = d1 at *
  generalize drN s (2 * nzI k i + 1) = d2 at *
  obtain ⟨va, ha, _⟩ := b.a
  obtain ⟨vb, hb, _⟩ := b.b
  have a1 := (add_zero_fin ha zero_fin).2
  have b1 := (add_zero_fin hb zero_fin).2
  have a2 := (add_zero_fin a1 (paz_fin l1)).1
  have b2 := (add_zero_fin b1 (paz_fin l2)).1
  refine ⟨?_, ?_⟩
  · simp only [addB, scB, zeroB]
    rw [cmp_eq a2 ha]
    exact decide_eq_true rfl
  · simp only [addB, scB, zeroB]
    rw [cmp_eq b2 hb]
    exact decide_eq_true rfl
theorem snq_ok (hg : goodP n l) (hd : dirB u v = true) {q : Nat} (hq : q < 8) {i : Nat} (hi : i < n) : okF (snN l u v (gnF q) s0 s k 1048576000 i).a ∧ okF (snN l u v (gnF q) s0 s k 1048576000 i).b := by
  have b := snM_bd (s0 := s0) (k := k) hg hd hq hi
  have c : bdC 156 (snN l u v (gnF q) s0 s k 1048576000 i) := addB_bd (addB_bd (zeroB_bd 154) b (by decide)) ((nzq_bd s k i).mono (by decide)) (by decide)
  obtain ⟨va, ha, _⟩ := c.a
  obtain ⟨vb, hb, _⟩ := c.b
  exact ⟨okF_of ha, okF_of hb⟩
theorem nzq_cmp (s k i : Nat) : fcmp .lss .f32 1048576000 (nzF s k i 1048576000).a = false ∧ fcmp .lss .f32 (nzF s k i 1048576000).a 3196059648 = false ∧ fcmp .lss .f32 1048576000 (nzF s k i 1048576000).b = false ∧ fcmp .lss .f32 (nzF s k i 1048576000).b 3196059648 = false := by
  have c1 := paq_cmp (drN_lt s (2 * nzI k i))
  have c2 := paq_cmp (drN_lt s (2 * nzI k i + 1))
  unfold nzF
  simp only [scB]
  exact ⟨c1.1, c1.2, c2.1, c2.2⟩
theorem dir_91 {a b : Nat} (ha : a < 91) (hb : b < 91) : dirB ((a : Int) - 45) ((b : Int) - 45) = true := by
  have e : ∀ a : Nat, a < 91 → ((a : Int) - 45) * ((a : Int) - 45) ≤ 2025 := fun a ha => by
    have h : ((a : Int) - 45) * ((a : Int) - 45) = ((((a : Int) - 45).natAbs * ((a : Int) - 45).natAbs : Nat) : Int) := by rw [← Int.natAbs_mul_self]
    have h2 : ((a : Int) - 45).natAbs * ((a : Int) - 45).natAbs ≤ 45 * 45 := Nat.mul_le_mul (by omega) (by omega)
    omega
  have e1 := e a ha
  have e2 := e b hb
  unfold dirB
  rw [decide_eq_true (p := -64 ≤ (a : Int) - 45) (by omega), decide_eq_true (p := (a : Int) - 45 ≤ 64) (by omega), decide_eq_true (p := -64 ≤ (b : Int) - 45) (by omega), decide_eq_true (p := (b : Int) - 45 ≤ 64) (by omega), decide_eq_true (p := ((a : Int) - 45) * ((a : Int) - 45) + ((b : Int) - 45) * ((b : Int) - 45) ≤ 4096) (by omega)]
  rfl
theorem env_cut {P : Program} {c : Code} {Q : Ex → Env → Heap → Prop} {e : Env} {h : Heap} (M : Env → Heap → Prop) (h1 : M e h) (k : ∀ e h, M e h → W P ro X c Q e h) : W P ro X c Q e h := k e h h1
end Go.Proofs.Ytelogajobjflfaa.Sim

/- The law FnSnapshots. Lemmas only; no condition. -/
set_option linter.unusedSimpArgs false
set_option linter.unusedVariables false
set_option maxRecDepth 8000
namespace Go.Proofs.Ytelogajobjflfaa.Sim
open Go Go.RowKit Fl
variable {ro lo hi lo' hi' n : Nat} {X : Ext} {h : Heap} {x y : Value} {l : List Int} {u v : Int} {g s0 s k lev : Nat} {cd md : List UInt8}
set_option maxHeartbeats 16000000 in
theorem lawSnap_c (hX : XN X) (hX0 : XN xS0) (hW : XDW xS0) (hA : XAbs X) (hx : X 127 = xPl ro xS0 127) (hV : VS lo hi 1 h x cd.length (cd.map u8v)) (hU : VS lo' hi' 1 h y md.length (md.map u8v)) (hhi : hi ≤ h.length) (hhi' : hi' ≤ h.length) (hro : ro ≤ h.length) (hl : cd.length ≤ 140737488351232) (hl' : md.length ≤ 140737488351232) :
    CallR Try.prog ro X 9 [x, y] h (fun r h' => r = .bool true) := by
  refine callR_of (hX _ rfl) Try.func9 rfl (by kernel_rfl) (Nat.le_of_ble_eq_true rfl) ?_
  by_cases hlong : (decide (48 < cd.length) || decide (48 < md.length)) = true
  · (repeat' first | simp -dsimp (disch := first | omega | assumption | (refine OkS.sto ?_ (by omega); first | assumption | (refine OkS.sto ?_ (by omega); first | assumption | (refine OkS.sto ?_ (by omega); first | assumption | (refine OkS.sto ?_ (by omega); first | assumption | (refine OkS.sto ?_ (by omega); first | assumption | (refine OkS.sto ?_ (by omega); first | assumption)))))) | exact Pfx.refl _ | (apply Pfx.snoc; repeat (first | exact Pfx.refl _ | assumption | apply Pfx.snoc)) | with_unfolding_all exact of_eq_true (eq_true rfl) | (simp only [List.length_append, List.length_cons, List.length_nil]; omega)) only [↓wpre0, ↓wpre1, ↓reduceIte, Int.reduceToNat, Nat.reduceAdd, Nat.reduceMul, Nat.reduceEqDiff, wpost0, wpost1, wpost2, wpost3, wpost4, ite_self, ite_true, ite_false, if_true, if_false, tze62, xst62, bin_mul, bin_add, xcv2_29, bin_fquo, xld62, xbld107_0_1_2, xbls108_0, xbls108_1, un_not, xlen44, xlen54, bin_neq, xlen36, bin_lss, bin_gtr, bin_fneq, xiad44, xld46, bin_cneq, xiad36, xld44, blt_real, bin_fgtr, bin_flss, blt_imag, xbls44_0, xbls44_1, un_cneg, bin_eql, bin_ceql, fr9, wrap_int, wrap_u8, iteP_yes, iteP_no, r8Long_r (hX _ rfl) hV hU (by omega) (by omega), hlong] | refine iteP_two (fun hc hd => ?_) (fun hc hd => ?_) | refine iteP_intro (fun hc => ?_) (fun hc => ?_))
  have hlong' : (decide (48 < cd.length) || decide (48 < md.length)) = false := by simpa using hlong
  have hc1 : cd.length ≤ 48 := by simp at hlong'; omega
  have hm1 : md.length ≤ 48 := by simp at hlong'; omega
  (repeat' first | simp -dsimp (disch := first | omega | assumption | (refine OkS.sto ?_ (by omega); first | assumption | (refine OkS.sto ?_ (by omega); first | assumption | (refine OkS.sto ?_ (by omega); first | assumption | (refine OkS.sto ?_ (by omega); first | assumption | (refine OkS.sto ?_ (by omega); first | assumption | (refine OkS.sto ?_ (by omega); first | assumption)))))) | exact Pfx.refl _ | (apply Pfx.snoc; repeat (first | exact Pfx.refl _ | assumption | apply Pfx.snoc)) | with_unfolding_all exact of_eq_true (eq_true rfl) | (simp only [List.length_append, List.length_cons, List.length_nil]; omega)) only [↓wpre0, ↓wpre1, ↓reduceIte, Int.reduceToNat, Nat.reduceAdd, Nat.reduceMul, Nat.reduceEqDiff, wpost0, wpost1, wpost2, wpost3, wpost4, ite_self, ite_true, ite_false, if_true, if_false, tze62, xst62, bin_mul, bin_add, xcv2_29, bin_fquo, xld62, xbld107_0_1_2, xbls108_0, xbls108_1, un_not, xlen44, xlen54, bin_neq, xlen36, bin_lss, bin_gtr, bin_fneq, xiad44, xld46, bin_cneq, xiad36, xld44, blt_real, bin_fgtr, bin_flss, blt_imag, xbls44_0, xbls44_1, un_cneg, bin_eql, bin_ceql, fr9, wrap_int, wrap_u8, iteP_yes, iteP_no, r8Long_r (hX _ rfl) hV hU (by omega) (by omega), hlong'] | refine iteP_two (fun hc hd => ?_) (fun hc hd => ?_) | refine iteP_intro (fun hc => ?_) (fun hc => ?_))
  refine cf_rel (Places_c hW hX0 (hX _ rfl) (hX _ rfl) hx hV hro hhi (by omega)) (fun q => by cases q) ?_
  rintro r H1 ⟨n, yb, yc, l, rfl, hyb, hD, hll, hg, hr, p1⟩
  have hI := is_blk (dc := yc) hD hll
  have l1 := p1.len
  have n16 := hg.n16
  have n1 := hg.n1
  have hU1 := hU.pre p1
  have hyb1 : yb < H1.length := by
    rcases Nat.lt_or_ge yb H1.length with q | q
    · exact q
    · rw [List.getElem?_eq_none q] at hD; cases hD
  have ht1 : tyP ro H1 (.slice (some ⟨yb, 0, none⟩) n yc) := fun _ => by show (H1[yb]?).map Blk.ty = _; rw [hD]; rfl
  (repeat' first | simp -dsimp (disch := first | omega | assumption | (refine OkS.sto ?_ (by omega); first | assumption | (refine OkS.sto ?_ (by omega); first | assumption | (refine OkS.sto ?_ (by omega); first | assumption | (refine OkS.sto ?_ (by omega); first | assumption | (refine OkS.sto ?_ (by omega); first | assumption | (refine OkS.sto ?_ (by omega); first | assumption)))))) | exact Pfx.refl _ | (apply Pfx.snoc; repeat (first | exact Pfx.refl _ | assumption | apply Pfx.snoc)) | with_unfolding_all exact of_eq_true (eq_true rfl) | (simp only [List.length_append, List.length_cons, List.length_nil]; omega)) only [↓wpre0, ↓wpre1, ↓reduceIte, Int.reduceToNat, Nat.reduceAdd, Nat.reduceMul, Nat.reduceEqDiff, wpost0, wpost1, wpost2, wpost3, wpost4, ite_self, ite_true, ite_false, if_true, if_false, tze62, xst62, bin_mul, bin_add, xcv2_29, bin_fquo, xld62, xbld107_0_1_2, xbls108_0, xbls108_1, un_not, xlen44, xlen54, bin_neq, xlen36, bin_lss, bin_gtr, bin_fneq, xiad44, xld46, bin_cneq, xiad36, xld44, blt_real, bin_fgtr, bin_flss, blt_imag, xbls44_0, xbls44_1, un_cneg, bin_eql, bin_ceql, fr9, wrap_int, wrap_u8, iteP_yes, iteP_no] | refine iteP_two (fun hc hd => ?_) (fun hc hd => ?_) | refine iteP_intro (fun hc => ?_) (fun hc => ?_))
  refine cf_rel (EightD_c hX hU1 (by omega) (by omega) (by omega)) (fun q => by cases q) ?_
  rintro _ H1 ⟨a, b, ha, hb, rfl, e1⟩
  subst e1
  have hd := dir_91 ha hb
  generalize (a : Int) - 45 = u at *
  generalize (b : Int) - 45 = v at *
  obtain ⟨a1, ha1, hat1⟩ := r8At_r (ro := ro) (X := X) (hX _ rfl) (hU1.pre (Pfx.refl H1).snoc (h' := H1 ++ [(⟨62, [.int .i64 u, .int .i64 v]⟩ : Blk)])) (i := 40) (n := 256) (by omega) (by omega) (by omega) (by omega) (by omega)
  obtain ⟨a2, ha2, hat2⟩ := r8At_r (ro := ro) (X := X) (hX _ rfl) (hU1.pre (Pfx.refl H1).snoc (h' := H1 ++ [(⟨62, [.int .i64 u, .int .i64 v]⟩ : Blk)])) (i := 41) (n := 256) (by omega) (by omega) (by omega) (by omega) (by omega)
  obtain ⟨k, hk, hat3⟩ := r8At_r (ro := ro) (X := X) (hX _ rfl) (hU1.pre (Pfx.refl H1).snoc (h' := H1 ++ [(⟨62, [.int .i64 u, .int .i64 v]⟩ : Blk)])) (i := 42) (n := 200) (by omega) (by omega) (by omega) (by omega) (by omega)
  obtain ⟨q, hq, hat4⟩ := r8At_r (ro := ro) (X := X) (hX _ rfl) (hU1.pre (Pfx.refl H1).snoc (h' := H1 ++ [(⟨62, [.int .i64 u, .int .i64 v]⟩ : Blk)])) (i := 43) (n := 8) (by omega) (by omega) (by omega) (by omega) (by omega)
  have hq8 : q < 8 := by omega
  obtain ⟨s, hs⟩ : ∃ s : Nat, s = 65536 * a1 + a2 := ⟨_, rfl⟩
  have es : (65536 : Int) * (a1 : Int) + (a2 : Int) = (s : Int) := by omega
  have s24 : s ≤ 16777215 := by omega
  have pG1 : Pfx H1 (H1 ++ [(⟨62, [.int .i64 u, .int .i64 v]⟩ : Blk)]) := (Pfx.refl H1).snoc
  have cG1 : cells (H1 ++ [(⟨62, [.int .i64 u, .int .i64 v]⟩ : Blk)]) H1.length 0 2 = some (.agg ⟨[.int .i64 u, .int .i64 v]⟩) := cells_last rfl (by simp)
  have gq : farith .quo .f32 (cf .f32 (FloatKind.f32.nearest (1 + (q : Int)))) 1082130432 = gnF q := rfl
  (repeat' first | simp -dsimp (disch := first | omega | assumption | (refine OkS.sto ?_ (by omega); first | assumption | (refine OkS.sto ?_ (by omega); first | assumption | (refine OkS.sto ?_ (by omega); first | assumption | (refine OkS.sto ?_ (by omega); first | assumption | (refine OkS.sto ?_ (by omega); first | assumption | (refine OkS.sto ?_ (by omega); first | assumption)))))) | exact Pfx.refl _ | (apply Pfx.snoc; repeat (first | exact Pfx.refl _ | assumption | apply Pfx.snoc)) | with_unfolding_all exact of_eq_true (eq_true rfl) | (simp only [List.length_append, List.length_cons, List.length_nil]; omega)) only [↓wpre0, ↓wpre1, ↓reduceIte, Int.reduceToNat, Nat.reduceAdd, Nat.reduceMul, Nat.reduceEqDiff, wpost0, wpost1, wpost2, wpost3, wpost4, ite_self, ite_true, ite_false, if_true, if_false, tze62, xst62, bin_mul, bin_add, xcv2_29, bin_fquo, xld62, xbld107_0_1_2, xbls108_0, xbls108_1, un_not, xlen44, xlen54, bin_neq, xlen36, bin_lss, bin_gtr, bin_fneq, xiad44, xld46, bin_cneq, xiad36, xld44, blt_real, bin_fgtr, bin_flss, blt_imag, xbls44_0, xbls44_1, un_cneg, bin_eql, bin_ceql, fr9, wrap_int, wrap_u8, iteP_yes, iteP_no, hat1, hat2, hat3, hat4, es, gq, conv_if Try.underlying2 Try.underlying29, SymbolOf_r hX (show s ≤ 2147483647 by omega) (show k ≤ 1000000 by omega)] | refine iteP_two (fun hc hd => ?_) (fun hc hd => ?_) | refine iteP_intro (fun hc => ?_) (fun hc => ?_))
  obtain ⟨G1, hG1⟩ : ∃ G, G = H1 ++ [(⟨62, [.int .i64 u, .int .i64 v]⟩ : Blk)] := ⟨_, rfl⟩
  have lG1 : G1.length = H1.length + 1 := by rw [hG1]; simp
  have dG1 : G1[H1.length]? = some ⟨62, [.int .i64 u, .int .i64 v]⟩ := by rw [hG1]; exact get_last rfl
  rw [← hG1] at pG1 cG1 hat1 hat2 hat3 hat4 ⊢
  obtain ⟨G2, hG2⟩ : ∃ G, G = G1 ++ [(⟨107, [.int .i64 u, .int .i64 v, .float .f32 (gnF q), .int .i64 s]⟩ : Blk)] := ⟨_, rfl⟩
  obtain ⟨ys, hys⟩ : ∃ ys : Value, ys = .slice (some ⟨G1.length, 0, none⟩) 1 1 := ⟨_, rfl⟩
  have bys : bOf ys = G1.length := by rw [hys]; rfl
  have hS2 : VS G1.length (G1.length + 1) 4 G2 ys 1 (srcL u v (gnF q) s) := by
    have := (vg_lit (k := 4) (n := 1) (t := 107) (L := srcL u v (gnF q) s) G1 (Nat.le_refl _) rfl).vs
    rw [hG2, hys]
    exact this
  have pG2 : Pfx G1 G2 := by rw [hG2]; exact (Pfx.refl G1).snoc
  have lG2 : G2.length = G1.length + 1 := by rw [hG2]; simp
  rw [← hG2, ← hys]
  have p12 := pG1.trans pG2
  have cD : ∀ {G : Heap}, Pfx G1 G → cells G H1.length 0 2 = some (.agg ⟨[.int .i64 u, .int .i64 v]⟩) := fun p => cellsb (o := 0) (n := 2) ((p.get (by omega)).trans dG1) (by simp)
  have mI : ∀ {G : Heap}, Pfx G2 G → IS yb (yb + 1) 2 G (.slice (some ⟨yb, 0, none⟩) n yc) n l := fun p => hI.pre (p12.trans p)
  have mT : ∀ {G : Heap}, Pfx G2 G → tyP ro G (.slice (some ⟨yb, 0, none⟩) n yc) := fun p => ht1.pre hI (by omega) (p12.trans p)
  have mS : ∀ {G : Heap}, Pfx G2 G → VS G1.length (G1.length + 1) 4 G ys 1 (srcL u v (gnF q) s) := fun p => hS2.pre p
  have x0 := Pfx.refl G2
  refine cf_rel (SnapshotOf_c (k := k) (s := s) (s0 := s) (lev := 0) (g := gnF q) hX hA (mI x0) (mT x0) hg hd (mS x0) (scS_bd hq8) (by omega) (by omega) (by omega) (by omega) (by omega) (by omega)) (fun q => by cases q) ?_
  rintro _ G3 ⟨z1, rfl, x3, hz1⟩
  have lG3 := x3.len
  (repeat' first | simp -dsimp (disch := first | omega | assumption | (refine OkS.sto ?_ (by omega); first | assumption | (refine OkS.sto ?_ (by omega); first | assumption | (refine OkS.sto ?_ (by omega); first | assumption | (refine OkS.sto ?_ (by omega); first | assumption | (refine OkS.sto ?_ (by omega); first | assumption | (refine OkS.sto ?_ (by omega); first | assumption)))))) | exact Pfx.refl _ | (apply Pfx.snoc; repeat (first | exact Pfx.refl _ | assumption | apply Pfx.snoc)) | with_unfolding_all exact of_eq_true (eq_true rfl) | (simp only [List.length_append, List.length_cons, List.length_nil]; omega)) only [↓wpre0, ↓wpre1, ↓reduceIte, Int.reduceToNat, Nat.reduceAdd, Nat.reduceMul, Nat.reduceEqDiff, wpost0, wpost1, wpost2, wpost3, wpost4, ite_self, ite_true, ite_false, if_true, if_false, tze62, xst62, bin_mul, bin_add, xcv2_29, bin_fquo, xld62, xbld107_0_1_2, xbls108_0, xbls108_1, un_not, xlen44, xlen54, bin_neq, xlen36, bin_lss, bin_gtr, bin_fneq, xiad44, xld46, bin_cneq, xiad36, xld44, blt_real, bin_fgtr, bin_flss, blt_imag, xbls44_0, xbls44_1, un_cneg, bin_eql, bin_ceql, fr9, wrap_int, wrap_u8, iteP_yes, iteP_no, cD (pG2.trans x3)] | refine iteP_two (fun hc hd => ?_) (fun hc hd => ?_) | refine iteP_intro (fun hc => ?_) (fun hc => ?_))
  refine cf_rel (SteeringOf_c hX hA (mI x3) (mT x3) hg hd (by omega) (by omega)) (fun q => by cases q) ?_
  rintro _ G4 ⟨z2, rfl, y4, hz2⟩
  have lG4 := y4.len
  have x4 := x3.trans y4
  (repeat' first | simp -dsimp (disch := first | omega | assumption | (refine OkS.sto ?_ (by omega); first | assumption | (refine OkS.sto ?_ (by omega); first | assumption | (refine OkS.sto ?_ (by omega); first | assumption | (refine OkS.sto ?_ (by omega); first | assumption | (refine OkS.sto ?_ (by omega); first | assumption | (refine OkS.sto ?_ (by omega); first | assumption)))))) | exact Pfx.refl _ | (apply Pfx.snoc; repeat (first | exact Pfx.refl _ | assumption | apply Pfx.snoc)) | with_unfolding_all exact of_eq_true (eq_true rfl) | (simp only [List.length_append, List.length_cons, List.length_nil]; omega)) only [↓wpre0, ↓wpre1, ↓reduceIte, Int.reduceToNat, Nat.reduceAdd, Nat.reduceMul, Nat.reduceEqDiff, wpost0, wpost1, wpost2, wpost3, wpost4, ite_self, ite_true, ite_false, if_true, if_false, tze62, xst62, bin_mul, bin_add, xcv2_29, bin_fquo, xld62, xbld107_0_1_2, xbls108_0, xbls108_1, un_not, xlen44, xlen54, bin_neq, xlen36, bin_lss, bin_gtr, bin_fneq, xiad44, xld46, bin_cneq, xiad36, xld44, blt_real, bin_fgtr, bin_flss, blt_imag, xbls44_0, xbls44_1, un_cneg, bin_eql, bin_ceql, fr9, wrap_int, wrap_u8, iteP_yes, iteP_no] | refine iteP_two (fun hc hd => ?_) (fun hc hd => ?_) | refine iteP_intro (fun hc => ?_) (fun hc => ?_))
  refine cf_rel (SnapshotsOf_c (k := k) (s := s) (s0 := s) (lev := 1048576000) (g := gnF q) hX hA (mI x4) (mT x4) hg hd (mS x4) (fun k => scS_bd hq8) (by omega) (by omega) (by omega) (by omega) (by omega) (by omega)) (fun q => by cases q) ?_
  rintro _ G5 ⟨z3, R, rfl, y5, hz3, hR3⟩
  have lG5 := y5.len
  have x5 := x4.trans y5
  have e2 : (k : Int) + 2 = ((k + 2 : Nat) : Int) := by omega
  (repeat' first | simp -dsimp (disch := first | omega | assumption | (refine OkS.sto ?_ (by omega); first | assumption | (refine OkS.sto ?_ (by omega); first | assumption | (refine OkS.sto ?_ (by omega); first | assumption | (refine OkS.sto ?_ (by omega); first | assumption | (refine OkS.sto ?_ (by omega); first | assumption | (refine OkS.sto ?_ (by omega); first | assumption)))))) | exact Pfx.refl _ | (apply Pfx.snoc; repeat (first | exact Pfx.refl _ | assumption | apply Pfx.snoc)) | with_unfolding_all exact of_eq_true (eq_true rfl) | (simp only [List.length_append, List.length_cons, List.length_nil]; omega)) only [↓wpre0, ↓wpre1, ↓reduceIte, Int.reduceToNat, Nat.reduceAdd, Nat.reduceMul, Nat.reduceEqDiff, wpost0, wpost1, wpost2, wpost3, wpost4, ite_self, ite_true, ite_false, if_true, if_false, tze62, xst62, bin_mul, bin_add, xcv2_29, bin_fquo, xld62, xbld107_0_1_2, xbls108_0, xbls108_1, un_not, xlen44, xlen54, bin_neq, xlen36, bin_lss, bin_gtr, bin_fneq, xiad44, xld46, bin_cneq, xiad36, xld44, blt_real, bin_fgtr, bin_flss, blt_imag, xbls44_0, xbls44_1, un_cneg, bin_eql, bin_ceql, fr9, wrap_int, wrap_u8, iteP_yes, iteP_no, e2] | refine iteP_two (fun hc hd => ?_) (fun hc hd => ?_) | refine iteP_intro (fun hc => ?_) (fun hc => ?_))
  refine cf_rel (SnapshotOf_c (k := k + 2) (s := s) (s0 := s) (lev := 1048576000) (g := gnF q) hX hA (mI x5) (mT x5) hg hd (mS x5) (scS_bd hq8) (by omega) (by omega) (by omega) (by omega) (by omega) (by omega)) (fun q => by cases q) ?_
  rintro _ G6 ⟨z4, rfl, y6, hz4⟩
  have lG6 := y6.len
  have x6 := x5.trans y6
  have nl := nxN_lt s
  have okx := (syF_bd s k).ok
  have pw : okN (pwF (syF s k)) := (pwF_bd ((syF_bd s k).mono (show 148 ≤ 200 by decide)) (show 252 + 148 = 2 * 200 from rfl) (by decide)).1
  have hpw := syF_pow s k
  have h1 : RowB G2.length G6 z1 n (snN l u v (gnF q) s s k 0) := hz1.pre (y4.trans (y5.trans y6))
  have h2 : RowB G3.length G6 z2 n (fun i => PH (stpN l u v i)) := hz2.pre (y5.trans y6)
  have h3 : VS G4.length G6.length 1 G6 z3 3 R := ((hz3.pre y6).vsl)
  have h3r : RowB G4.length G6 (vth R 2) n (snN l u v (gnF q) s s (k + 2) 1048576000) := (hR3 2 (by omega)).pre y6
  have vs6 := vSources_r (ro := ro) hX hd (mS x6) (show s ≤ 2147483647 by omega) (by omega)
  (repeat' first | simp -dsimp (disch := first | omega | assumption | (refine OkS.sto ?_ (by omega); first | assumption | (refine OkS.sto ?_ (by omega); first | assumption | (refine OkS.sto ?_ (by omega); first | assumption | (refine OkS.sto ?_ (by omega); first | assumption | (refine OkS.sto ?_ (by omega); first | assumption | (refine OkS.sto ?_ (by omega); first | assumption)))))) | exact Pfx.refl _ | (apply Pfx.snoc; repeat (first | exact Pfx.refl _ | assumption | apply Pfx.snoc)) | with_unfolding_all exact of_eq_true (eq_true rfl) | (simp only [List.length_append, List.length_cons, List.length_nil]; omega)) only [↓thenQ_normal, ↓thenQ_exit, ↓thenQ_ret, ↓blockQ_normal, ↓blockQ_exit, ↓blockQ_ret, ↓o_plain, ↓o_nil, ↓o_guard, ↓gvl_zero, ↓gvl_succ, ↓p_move, ↓p_assign, ↓p_pick, ↓p_binOp, ↓p_unOp, ↓wpre1, ↓reduceIte, Int.reduceToNat, Nat.reduceAdd, Nat.reduceMul, Nat.reduceEqDiff, wpost0, wpost1, wpost2, wpost3, wpost4, ite_self, ite_true, ite_false, if_true, if_false, tze62, xst62, bin_mul, bin_add, xcv2_29, bin_fquo, xld62, xbld107_0_1_2, xbls108_0, xbls108_1, un_not, xlen44, xlen54, bin_neq, xlen36, bin_lss, bin_gtr, bin_fneq, xiad44, xld46, bin_cneq, xiad36, xld44, blt_real, bin_fgtr, bin_flss, blt_imag, xbls44_0, xbls44_1, un_cneg, bin_eql, bin_ceql, fr9, wrap_int, wrap_u8, iteP_yes, iteP_no, e2] | refine iteP_two (fun hc hd => ?_) (fun hc hd => ?_) | refine iteP_intro (fun hc => ?_) (fun hc => ?_))
  refine env_cut (fun e h2 => h2 = G6 ∧ e 5 = .slice (some ⟨yb, 0, none⟩) n yc ∧ e 7 = .int .i64 s ∧ e 8 = .int .i64 k ∧ e 9 = .float .f32 (gnF q) ∧ e 10 = ys ∧ e 11 = toV (syF s k) ∧ e 12 = .bool true ∧ e 13 = z1 ∧ e 14 = .bool true ∧ e 15 = z2 ∧ e 16 = .bool true ∧ e 17 = z3 ∧ e 18 = .bool true ∧ e 19 = z4 ∧ e 20 = .bool true) ?_ ?_
  · simp only [updO_at, updO_not, entry_at, List.getD_cons_zero, List.getD_cons_succ, ↓reduceIte, Nat.reduceEqDiff, true_and, and_true]
    (repeat' (first | assumption | rfl | omega | refine And.intro ?_ ?_))
  rintro e h' ⟨rfl, g5, g7, g8, g9, g10, g11, g12, g13, g14, g15, g16, g17, g18, g19, g20⟩
  have c1 : decide (((nxN s : Nat) : Int) < 0) = false := decide_eq_false (by omega)
  have c2 : decide ((2147483647 : Int) < ((nxN s : Nat) : Int)) = false := decide_eq_false (by omega)
  (repeat' first | simp -dsimp (disch := first | omega | assumption | (refine OkS.sto ?_ (by omega); first | assumption | (refine OkS.sto ?_ (by omega); first | assumption | (refine OkS.sto ?_ (by omega); first | assumption | (refine OkS.sto ?_ (by omega); first | assumption | (refine OkS.sto ?_ (by omega); first | assumption | (refine OkS.sto ?_ (by omega); first | assumption)))))) | exact Pfx.refl _ | (apply Pfx.snoc; repeat (first | exact Pfx.refl _ | assumption | apply Pfx.snoc)) | with_unfolding_all exact of_eq_true (eq_true rfl) | (simp only [List.length_append, List.length_cons, List.length_nil]; omega)) only [↓wpre0, ↓wpre1, ↓reduceIte, Int.reduceToNat, Nat.reduceAdd, Nat.reduceMul, Nat.reduceEqDiff, wpost0, wpost1, wpost2, wpost3, wpost4, ite_self, ite_true, ite_false, if_true, if_false, tze62, xst62, bin_mul, bin_add, xcv2_29, bin_fquo, xld62, xbld107_0_1_2, xbls108_0, xbls108_1, un_not, xlen44, xlen54, bin_neq, xlen36, bin_lss, bin_gtr, bin_fneq, xiad44, xld46, bin_cneq, xiad36, xld44, blt_real, bin_fgtr, bin_flss, blt_imag, xbls44_0, xbls44_1, un_cneg, bin_eql, bin_ceql, fr9, wrap_int, wrap_u8, iteP_yes, iteP_no, g5, g7, g8, g9, g10, g11, g12, g13, g14, g15, g16, g17, g18, g19, g20, NextSeed_r hX (show s ≤ 2147483647 by omega), vs6, h1.len, h3.len Try.underlying36, hz4.len, (mI x6).len Try.underlying54, PowerOf_r hX okx pw, hpw, c1, c2] | refine iteP_two (fun hc hd => ?_) (fun hc hd => ?_) | refine iteP_intro (fun hc => ?_) (fun hc => ?_))
  refine loop_exit 0 (fun e h2 => h2 = h' ∧ e 7 = .int .i64 s ∧ e 8 = .int .i64 k ∧ e 11 = toV (syF s k)) ?_ ?_
  · refine loop_rounds (fun mm e h2 => ∃ i : Nat, mm = n - i ∧ i ≤ n ∧ h2 = h' ∧ e 7 = .int .i64 s ∧ e 8 = .int .i64 k ∧ e 9 = .float .f32 (gnF q) ∧ e 11 = toV (syF s k) ∧ e 13 = z1 ∧ e 15 = z2 ∧ e 17 = z3 ∧ e 19 = z4 ∧ e 23 = .int .i64 i) _ ⟨0, rfl, ?_⟩ ?_
    · simp only [updO_at, updO_not, entry_at, List.getD_cons_zero, List.getD_cons_succ, ↓reduceIte, Nat.reduceEqDiff, true_and, and_true]
      exact ⟨Nat.zero_le _, g7, g8, g9, g11, g13, g15, g17, g19, rfl⟩
    · rintro mm e h2' ⟨i, hmm, hle, rfl, g7, g8, g9, g11, g13, g15, g17, g19, g23⟩
      have hks : (i : Int) + 1 = ((i + 1 : Nat) : Int) := by omega
      by_cases hi : i < n
      · have hin : (i : Int) < (n : Int) := by omega
        have hN := NoiseOf_r (ro := ro) (X := X) (s := s) (k := k + 2) (i := i) (lev := 1048576000) hX (by omega) (by omega) (by omega)
        have hM := Mul_r (ro := ro) hX (mulB_bd (scS_bd (s := s) (k := k) hq8) (PH_bdC (stp_lt hg hd hi)) (show 154 + 148 = 149 + 153 from rfl) (by decide)).1
        obtain ⟨zq1, zq2⟩ := snz_eq (s := s) (s0 := s) (k := k) hg hd hq8 hi
        unfold snM at zq1 zq2
        have hld3 : ld Try.prog h2' 44 (ea z3 2) = some (vth R 2) := h3.ld1 (c := 2) tsz44 tag44 (by omega)
        obtain ⟨o1, o2⟩ := snq_ok (s := s) (s0 := s) (k := k + 2) hg hd hq8 hi
        have hSC := SameC_r (ro := ro) hX hA.bits o1 o2
        obtain ⟨m1, m2, m3, m4⟩ := nzq_cmp s (k + 2) i
        simp -dsimp (disch := first | omega | assumption | (refine OkS.sto ?_ (by omega); first | assumption | (refine OkS.sto ?_ (by omega); first | assumption | (refine OkS.sto ?_ (by omega); first | assumption | (refine OkS.sto ?_ (by omega); first | assumption | (refine OkS.sto ?_ (by omega); first | assumption | (refine OkS.sto ?_ (by omega); first | assumption)))))) | exact Pfx.refl _ | (apply Pfx.snoc; repeat (first | exact Pfx.refl _ | assumption | apply Pfx.snoc)) | with_unfolding_all exact of_eq_true (eq_true rfl) | (simp only [List.length_append, List.length_cons, List.length_nil]; omega)) only [↓wpre0, ↓wpre1, ↓reduceIte, Int.reduceToNat, Nat.reduceAdd, Nat.reduceMul, Nat.reduceEqDiff, wpost0, wpost1, wpost2, wpost3, wpost4, ite_self, ite_true, ite_false, if_true, if_false, tze62, xst62, bin_mul, bin_add, xcv2_29, bin_fquo, xld62, xbld107_0_1_2, xbls108_0, xbls108_1, un_not, xlen44, xlen54, bin_neq, xlen36, bin_lss, bin_gtr, bin_fneq, xiad44, xld46, bin_cneq, xiad36, xld44, blt_real, bin_fgtr, bin_flss, blt_imag, xbls44_0, xbls44_1, un_cneg, bin_eql, bin_ceql, fr9, wrap_int, wrap_u8, iteP_yes, iteP_no, g7, g8, g9, g11, g13, g15, g17, g19, g23, h1.len, e2, hN, Scale_r hX, h2.iad, h2.ld, hM, h1.iad, h1.ld, zq1, zq2, h3.iad Try.underlying36 tsz44, hld3, h3r.iad, h3r.ld, hz4.iad, hz4.ld, hSC, m1, m2, m3, m4, Bool.not_true, Bool.not_false]
        exact ⟨n - (i + 1), by omega, i + 1, rfl, by omega, by rw [hks]⟩
      · simp -dsimp (disch := first | omega | assumption | (refine OkS.sto ?_ (by omega); first | assumption | (refine OkS.sto ?_ (by omega); first | assumption | (refine OkS.sto ?_ (by omega); first | assumption | (refine OkS.sto ?_ (by omega); first | assumption | (refine OkS.sto ?_ (by omega); first | assumption | (refine OkS.sto ?_ (by omega); first | assumption)))))) | exact Pfx.refl _ | (apply Pfx.snoc; repeat (first | exact Pfx.refl _ | assumption | apply Pfx.snoc)) | with_unfolding_all exact of_eq_true (eq_true rfl) | (simp only [List.length_append, List.length_cons, List.length_nil]; omega)) only [↓wpre0, ↓wpre1, ↓reduceIte, Int.reduceToNat, Nat.reduceAdd, Nat.reduceMul, Nat.reduceEqDiff, wpost0, wpost1, wpost2, wpost3, wpost4, ite_self, ite_true, ite_false, if_true, if_false, tze62, xst62, bin_mul, bin_add, xcv2_29, bin_fquo, xld62, xbld107_0_1_2, xbls108_0, xbls108_1, un_not, xlen44, xlen54, bin_neq, xlen36, bin_lss, bin_gtr, bin_fneq, xiad44, xld46, bin_cneq, xiad36, xld44, blt_real, bin_fgtr, bin_flss, blt_imag, xbls44_0, xbls44_1, un_cneg, bin_eql, bin_ceql, fr9, wrap_int, wrap_u8, iteP_yes, iteP_no, g7, g8, g9, g11, g13, g15, g17, g19, g23, h1.len, hi]
  · rintro e h2' ⟨rfl, g7, g8, g11⟩
    have r1 : RowB h2'.length (h2' ++ [(⟨46, [toV (syF s k)]⟩ : Blk)]) (.slice (some ⟨h2'.length, 0, none⟩) 1 1) 1 (fun _ => syF s k) := (vg_lit (lo := h2'.length) (t := 46) (k := 1) (n := 1) (L := [toV (syF s k)]) h2' (Nat.le_refl _) rfl).vsl
    have w1 := Wrong_r (ro := ro) (s := s) (k := k) hX r1 (by omega) (by omega) _ rfl
    rw [syF_eq, if_pos rfl] at w1
    have r2 : RowB (h2'.length + 1) (h2' ++ [(⟨46, [toV (syF s k)]⟩ : Blk)] ++ [(⟨46, [toV (ngB (syF s k))]⟩ : Blk)]) (.slice (some ⟨h2'.length + 1, 0, none⟩) 1 1) 1 (fun _ => ngB (syF s k)) := by
      have := (vg_lit (lo := h2'.length + 1) (t := 46) (k := 1) (n := 1) (L := [toV (ngB (syF s k))]) (h2' ++ [(⟨46, [toV (syF s k)]⟩ : Blk)]) (by simp) rfl).vsl
      have e : (h2' ++ [(⟨46, [toV (syF s k)]⟩ : Blk)]).length = h2'.length + 1 := by simp
      rw [e] at this
      exact this
    have w2 := Wrong_r (ro := ro) (s := s) (k := k) hX r2 (by omega) (by omega) _ rfl
    rw [syF_ne, if_neg (by decide)] at w2
    have q1 := syF_eq s k
    unfold eqC at q1
    unfold ngB at w2
    simp only [toV] at w1 w2
    have el : (h2' ++ [(⟨46, [toV (syF s k)]⟩ : Blk)]).length = h2'.length + 1 := by simp
    simp only [toV] at el
    simp -dsimp (disch := first | omega | assumption | (refine OkS.sto ?_ (by omega); first | assumption | (refine OkS.sto ?_ (by omega); first | assumption | (refine OkS.sto ?_ (by omega); first | assumption | (refine OkS.sto ?_ (by omega); first | assumption | (refine OkS.sto ?_ (by omega); first | assumption | (refine OkS.sto ?_ (by omega); first | assumption)))))) | exact Pfx.refl _ | (apply Pfx.snoc; repeat (first | exact Pfx.refl _ | assumption | apply Pfx.snoc)) | with_unfolding_all exact of_eq_true (eq_true rfl) | (simp only [List.length_append, List.length_cons, List.length_nil]; omega)) only [↓wpre0, ↓wpre1, ↓reduceIte, Int.reduceToNat, Nat.reduceAdd, Nat.reduceMul, Nat.reduceEqDiff, wpost0, wpost1, wpost2, wpost3, wpost4, ite_self, ite_true, ite_false, if_true, if_false, tze62, xst62, bin_mul, bin_add, xcv2_29, bin_fquo, xld62, xbld107_0_1_2, xbls108_0, xbls108_1, un_not, xlen44, xlen54, bin_neq, xlen36, bin_lss, bin_gtr, bin_fneq, xiad44, xld46, bin_cneq, xiad36, xld44, blt_real, bin_fgtr, bin_flss, blt_imag, xbls44_0, xbls44_1, un_cneg, bin_eql, bin_ceql, fr9, wrap_int, wrap_u8, iteP_yes, iteP_no, g7, g8, g11, w1, el, w2, Nearest_r hX, q1]
theorem lawN_c (hV : VS lo hi 1 h x cd.length (cd.map u8v)) (hU : VS lo' hi' 1 h y md.length (md.map u8v)) (hhi : hi ≤ h.length) (hhi' : hi' ≤ h.length) (hro : ro ≤ h.length) (hl : cd.length ≤ 140737488351232) (hl' : md.length ≤ 140737488351232) :
    CallR Try.prog ro (xS1 ro) 9 [x, y] h (fun r h' => r = .bool true) :=
  lawSnap_c (xn_S1 ro) xn_S0 (XDW.of xn_S0 rfl) ⟨rfl, rfl⟩ rfl hV hU hhi hhi' hro hl hl'
end Go.Proofs.Ytelogajobjflfaa.Sim
