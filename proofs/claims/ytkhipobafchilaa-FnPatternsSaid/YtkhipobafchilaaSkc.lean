/- How great complex numbers and their powers are; powers; drawn numbers in sixteenths. Lemmas only; no condition. -/
import Derived.Test.YtkhipobafchilaaPhw
import Derived.Test.YtkhipobafchilaaMtb
import Derived.Test.YtkhipobafchilaaDrx
import Derived.Test.YtkhipobafchilaaDrr
set_option linter.unusedSimpArgs false
set_option linter.unusedVariables false
set_option maxRecDepth 8000
namespace Go.Proofs.Ytkhipobafchilaa.Sim
open Go Go.RowKit Fl
variable {ro lo hi : Nat} {X : Ext} {h : Heap} {x y : Value} {n : Nat} {cd : List UInt8}
/-- Both parts are at most a power of two. -/
structure bdC (u : Nat) (c : CB) : Prop where
  a : bd .f32 u c.a
  b : bd .f32 u c.b
theorem bdC.mono {u w : Nat} {c : CB} (k : bdC u c) (hw : u ≤ w) : bdC w c := ⟨k.a.mono hw, k.b.mono hw⟩
theorem wd_bd {u b : Nat} (k : bd .f32 u b) : okW b ∧ bd .f64 (u + 925) (wd b) := by
  obtain ⟨r, h1, h2⟩ := widen_bd k
  obtain ⟨h3, h4⟩ := okW_of h1
  exact ⟨h3, by rw [h4]; exact h2⟩
theorem nr_bd {u b : Nat} (k : bd .f64 (u + 925) b) (hu : u ≤ 275) : okN b ∧ bd .f32 u (nr b) := by
  obtain ⟨r, h1, h2⟩ := narrow_bd k hu
  obtain ⟨h3, h4⟩ := okN_of h1
  exact ⟨h3, by rw [h4]; exact h2⟩
theorem bdC.ok {u : Nat} {c : CB} (k : bdC u c) : okC c := ⟨(wd_bd k.a).1, (wd_bd k.b).1⟩
theorem mx64 : mx .f64 = 2096 := rfl
theorem mx32 : mx .f32 = 275 := rfl
theorem mulB_bd {u w t : Nat} {c d : CB} (hc : bdC u c) (hd : bdC w d) (ht : t + 148 = u + w) (hT : t ≤ 275) : okM c d ∧ bdC t (mulB c d) := by
  have e : ∀ {p q : Nat}, bd .f32 u p → bd .f32 w q → bd .f64 (u + w + 776) (farith .mul .f64 (wd p) (wd q)) := fun hp hq => mul_bd (wd_bd hp).2 (wd_bd hq).2 (by rw [lp64]; omega) (by rw [mx64]; omega)
  have hm : u + w + 776 + 1 = t + 925 := by omega
  have s1 : bd .f64 (t + 925) (mre c d) := by
    rw [← hm]; exact sub_bd (e hc.a hd.a) (e hc.b hd.b) (by rw [mx64]; omega)
  have s2 : bd .f64 (t + 925) (mim c d) := by
    rw [← hm]; exact add_bd (e hc.a hd.b) (e hc.b hd.a) (by rw [mx64]; omega)
  exact ⟨⟨hc.ok, hd.ok, (nr_bd s1 hT).1, (nr_bd s2 hT).1⟩, ⟨(nr_bd s1 hT).2, (nr_bd s2 hT).2⟩⟩
theorem addB_bd {u : Nat} {c d : CB} (hc : bdC u c) (hd : bdC u d) (hT : u + 1 ≤ 275) : bdC (u + 1) (addB c d) := ⟨add_bd hc.a hd.a (by rw [mx32]; omega), add_bd hc.b hd.b (by rw [mx32]; omega)⟩
theorem cjB_bd {u : Nat} {c : CB} (hc : bdC u c) : bdC u (cjB c) := ⟨hc.a, neg_bd hc.b⟩
theorem zeroB_bd (u : Nat) : bdC u zeroB := ⟨zero_fin.bd (by simp), zero_fin.bd (by simp)⟩
theorem dotB_bd {u w t : Nat} {f g : Nat → CB} (ht : t + 148 = u + w) : ∀ {n : Nat}, (∀ i, i < n → bdC u (f i)) → (∀ i, i < n → bdC w (g i)) → t + n ≤ 275 → bdC (t + n) (dotB f g n)
  | 0, _, _, _ => zeroB_bd _
  | n + 1, hf, hg, hT => by
    have ih := dotB_bd ht (n := n) (fun i hi => hf i (by omega)) (fun i hi => hg i (by omega)) (by omega)
    have m := (mulB_bd (hf n (by omega)) (hg n (by omega)) ht (by omega)).2
    show bdC ((t + n) + 1) _
    exact addB_bd ih (m.mono (Nat.le_add_right _ _)) (by omega)
/-- The power of a number, wide. -/
def pwF (u : CB) : Nat := farith .add .f64 (farith .mul .f64 (wd u.a) (wd u.a)) (farith .mul .f64 (wd u.b) (wd u.b))
theorem pwF_bd {u t : Nat} {c : CB} (hc : bdC u c) (ht : t + 148 = 2 * u) (hT : t ≤ 275) : okN (pwF c) ∧ bd .f32 t (nr (pwF c)) := by
  have e : ∀ {p : Nat}, bd .f32 u p → bd .f64 (2 * u + 776) (farith .mul .f64 (wd p) (wd p)) := fun hp => mul_bd (wd_bd hp).2 (wd_bd hp).2 (by rw [lp64]; omega) (by rw [mx64]; omega)
  have hm : 2 * u + 776 + 1 = t + 925 := by omega
  have s : bd .f64 (t + 925) (pwF c) := by rw [← hm]; exact add_bd (e hc.a) (e hc.b) (by rw [mx64]; omega)
  exact nr_bd s hT
theorem power_r (hX : XN X) {u : CB} (k : okC u) (h : Heap) : Ret Try.prog ro X 53 [toV u] h (.float .f64 (pwF u)) := by
  refine ret_of (callR_of (hX _ rfl) Try.func53 rfl (by kernel_rfl) (Nat.le_of_ble_eq_true rfl) ?_)
  (repeat' first | simp -dsimp (disch := first | omega | assumption | (refine OkS.sto ?_ (by omega); first | assumption | (refine OkS.sto ?_ (by omega); first | assumption | (refine OkS.sto ?_ (by omega); first | assumption | (refine OkS.sto ?_ (by omega); first | assumption | (refine OkS.sto ?_ (by omega); first | assumption | (refine OkS.sto ?_ (by omega); first | assumption)))))) | exact Pfx.refl _ | (apply Pfx.snoc; repeat (first | exact Pfx.refl _ | assumption | apply Pfx.snoc)) | with_unfolding_all exact of_eq_true (eq_true rfl) | (simp only [List.length_append, List.length_cons, List.length_nil]; omega)) only [↓wpre0, ↓wpre1, ↓reduceIte, Int.reduceToNat, Nat.reduceAdd, Nat.reduceMul, Nat.reduceEqDiff, wpost0, wpost1, wpost2, wpost3, wpost4, ite_self, ite_true, ite_false, if_true, if_false, bin_fmul, bin_fadd, fr53, wrap_int, wrap_u8, iteP_yes, iteP_no, parts_r hX k] | refine iteP_two (fun hc hd => ?_) (fun hc hd => ?_) | refine iteP_intro (fun hc => ?_) (fun hc => ?_))
  rfl
theorem PowerOf_r (hX : XN X) {u : CB} (k : okC u) (kn : okN (pwF u)) (h : Heap) : Ret Try.prog ro X 32 [toV u] h (.float .f32 (nr (pwF u))) := by
  refine ret_of (callR_of (hX _ rfl) Try.func32 rfl (by kernel_rfl) (Nat.le_of_ble_eq_true rfl) ?_)
  (repeat' first | simp -dsimp (disch := first | omega | assumption | (refine OkS.sto ?_ (by omega); first | assumption | (refine OkS.sto ?_ (by omega); first | assumption | (refine OkS.sto ?_ (by omega); first | assumption | (refine OkS.sto ?_ (by omega); first | assumption | (refine OkS.sto ?_ (by omega); first | assumption | (refine OkS.sto ?_ (by omega); first | assumption)))))) | exact Pfx.refl _ | (apply Pfx.snoc; repeat (first | exact Pfx.refl _ | assumption | apply Pfx.snoc)) | with_unfolding_all exact of_eq_true (eq_true rfl) | (simp only [List.length_append, List.length_cons, List.length_nil]; omega)) only [↓wpre0, ↓wpre1, ↓reduceIte, Int.reduceToNat, Nat.reduceAdd, Nat.reduceMul, Nat.reduceEqDiff, wpost0, wpost1, wpost2, wpost3, wpost4, ite_self, ite_true, ite_false, if_true, if_false, xcv39_35, fr32, wrap_int, wrap_u8, iteP_yes, iteP_no, power_r hX k, cv_n kn] | refine iteP_two (fun hc hd => ?_) (fun hc hd => ?_) | refine iteP_intro (fun hc => ?_) (fun hc => ?_))
/-! ### Drawn numbers in sixteenths -/
theorem fine_bd {v : Nat} (hv : (v : Int) < 65) : bd .f32 150 (farith .quo .f32 (cf .f32 (FloatKind.f32.nearest ((v : Int) - 32))) 1098907648) := by
  have hn : bd .f32 154 (cf .f32 (FloatKind.f32.nearest ((v : Int) - 32))) := by
    have e24 : (2 : Nat) ^ 24 = 16777216 := by decide
    refine (nearest_fx .f32 (n := (v : Int) - 32) (show ((v : Int) - 32).natAbs < 2 ^ 24 by rw [e24]; omega)).bd ?_
    rw [abs_mul_pow, show (-lp .f32).toNat = 149 by decide, pow_cut (show 154 = 5 + 149 from rfl)]
    exact Nat.mul_le_mul_right _ (by omega)
  exact quo_bd hn (w := 153) (big_of (by decide +kernel)) (by decide) (by decide)
theorem DrawFineB_c {b A : Nat} (hX : XDW X) (hS : SRC lo hi b A x cd h) (hro : ro ≤ b) (hd : hi ≤ b) (hA : A ≤ 1152921504606846900) (hl : cd.length ≤ 1099511627776) :
    CallR Try.prog ro X 37 [.pointer (some ⟨b, 0, none⟩)] h (fun r h' => ∃ c : CB, r = toV c ∧ bdC 150 c ∧ SRC lo hi b (A + 4) x cd h' ∧ Only b h h') := by
  refine callR_of hX.fine Try.func37 rfl (by kernel_rfl) (Nat.le_of_ble_eq_true rfl) ?_
  (repeat' first | simp -dsimp (disch := first | omega | assumption | (refine OkS.sto ?_ (by omega); first | assumption | (refine OkS.sto ?_ (by omega); first | assumption | (refine OkS.sto ?_ (by omega); first | assumption | (refine OkS.sto ?_ (by omega); first | assumption | (refine OkS.sto ?_ (by omega); first | assumption | (refine OkS.sto ?_ (by omega); first | assumption)))))) | exact Pfx.refl _ | (apply Pfx.snoc; repeat (first | exact Pfx.refl _ | assumption | apply Pfx.snoc)) | with_unfolding_all exact of_eq_true (eq_true rfl) | (simp only [List.length_append, List.length_cons, List.length_nil]; omega)) only [↓wpre0, ↓wpre1, ↓reduceIte, Int.reduceToNat, Nat.reduceAdd, Nat.reduceMul, Nat.reduceEqDiff, wpost0, wpost1, wpost2, wpost3, wpost4, ite_self, ite_true, ite_false, if_true, if_false, bin_sub, xcv2_35, bin_fquo, blt_cpx, fr37, wrap_int, wrap_u8, iteP_yes, iteP_no] | refine iteP_two (fun hc hd => ?_) (fun hc hd => ?_) | refine iteP_intro (fun hc => ?_) (fun hc => ?_))
  refine cf_rel (pick_c hX.next hX.pick (n := 65) hS hro hd (by omega) hl (by omega)) (fun q => by cases q) ?_
  rintro r H1 ⟨v, rfl, _, hv, S1, o1⟩
  (repeat' first | simp -dsimp (disch := first | omega | assumption | (refine OkS.sto ?_ (by omega); first | assumption | (refine OkS.sto ?_ (by omega); first | assumption | (refine OkS.sto ?_ (by omega); first | assumption | (refine OkS.sto ?_ (by omega); first | assumption | (refine OkS.sto ?_ (by omega); first | assumption | (refine OkS.sto ?_ (by omega); first | assumption)))))) | exact Pfx.refl _ | (apply Pfx.snoc; repeat (first | exact Pfx.refl _ | assumption | apply Pfx.snoc)) | with_unfolding_all exact of_eq_true (eq_true rfl) | (simp only [List.length_append, List.length_cons, List.length_nil]; omega)) only [↓wpre0, ↓wpre1, ↓reduceIte, Int.reduceToNat, Nat.reduceAdd, Nat.reduceMul, Nat.reduceEqDiff, wpost0, wpost1, wpost2, wpost3, wpost4, ite_self, ite_true, ite_false, if_true, if_false, bin_sub, xcv2_35, bin_fquo, blt_cpx, fr37, wrap_int, wrap_u8, iteP_yes, iteP_no] | refine iteP_two (fun hc hd => ?_) (fun hc hd => ?_) | refine iteP_intro (fun hc => ?_) (fun hc => ?_))
  refine cf_rel (pick_c hX.next hX.pick (n := 65) S1 hro hd (by omega) hl (by omega)) (fun q => by cases q) ?_
  rintro r H2 ⟨v2, rfl, _, hv2, S2, o2⟩
  have o3 := Only.trans' o1 o2
  have ef : ∀ u w, endH (.complex .f32 u w) h H2 = H2 := fun u w => endH_len o3.1
  (repeat' first | simp -dsimp (disch := first | omega | assumption | (refine OkS.sto ?_ (by omega); first | assumption | (refine OkS.sto ?_ (by omega); first | assumption | (refine OkS.sto ?_ (by omega); first | assumption | (refine OkS.sto ?_ (by omega); first | assumption | (refine OkS.sto ?_ (by omega); first | assumption | (refine OkS.sto ?_ (by omega); first | assumption)))))) | exact Pfx.refl _ | (apply Pfx.snoc; repeat (first | exact Pfx.refl _ | assumption | apply Pfx.snoc)) | with_unfolding_all exact of_eq_true (eq_true rfl) | (simp only [List.length_append, List.length_cons, List.length_nil]; omega)) only [↓wpre0, ↓wpre1, ↓reduceIte, Int.reduceToNat, Nat.reduceAdd, Nat.reduceMul, Nat.reduceEqDiff, wpost0, wpost1, wpost2, wpost3, wpost4, ite_self, ite_true, ite_false, if_true, if_false, bin_sub, xcv2_35, bin_fquo, blt_cpx, fr37, wrap_int, wrap_u8, iteP_yes, iteP_no, ef] | refine iteP_two (fun hc hd => ?_) (fun hc hd => ?_) | refine iteP_intro (fun hc => ?_) (fun hc => ?_))
  exact ⟨⟨_, _⟩, rfl, ⟨fine_bd (hv (by omega)), fine_bd (hv2 (by omega))⟩, S2, o3⟩
theorem pfx_onl {h0 h h' : Heap} {b : Nat} (p : Pfx h0 h) (o : Only b h h') (hb : h0.length ≤ b) : Pfx h0 h' := by
  have hl := p.len
  show h'.take h0.length = h0
  refine List.ext_getElem? fun j => ?_
  rw [List.getElem?_take]
  by_cases q : j < h0.length
  · rw [if_pos q, o.2 j (by omega)]; exact p.get q
  · rw [if_neg q, List.getElem?_eq_none (by omega)]
def cat (Z : List CB) (i : Nat) : CB := Z.getD i zeroB
theorem cat_left {Z : List CB} {w : CB} {i : Nat} (h : i < Z.length) : cat (Z ++ [w]) i = cat Z i := by simp [cat, List.getElem?_append_left h]
theorem cat_last {Z : List CB} {w : CB} : cat (Z ++ [w]) Z.length = w := by simp [cat]
theorem rowC_snoc (Z : List CB) (w : CB) : rowV (Z.length + 1) (cat (Z ++ [w])) = rowV Z.length (cat Z) ++ [toV w] := by
  rw [rowV_succ, cat_last]
  congr 1
  exact rowV_congr fun i hi => by rw [cat_left hi]
theorem cat_bd {u : Nat} {Z : List CB} (hz : ∀ z ∈ Z, bdC u z) (i : Nat) : bdC u (cat Z i) := by
  unfold cat
  rw [List.getD_eq_getElem?_getD]
  rcases Nat.lt_or_ge i Z.length with q | q
  · rw [List.getElem?_eq_getElem q]; exact hz _ (List.getElem_mem q)
  · rw [List.getElem?_eq_none q]; exact zeroB_bd u
end Go.Proofs.Ytkhipobafchilaa.Sim

/- Whether places and directions are valid, walked. Lemmas only; no condition. -/
set_option linter.unusedSimpArgs false
set_option linter.unusedVariables false
set_option maxRecDepth 8000
namespace Go.Proofs.Ytkhipobafchilaa.Sim
open Go Go.RowKit
variable {ro lo hi n : Nat} {X : Ext} {h : Heap} {x : Value} {l : List Int}
theorem wit_r (hX : XN X) (a b c : Int) (h : Heap) : Ret Try.prog ro X 50 [.int .i64 a, .int .i64 b, .int .i64 c] h (.bool (decide (b ≤ a) && decide (a ≤ c))) := by
  refine ret_of (callR_of (hX _ rfl) Try.func50 rfl (by kernel_rfl) (Nat.le_of_ble_eq_true rfl) ?_)
  (repeat' first | simp -dsimp (disch := first | omega | assumption | (refine OkS.sto ?_ (by omega); first | assumption | (refine OkS.sto ?_ (by omega); first | assumption | (refine OkS.sto ?_ (by omega); first | assumption | (refine OkS.sto ?_ (by omega); first | assumption | (refine OkS.sto ?_ (by omega); first | assumption | (refine OkS.sto ?_ (by omega); first | assumption)))))) | exact Pfx.refl _ | (apply Pfx.snoc; repeat (first | exact Pfx.refl _ | assumption | apply Pfx.snoc)) | with_unfolding_all exact of_eq_true (eq_true rfl) | (simp only [List.length_append, List.length_cons, List.length_nil]; omega)) only [↓wpre0, ↓wpre1, ↓reduceIte, Int.reduceToNat, Nat.reduceAdd, Nat.reduceMul, Nat.reduceEqDiff, wpost0, wpost1, wpost2, wpost3, wpost4, ite_self, ite_true, ite_false, if_true, if_false, bin_geq, bin_leq, fr50, wrap_int, wrap_u8, iteP_yes, iteP_no] | refine iteP_two (fun hc hd => ?_) (fun hc hd => ?_) | refine iteP_intro (fun hc => ?_) (fun hc => ?_))
  all_goals first | (simp_all; done) | (simp_all; omega) | skip
theorem isCoord_r (hX : XN X) (a : Int) (h : Heap) : Ret Try.prog ro X 42 [.int .i64 a] h (.bool (cdB a)) := by
  refine ret_of (callR_of (hX _ rfl) Try.func42 rfl (by kernel_rfl) (Nat.le_of_ble_eq_true rfl) ?_)
  (repeat' first | simp -dsimp (disch := first | omega | assumption | (refine OkS.sto ?_ (by omega); first | assumption | (refine OkS.sto ?_ (by omega); first | assumption | (refine OkS.sto ?_ (by omega); first | assumption | (refine OkS.sto ?_ (by omega); first | assumption | (refine OkS.sto ?_ (by omega); first | assumption | (refine OkS.sto ?_ (by omega); first | assumption)))))) | exact Pfx.refl _ | (apply Pfx.snoc; repeat (first | exact Pfx.refl _ | assumption | apply Pfx.snoc)) | with_unfolding_all exact of_eq_true (eq_true rfl) | (simp only [List.length_append, List.length_cons, List.length_nil]; omega)) only [↓wpre0, ↓wpre1, ↓reduceIte, Int.reduceToNat, Nat.reduceAdd, Nat.reduceMul, Nat.reduceEqDiff, wpost0, wpost1, wpost2, wpost3, wpost4, ite_self, ite_true, ite_false, if_true, if_false, fr42, wrap_int, wrap_u8, iteP_yes, iteP_no, wit_r hX] | refine iteP_two (fun hc hd => ?_) (fun hc hd => ?_) | refine iteP_intro (fun hc => ?_) (fun hc => ?_))
  rfl
theorem isCnt_r (hX : XN X) (a : Int) (h : Heap) : Ret Try.prog ro X 41 [.int .i64 a] h (.bool (decide (1 ≤ a) && decide (a ≤ 16))) := by
  refine ret_of (callR_of (hX _ rfl) Try.func41 rfl (by kernel_rfl) (Nat.le_of_ble_eq_true rfl) ?_)
  (repeat' first | simp -dsimp (disch := first | omega | assumption | (refine OkS.sto ?_ (by omega); first | assumption | (refine OkS.sto ?_ (by omega); first | assumption | (refine OkS.sto ?_ (by omega); first | assumption | (refine OkS.sto ?_ (by omega); first | assumption | (refine OkS.sto ?_ (by omega); first | assumption | (refine OkS.sto ?_ (by omega); first | assumption)))))) | exact Pfx.refl _ | (apply Pfx.snoc; repeat (first | exact Pfx.refl _ | assumption | apply Pfx.snoc)) | with_unfolding_all exact of_eq_true (eq_true rfl) | (simp only [List.length_append, List.length_cons, List.length_nil]; omega)) only [↓wpre0, ↓wpre1, ↓reduceIte, Int.reduceToNat, Nat.reduceAdd, Nat.reduceMul, Nat.reduceEqDiff, wpost0, wpost1, wpost2, wpost3, wpost4, ite_self, ite_true, ite_false, if_true, if_false, fr41, wrap_int, wrap_u8, iteP_yes, iteP_no, wit_r hX] | refine iteP_two (fun hc hd => ?_) (fun hc hd => ?_) | refine iteP_intro (fun hc => ?_) (fun hc => ?_))
def dirB (u v : Int) : Bool := decide (-64 ≤ u) && decide (u ≤ 64) && (decide (-64 ≤ v) && decide (v ≤ 64)) && decide (u * u + v * v ≤ 4096)
theorem sqr_range {u : Int} (h0 : -64 ≤ u) (h1 : u ≤ 64) : 0 ≤ u * u ∧ u * u ≤ 4096 := by
  have h : u * u = ((u.natAbs * u.natAbs : Nat) : Int) := by rw [← Int.natAbs_mul_self]
  have h2 : u.natAbs * u.natAbs ≤ 64 * 64 := Nat.mul_le_mul (by omega) (by omega)
  omega
theorem vDir_r (hX : XN X) (u v : Int) (h : Heap) (hro : ro ≤ h.length) : Ret Try.prog ro X 28 [.agg ⟨[.int .i64 u, .int .i64 v]⟩] h (.bool (dirB u v)) := by
  refine ret_of (callR_of (hX _ rfl) Try.func28 rfl (by kernel_rfl) (Nat.le_of_ble_eq_true rfl) ?_)
  (repeat' first | simp -dsimp (disch := first | omega | assumption | (refine OkS.sto ?_ (by omega); first | assumption | (refine OkS.sto ?_ (by omega); first | assumption | (refine OkS.sto ?_ (by omega); first | assumption | (refine OkS.sto ?_ (by omega); first | assumption | (refine OkS.sto ?_ (by omega); first | assumption | (refine OkS.sto ?_ (by omega); first | assumption)))))) | exact Pfx.refl _ | (apply Pfx.snoc; repeat (first | exact Pfx.refl _ | assumption | apply Pfx.snoc)) | with_unfolding_all exact of_eq_true (eq_true rfl) | (simp only [List.length_append, List.length_cons, List.length_nil]; omega)) only [↓wpre0, ↓wpre1, ↓reduceIte, Int.reduceToNat, Nat.reduceAdd, Nat.reduceMul, Nat.reduceEqDiff, wpost0, wpost1, wpost2, wpost3, wpost4, ite_self, ite_true, ite_false, if_true, if_false, xfad27_0, xld2, xfad27_1, bin_mul, bin_add, bin_leq, fr28, wrap_int, wrap_u8, iteP_yes, iteP_no, wit_r hX] | refine iteP_two (fun hc hd => ?_) (fun hc hd => ?_) | refine iteP_intro (fun hc => ?_) (fun hc => ?_))
  · have h1 := sqr_range (u := u) (by omega) (by omega)
    have h2 := sqr_range (u := v) (by omega) (by omega)
    rw [wrap_int (n := u * u) (by omega) (by omega), wrap_int (n := v * v) (by omega) (by omega), wrap_int (by omega) (by omega)]
    simp [dirB, *]
  all_goals simp [dirB, *]
/-- The first of some places. -/
theorem is_cut {P : Program} {T e lo hi n q : Nat} {kk : IntKind} {h : Heap} {x : Value} {l : List Int} (hu : P.underlying T = some (.slice e)) (hs : szT P e = some 2) (g : IS lo hi 2 h x n l) (ht : ro ≤ bOf x → (h[bOf x]?).map Blk.ty = some e) (hq : q ≤ n) : ∃ y, slc P ro h T x none (some (.int kk q)) none = some y ∧ IS lo hi 2 h y q (l.take (q * 2)) := by
  rcases g with ⟨hl, ⟨rfl, rfl⟩ | ⟨b, o, cap, Bk, rfl, h1, h2, h3, h4, h5⟩⟩
  · obtain rfl : q = 0 := by omega
    refine ⟨.slice none 0 0, ?_, ⟨by simp, .inl ⟨rfl, rfl⟩⟩⟩
    simp only [slc, hu, bnd, hs, Option.bind_some]
    rw [if_pos (by simp)]
  · refine ⟨.slice (some ⟨b, o, none⟩) q (if q = n ∧ cap = n then q else q + 1), ?_, ⟨by rw [List.length_take]; omega, .inr ⟨b, o, _, Bk, rfl, h1, h2, h3, by omega, fun j hj => ?_⟩⟩⟩
    · have ht' : ro ≤ b → (h[b]?).map Blk.ty = some e := ht
      have e : ((q : Int) = (n : Int)) = (q = n) := propext ⟨fun h => by omega, fun h => by omega⟩
      simp only [slc, hu, bnd, hs, Option.bind_some]
      rw [if_pos ⟨Int.le_refl _, by omega, by omega, Int.le_refl _, ht', fun q => by simp at q⟩]
      simp [e]
    · rw [h5 j (by omega)]
      have : j < q * 2 := by omega
      simp [nth, List.getD_eq_getElem?_getD, List.getElem?_take, this]
theorem nth_tk {l : List Int} {q j : Nat} (h : j < q) : nth (l.take q) j = nth l j := by simp [nth, List.getD_eq_getElem?_getD, List.getElem?_take, h]
theorem is_one (h : Heap) (u v : Int) : IS h.length (h.length + 1) 2 (h ++ [(⟨51, [.int .i64 u, .int .i64 v]⟩ : Blk)]) (.slice (some ⟨h.length, 0, none⟩) 1 1) 1 [u, v] :=
  ⟨rfl, .inr ⟨h.length, 0, 1, ⟨51, [.int .i64 u, .int .i64 v]⟩, rfl, Nat.le_refl _, Nat.lt_succ_self _, by simp, by simp, fun j hj => by
    have : j = 0 ∨ j = 1 := by omega
    rcases this with rfl | rfl <;> rfl⟩⟩
/-- Places lie in a block of places. -/
def tyP (ro : Nat) (h : Heap) (x : Value) : Prop := ro ≤ bOf x → (h[bOf x]?).map Blk.ty = some 51
theorem tyP.pre {h' : Heap} (t : tyP ro h x) (hI : IS lo hi 2 h x n l) (hn : 0 < n) (p : Pfx h h') : tyP ro h' x := fun q => by
  rw [p.get (hI.bof hn).2.2]
  exact t q
/-- Whether a place is among the first of some. -/
theorem index_r (hX : XN X) (hI : IS lo hi 2 h x n l) (hn : n ≤ 1048576) (hro : ro ≤ h.length) (u v : Int) (hno : ∀ k, k < n → (decide (nth l (k * 2) = u) && decide (nth l (k * 2 + 1) = v)) = false) : Ret Try.prog ro X 63 [x, .agg ⟨[.int .i64 u, .int .i64 v]⟩] h (.int .i64 (-1)) := by
  have e2 : ∀ a b : Int, abin Try.prog .eql 51 (.agg ⟨[.int .i64 u, .int .i64 v]⟩) (.agg ⟨[.int .i64 a, .int .i64 b]⟩) = some (.bool (decide (u = a) && decide (v = b))) := fun a b => bin_eql2 (by decide +kernel)
  have hb : boxV h 51 (.agg ⟨[.int .i64 u, .int .i64 v]⟩) = some (.pointer (some ⟨h.length, 0, none⟩), h ++ [⟨51, [.int .i64 u, .int .i64 v]⟩]) := box_go rfl
  have p0 : Pfx h (h ++ [(⟨51, [.int .i64 u, .int .i64 v]⟩ : Blk)]) := (Pfx.refl h).snoc
  have hI0 := hI.pre p0
  have ef : ∀ z, endH (.int .i64 z) h (h ++ [(⟨51, [.int .i64 u, .int .i64 v]⟩ : Blk)]) = h := fun z => endH_flat rfl p0
  have hc3 : cells (h ++ [(⟨51, [.int .i64 u, .int .i64 v]⟩ : Blk)]) h.length 0 2 = some (.agg ⟨[.int .i64 u, .int .i64 v]⟩) := cells_last rfl (by simp)
  refine ret_of (callR_of (hX _ rfl) Try.func63 rfl (by kernel_rfl) (Nat.le_of_ble_eq_true rfl) ?_)
  (repeat' first | simp -dsimp (disch := first | omega | assumption | (refine OkS.sto ?_ (by omega); first | assumption | (refine OkS.sto ?_ (by omega); first | assumption | (refine OkS.sto ?_ (by omega); first | assumption | (refine OkS.sto ?_ (by omega); first | assumption | (refine OkS.sto ?_ (by omega); first | assumption | (refine OkS.sto ?_ (by omega); first | assumption)))))) | exact Pfx.refl _ | (apply Pfx.snoc; repeat (first | exact Pfx.refl _ | assumption | apply Pfx.snoc)) | with_unfolding_all exact of_eq_true (eq_true rfl) | (simp only [List.length_append, List.length_cons, List.length_nil]; omega)) only [↓wpre0, ↓wpre1, ↓reduceIte, Int.reduceToNat, Nat.reduceAdd, Nat.reduceMul, Nat.reduceEqDiff, wpost0, wpost1, wpost2, wpost3, wpost4, ite_self, ite_true, ite_false, if_true, if_false, xlen24, bin_lss, xld51, xiad24, bin_add, fr63, wrap_int, wrap_u8, iteP_yes, iteP_no, hb, hI0.len Try.underlying24] | refine iteP_two (fun hc hd => ?_) (fun hc hd => ?_) | refine iteP_intro (fun hc => ?_) (fun hc => ?_))
  generalize hH : h ++ [(⟨51, [.int .i64 u, .int .i64 v]⟩ : Blk)] = H at *
  refine loop_rounds (fun mm e h' => ∃ i : Nat, mm = n - i ∧ i ≤ n ∧ h' = H ∧ e 0 = x ∧ e 3 = .pointer (some ⟨h.length, 0, none⟩) ∧ e 7 = .int .i64 n ∧ e 8 = .int .i64 i) _ ⟨0, rfl, ?_⟩ ?_
  · simp only [updO_at, updO_not, entry_at, List.getD_cons_zero, List.getD_cons_succ, ↓reduceIte, Nat.reduceEqDiff, true_and, and_true]
    (repeat' (first | assumption | rfl | omega | refine And.intro ?_ ?_))
  · rintro mm e h' ⟨i, hmm, hle, rfl, g0, g3, g7, g8⟩
    have hks : (i : Int) + 1 = ((i + 1 : Nat) : Int) := by omega
    by_cases hin : i < n
    · have hld := IS.ldm (P := Try.prog) (t := 51) (m := 2) (c := i * 2) hI0 tsz51 tag51 (by omega) (by omega)
      rw [ints_2] at hld
      have hno' : (decide (u = nth l (i * 2)) && decide (v = nth l (i * 2 + 1))) = false := by
        rw [← hno i hin]
        congr 1 <;> exact decide_eq_decide.2 eq_comm
      (repeat' first | simp -dsimp (disch := first | omega | assumption | (refine OkS.sto ?_ (by omega); first | assumption | (refine OkS.sto ?_ (by omega); first | assumption | (refine OkS.sto ?_ (by omega); first | assumption | (refine OkS.sto ?_ (by omega); first | assumption | (refine OkS.sto ?_ (by omega); first | assumption | (refine OkS.sto ?_ (by omega); first | assumption)))))) | exact Pfx.refl _ | (apply Pfx.snoc; repeat (first | exact Pfx.refl _ | assumption | apply Pfx.snoc)) | with_unfolding_all exact of_eq_true (eq_true rfl) | (simp only [List.length_append, List.length_cons, List.length_nil]; omega)) only [↓wpre0, ↓wpre1, ↓reduceIte, Int.reduceToNat, Nat.reduceAdd, Nat.reduceMul, Nat.reduceEqDiff, wpost0, wpost1, wpost2, wpost3, wpost4, ite_self, ite_true, ite_false, if_true, if_false, xlen24, bin_lss, xld51, xiad24, bin_add, fr63, wrap_int, wrap_u8, iteP_yes, iteP_no, g0, g3, g7, g8, hI0.len Try.underlying24, hI0.iad Try.underlying24 tsz51, hld, hc3, e2, hno'] | refine iteP_two (fun hc hd => ?_) (fun hc hd => ?_) | refine iteP_intro (fun hc => ?_) (fun hc => ?_))
      refine ⟨n - (i + 1), by omega, i + 1, ?_⟩
      (repeat' (first | assumption | rfl | omega | (rw [hks]) | refine And.intro ?_ ?_))
    · (repeat' first | simp -dsimp (disch := first | omega | assumption | (refine OkS.sto ?_ (by omega); first | assumption | (refine OkS.sto ?_ (by omega); first | assumption | (refine OkS.sto ?_ (by omega); first | assumption | (refine OkS.sto ?_ (by omega); first | assumption | (refine OkS.sto ?_ (by omega); first | assumption | (refine OkS.sto ?_ (by omega); first | assumption)))))) | exact Pfx.refl _ | (apply Pfx.snoc; repeat (first | exact Pfx.refl _ | assumption | apply Pfx.snoc)) | with_unfolding_all exact of_eq_true (eq_true rfl) | (simp only [List.length_append, List.length_cons, List.length_nil]; omega)) only [↓wpre0, ↓wpre1, ↓reduceIte, Int.reduceToNat, Nat.reduceAdd, Nat.reduceMul, Nat.reduceEqDiff, wpost0, wpost1, wpost2, wpost3, wpost4, ite_self, ite_true, ite_false, if_true, if_false, xlen24, bin_lss, xld51, xiad24, bin_add, fr63, wrap_int, wrap_u8, iteP_yes, iteP_no, g0, g3, g7, g8, ef] | refine iteP_two (fun hc hd => ?_) (fun hc hd => ?_) | refine iteP_intro (fun hc => ?_) (fun hc => ?_))
theorem contains_r (hX : XN X) (hI : IS lo hi 2 h x n l) (hn : n ≤ 1048576) (hro : ro ≤ h.length) (u v : Int) (hno : ∀ k, k < n → (decide (nth l (k * 2) = u) && decide (nth l (k * 2 + 1) = v)) = false) : Ret Try.prog ro X 49 [x, .agg ⟨[.int .i64 u, .int .i64 v]⟩] h (.bool false) := by
  have hb : boxV h 51 (.agg ⟨[.int .i64 u, .int .i64 v]⟩) = some (.pointer (some ⟨h.length, 0, none⟩), h ++ [⟨51, [.int .i64 u, .int .i64 v]⟩]) := box_go rfl
  have p0 : Pfx h (h ++ [(⟨51, [.int .i64 u, .int .i64 v]⟩ : Blk)]) := (Pfx.refl h).snoc
  have hc : Ret Try.prog ro X 63 [x, .agg ⟨[.int .i64 u, .int .i64 v]⟩] (h ++ [(⟨51, [.int .i64 u, .int .i64 v]⟩ : Blk)]) (.int .i64 (-1)) := index_r hX (hI.pre p0) hn (by simp; omega) u v hno
  have ef : ∀ z, endH (.bool z) h (h ++ [(⟨51, [.int .i64 u, .int .i64 v]⟩ : Blk)]) = h := fun z => endH_flat rfl p0
  refine ret_of (callR_of (hX _ rfl) Try.func49 rfl (by kernel_rfl) (Nat.le_of_ble_eq_true rfl) ?_)
  (repeat' first | simp -dsimp (disch := first | omega | assumption | (refine OkS.sto ?_ (by omega); first | assumption | (refine OkS.sto ?_ (by omega); first | assumption | (refine OkS.sto ?_ (by omega); first | assumption | (refine OkS.sto ?_ (by omega); first | assumption | (refine OkS.sto ?_ (by omega); first | assumption | (refine OkS.sto ?_ (by omega); first | assumption)))))) | exact Pfx.refl _ | (apply Pfx.snoc; repeat (first | exact Pfx.refl _ | assumption | apply Pfx.snoc)) | with_unfolding_all exact of_eq_true (eq_true rfl) | (simp only [List.length_append, List.length_cons, List.length_nil]; omega)) only [↓wpre0, ↓wpre1, ↓reduceIte, Int.reduceToNat, Nat.reduceAdd, Nat.reduceMul, Nat.reduceEqDiff, wpost0, wpost1, wpost2, wpost3, wpost4, ite_self, ite_true, ite_false, if_true, if_false, xld51, bin_geq, fr49, wrap_int, wrap_u8, iteP_yes, iteP_no, hb, hc, ef] | refine iteP_two (fun hc hd => ?_) (fun hc hd => ?_) | refine iteP_intro (fun hc => ?_) (fun hc => ?_))
  rfl
set_option maxHeartbeats 4000000 in
theorem vPlaces_r (hX : XN X) (hI : IS lo hi 2 h x n l) (ht : tyP ro h x) (hg : goodP n l) (hro : ro ≤ h.length) : Ret Try.prog ro X 27 [x] h (.bool true) := by
  have h1 := hg.n1
  have h16 := hg.n16
  have hl : l.length = n * 2 := hI.1
  have hw : (decide ((1 : Int) ≤ (n : Int)) && decide ((n : Int) ≤ 16)) = true := by simp; omega
  refine ret_of (callR_of (hX _ rfl) Try.func27 rfl (by kernel_rfl) (Nat.le_of_ble_eq_true rfl) ?_)
  (repeat' first | simp -dsimp (disch := first | omega | assumption | (refine OkS.sto ?_ (by omega); first | assumption | (refine OkS.sto ?_ (by omega); first | assumption | (refine OkS.sto ?_ (by omega); first | assumption | (refine OkS.sto ?_ (by omega); first | assumption | (refine OkS.sto ?_ (by omega); first | assumption | (refine OkS.sto ?_ (by omega); first | assumption)))))) | exact Pfx.refl _ | (apply Pfx.snoc; repeat (first | exact Pfx.refl _ | assumption | apply Pfx.snoc)) | with_unfolding_all exact of_eq_true (eq_true rfl) | (simp only [List.length_append, List.length_cons, List.length_nil]; omega)) only [↓wpre0, ↓wpre1, ↓reduceIte, Int.reduceToNat, Nat.reduceAdd, Nat.reduceMul, Nat.reduceEqDiff, wpost0, wpost1, wpost2, wpost3, wpost4, ite_self, ite_true, ite_false, if_true, if_false, xlen24, un_not, bin_lss, xiad24, xld51, tze51, xst51, xfad51_0, xld2, xfad51_1, bin_add, fr27, wrap_int, wrap_u8, iteP_yes, iteP_no, hI.len Try.underlying24, isCnt_r hX, hw] | refine iteP_two (fun hc hd => ?_) (fun hc hd => ?_) | refine iteP_intro (fun hc => ?_) (fun hc => ?_))
  refine loop_rounds (fun mm e h' => ∃ i : Nat, mm = n - i ∧ i ≤ n ∧ Pfx h h' ∧ e 0 = x ∧ e 9 = x ∧ e 10 = .int .i64 n ∧ e 11 = .int .i64 i) _ ⟨0, rfl, ?_⟩ ?_
  · simp only [updO_at, updO_not, entry_at, List.getD_cons_zero, List.getD_cons_succ, ↓reduceIte, Nat.reduceEqDiff, true_and, and_true]
    (repeat' (first | assumption | rfl | omega | exact Pfx.refl _ | refine And.intro ?_ ?_))
  · rintro mm e h' ⟨i, hmm, hle, hp, g0, g9, g10, g11⟩
    have hks : (i : Int) + 1 = ((i + 1 : Nat) : Int) := by omega
    have hlp := hp.len
    have hI' := hI.pre hp
    by_cases hin : i < n
    · have hpl := hg.pl i hin
      unfold plB at hpl
      rw [Bool.and_eq_true] at hpl
      obtain ⟨k1, k2⟩ := hpl
      have p1 : Pfx h' (h' ++ [(⟨51, [.int .i64 (nth l (i * 2)), .int .i64 (nth l (i * 2 + 1))]⟩ : Blk)]) := (Pfx.refl h').snoc
      obtain ⟨y, hy, hyI⟩ := is_cut (P := Try.prog) (ro := ro) (kk := .i64) (T := 24) (q := i) Try.underlying24 tsz51 (hI'.pre p1) ((ht.pre hI (by omega) hp).pre hI' (by omega) p1) (by omega)
      have hct := contains_r (ro := ro) hX hyI (by omega) (by simp; omega) (nth l (i * 2)) (nth l (i * 2 + 1)) (fun k hk => by
        have := hg.df i k hin hk
        unfold samB at this
        rw [nth_tk (by omega), nth_tk (by omega)]
        exact this)
      (repeat' first | simp -dsimp (disch := first | omega | assumption | (refine OkS.sto ?_ (by omega); first | assumption | (refine OkS.sto ?_ (by omega); first | assumption | (refine OkS.sto ?_ (by omega); first | assumption | (refine OkS.sto ?_ (by omega); first | assumption | (refine OkS.sto ?_ (by omega); first | assumption | (refine OkS.sto ?_ (by omega); first | assumption)))))) | exact Pfx.refl _ | (apply Pfx.snoc; repeat (first | exact Pfx.refl _ | assumption | apply Pfx.snoc)) | with_unfolding_all exact of_eq_true (eq_true rfl) | (simp only [List.length_append, List.length_cons, List.length_nil]; omega)) only [↓wpre0, ↓wpre1, ↓reduceIte, Int.reduceToNat, Nat.reduceAdd, Nat.reduceMul, Nat.reduceEqDiff, wpost0, wpost1, wpost2, wpost3, wpost4, ite_self, ite_true, ite_false, if_true, if_false, xlen24, un_not, bin_lss, xiad24, xld51, tze51, xst51, xfad51_0, xld2, xfad51_1, bin_add, fr27, wrap_int, wrap_u8, iteP_yes, iteP_no, g0, g9, g10, g11, hI'.iad Try.underlying24 tsz51, IS.ldm hI' tsz51 tag51, ints_2, isCoord_r hX, k1, k2, hy, hct] | refine iteP_two (fun hc hd => ?_) (fun hc hd => ?_) | refine iteP_intro (fun hc => ?_) (fun hc => ?_))
      refine ⟨n - (i + 1), by omega, i + 1, ?_⟩
      (repeat' (first | assumption | rfl | omega | (rw [hks]) | exact hp.snoc | refine And.intro ?_ ?_))
    · have ef : ∀ z, endH (.bool z) h h' = h := fun z => endH_flat rfl hp
      (repeat' first | simp -dsimp (disch := first | omega | assumption | (refine OkS.sto ?_ (by omega); first | assumption | (refine OkS.sto ?_ (by omega); first | assumption | (refine OkS.sto ?_ (by omega); first | assumption | (refine OkS.sto ?_ (by omega); first | assumption | (refine OkS.sto ?_ (by omega); first | assumption | (refine OkS.sto ?_ (by omega); first | assumption)))))) | exact Pfx.refl _ | (apply Pfx.snoc; repeat (first | exact Pfx.refl _ | assumption | apply Pfx.snoc)) | with_unfolding_all exact of_eq_true (eq_true rfl) | (simp only [List.length_append, List.length_cons, List.length_nil]; omega)) only [↓wpre0, ↓wpre1, ↓reduceIte, Int.reduceToNat, Nat.reduceAdd, Nat.reduceMul, Nat.reduceEqDiff, wpost0, wpost1, wpost2, wpost3, wpost4, ite_self, ite_true, ite_false, if_true, if_false, xlen24, un_not, bin_lss, xiad24, xld51, tze51, xst51, xfad51_0, xld2, xfad51_1, bin_add, fr27, wrap_int, wrap_u8, iteP_yes, iteP_no, g0, g9, g10, g11, ef] | refine iteP_two (fun hc hd => ?_) (fun hc hd => ?_) | refine iteP_intro (fun hc => ?_) (fun hc => ?_))
end Go.Proofs.Ytkhipobafchilaa.Sim

/- Steering, patterns and powers of valid places, walked. Lemmas only; no condition. -/
set_option linter.unusedSimpArgs false
set_option linter.unusedVariables false
set_option maxRecDepth 8000
namespace Go.Proofs.Ytkhipobafchilaa.Sim
open Go Go.RowKit Fl
variable {ro lo hi lo' n : Nat} {X : Ext} {h : Heap} {x y : Value} {l : List Int} {f : Nat → CB} {u v : Int}
/-- The steps of a place in a direction. -/
def stpN (l : List Int) (u v : Int) (i : Nat) : Int := nth l (i * 2) * u + nth l (i * 2 + 1) * v
/-- The numbers of a direction that is told valid. -/
theorem dirB_le (h : dirB u v = true) : -64 ≤ u ∧ u ≤ 64 ∧ -64 ≤ v ∧ v ≤ 64 := by
  unfold dirB at h
  simp only [Bool.and_eq_true, decide_eq_true_eq] at h
  omega
theorem mul_rng {a b : Int} (h1 : -4096 ≤ a) (h2 : a ≤ 4096) (h3 : -64 ≤ b) (h4 : b ≤ 64) : -262144 ≤ a * b ∧ a * b ≤ 262144 := by
  have e : (a * b).natAbs = a.natAbs * b.natAbs := Int.natAbs_mul a b
  have : a.natAbs * b.natAbs ≤ 4096 * 64 := Nat.mul_le_mul (by omega) (by omega)
  omega
theorem stp_rng (hg : goodP n l) (hd : dirB u v = true) {i : Nat} (hi : i < n) : -262144 ≤ nth l (i * 2) * u ∧ nth l (i * 2) * u ≤ 262144 ∧ -262144 ≤ nth l (i * 2 + 1) * v ∧ nth l (i * 2 + 1) * v ≤ 262144 := by
  have hp := hg.pl i hi
  unfold plB cdB at hp
  simp only [Bool.and_eq_true, decide_eq_true_eq] at hp
  obtain ⟨d1, d2, d3, d4⟩ := dirB_le hd
  have a := mul_rng (a := nth l (i * 2)) (b := u) (by omega) (by omega) d1 d2
  have b := mul_rng (a := nth l (i * 2 + 1)) (b := v) (by omega) (by omega) d3 d4
  omega
theorem stp_lt (hg : goodP n l) (hd : dirB u v = true) {i : Nat} (hi : i < n) : (stpN l u v i).natAbs < 2 ^ 27 := by
  have := stp_rng hg hd hi
  have h27 : (2 : Nat) ^ 27 = 134217728 := by decide
  rw [h27]
  unfold stpN
  omega
theorem steer_row {l : List Int} {u v : Int} (i : Nat) : rowV (i + 1) (fun i => PH (stpN l u v i)) = rowV i (fun i => PH (stpN l u v i)) ++ [toV (PH (stpN l u v i))] := rowV_succ _ _
set_option maxHeartbeats 4000000 in
theorem steering_c (hX : XN X) (hA : XAbs X) (hI : IS lo hi 2 h x n l) (hg : goodP n l) (hd : dirB u v = true) (hro : ro ≤ h.length) (hlo : hi ≤ h.length) : CallR Try.prog ro X 29 [x, .agg ⟨[.int .i64 u, .int .i64 v]⟩] h (fun r h' => Pfx h h' ∧ RowB h.length h' r n (fun i => PH (stpN l u v i))) := by
  have h1 := hg.n1
  have h16 := hg.n16
  have hl : l.length = n * 2 := hI.1
  have hb : boxV h 27 (.agg ⟨[.int .i64 u, .int .i64 v]⟩) = some (.pointer (some ⟨h.length, 0, none⟩), h ++ [⟨27, [.int .i64 u, .int .i64 v]⟩]) := box_go rfl
  obtain ⟨d1, d2, d3, d4⟩ := dirB_le hd
  refine callR_of (hX _ rfl) Try.func29 rfl (by kernel_rfl) (Nat.le_of_ble_eq_true rfl) ?_
  (repeat' first | simp -dsimp (disch := first | omega | assumption | (refine OkS.sto ?_ (by omega); first | assumption | (refine OkS.sto ?_ (by omega); first | assumption | (refine OkS.sto ?_ (by omega); first | assumption | (refine OkS.sto ?_ (by omega); first | assumption | (refine OkS.sto ?_ (by omega); first | assumption | (refine OkS.sto ?_ (by omega); first | assumption)))))) | exact Pfx.refl _ | (apply Pfx.snoc; repeat (first | exact Pfx.refl _ | assumption | apply Pfx.snoc)) | with_unfolding_all exact of_eq_true (eq_true rfl) | (simp only [List.length_append, List.length_cons, List.length_nil]; omega)) only [↓wpre0, ↓wpre1, ↓reduceIte, Int.reduceToNat, Nat.reduceAdd, Nat.reduceMul, Nat.reduceEqDiff, wpost0, wpost1, wpost2, wpost3, wpost4, ite_self, ite_true, ite_false, if_true, if_false, xbls29_0, xbls29_1, xlen24, bin_lss, xiad24, xld51, tze51, xst51, xfad51_0, xld2, xfad27_0, bin_mul, xfad51_1, xfad27_1, bin_add, xcv2_39, bin_fquo, fr29, wrap_int, wrap_u8, iteP_yes, iteP_no, hb, hI.len Try.underlying24] | refine iteP_two (fun hc hd => ?_) (fun hc hd => ?_) | refine iteP_intro (fun hc => ?_) (fun hc => ?_))
  refine loop_rounds (fun mm e h' => ∃ (i : Nat) (y : Value), mm = n - i ∧ i ≤ n ∧ Pfx h h' ∧ h'[h.length]? = some ⟨27, [.int .i64 u, .int .i64 v]⟩ ∧ e 3 = .pointer (some ⟨h.length, 0, none⟩) ∧ e 5 = y ∧ e 9 = x ∧ e 10 = .int .i64 n ∧ e 11 = .int .i64 i ∧ VG (h.length + 1) 32 1 h' y i (rowV i (fun i => PH (stpN l u v i)))) _ ⟨0, .slice (some ⟨h.length + 1, 0, none⟩) 0 0, rfl, ?_⟩ ?_
  · simp only [updO_at, updO_not, entry_at, List.getD_cons_zero, List.getD_cons_succ, ↓reduceIte, Nat.reduceEqDiff, true_and, and_true]
    have q1 : Pfx h (h ++ [(⟨27, [.int .i64 u, .int .i64 v]⟩ : Blk)] ++ [(⟨32, []⟩ : Blk)]) := (Pfx.refl h).snoc.snoc
    have q2 : VG (h.length + 1) 32 1 (h ++ [(⟨27, [.int .i64 u, .int .i64 v]⟩ : Blk)] ++ [(⟨32, []⟩ : Blk)]) (.slice (some ⟨h.length + 1, 0, none⟩) 0 0) 0 (rowV 0 (fun i => PH (stpN l u v i))) := by
      have := vg_new (lo := h.length + 1) (t := 32) (k := 1) (h ++ [(⟨27, [.int .i64 u, .int .i64 v]⟩ : Blk)]) (by simp)
      have e : (h ++ [(⟨27, [.int .i64 u, .int .i64 v]⟩ : Blk)]).length = h.length + 1 := by simp
      rw [e] at this
      exact this
    have q3 : (h ++ [(⟨27, [.int .i64 u, .int .i64 v]⟩ : Blk)] ++ [(⟨32, []⟩ : Blk)])[h.length]? = some ⟨27, [.int .i64 u, .int .i64 v]⟩ := by simp
    (repeat' (first | assumption | rfl | omega | exact q1 | exact q2 | exact q3 | exact Nat.zero_le _ | (simp; done) | refine And.intro ?_ ?_))
  · rintro mm e h' ⟨i, y, hmm, hle, hp, hbl, g3, g5, g9, g10, g11, hY⟩
    have hks : (i : Int) + 1 = ((i + 1 : Nat) : Int) := by omega
    have hlp := hp.len
    have hI' := hI.pre hp
    have hbb := hY.bof
    have hlt : h.length < h'.length := by
      rcases Nat.lt_or_ge h.length h'.length with q | q
      · exact q
      · rw [List.getElem?_eq_none q] at hbl; cases hbl
    have c0 : cell h' h.length 0 = some (.int .i64 u) := cellb hbl
    have c1 : cell h' h.length 1 = some (.int .i64 v) := cellb hbl
    by_cases hin : i < n
    · obtain ⟨s1, s2, s3, s4⟩ := stp_rng hg hd hin
      have hst := stp_lt hg hd hin
      have p1 : Pfx h' (h' ++ [(⟨51, [.int .i64 (nth l (i * 2)), .int .i64 (nth l (i * 2 + 1))]⟩ : Blk)]) := (Pfx.refl h').snoc
      obtain ⟨H1, hH1⟩ : ∃ H, H = h' ++ [(⟨51, [.int .i64 (nth l (i * 2)), .int .i64 (nth l (i * 2 + 1))]⟩ : Blk)] := ⟨_, rfl⟩
      have lH1 : H1.length = h'.length + 1 := by rw [hH1]; simp
      have hY1 : VG (h.length + 1) 32 1 H1 y i (rowV i (fun i => PH (stpN l u v i))) := by rw [hH1]; exact hY.pre p1
      obtain ⟨H, ap, vg, old, hlen⟩ := acc1 (P := Try.prog) (ro := ro) (T := 29) (h := H1) (v := toV (PH (stpN l u v i))) tel29 tsz32 tby32 tze32 (.inl hY1) (by omega) (by omega) rfl (by omega) (by omega)
      have hPh := Phasor_r (ro := ro) (X := X) hX hA hst H1
      simp only [stF, stpN] at hPh
      rw [← steer_row] at vg
      have hpp := old.1 h (by rw [hH1]; exact hp.trans p1) (by omega)
      have hbl' : H[h.length]? = some ⟨27, [.int .i64 u, .int .i64 v]⟩ := by
        rw [old.2.1 _ (by omega) (.inr (by omega)), hH1, p1.get hlt]; exact hbl
      rw [hH1] at ap hPh vg
      simp only [stpN, toV] at ap hPh
      (repeat' first | simp -dsimp (disch := first | omega | assumption | (refine OkS.sto ?_ (by omega); first | assumption | (refine OkS.sto ?_ (by omega); first | assumption | (refine OkS.sto ?_ (by omega); first | assumption | (refine OkS.sto ?_ (by omega); first | assumption | (refine OkS.sto ?_ (by omega); first | assumption | (refine OkS.sto ?_ (by omega); first | assumption)))))) | exact Pfx.refl _ | (apply Pfx.snoc; repeat (first | exact Pfx.refl _ | assumption | apply Pfx.snoc)) | with_unfolding_all exact of_eq_true (eq_true rfl) | (simp only [List.length_append, List.length_cons, List.length_nil]; omega)) only [↓wpre0, ↓wpre1, ↓reduceIte, Int.reduceToNat, Nat.reduceAdd, Nat.reduceMul, Nat.reduceEqDiff, wpost0, wpost1, wpost2, wpost3, wpost4, ite_self, ite_true, ite_false, if_true, if_false, xbls29_0, xbls29_1, xlen24, bin_lss, xiad24, xld51, tze51, xst51, xfad51_0, xld2, xfad27_0, bin_mul, xfad51_1, xfad27_1, bin_add, xcv2_39, bin_fquo, fr29, wrap_int, wrap_u8, iteP_yes, iteP_no, g3, g5, g9, g10, g11, hI'.iad Try.underlying24 tsz51, IS.ldm hI' tsz51 tag51, ints_2, c0, c1, wrap_int, hPh, ap, conv_if Try.underlying2 Try.underlying39] | refine iteP_two (fun hc hd => ?_) (fun hc hd => ?_) | refine iteP_intro (fun hc => ?_) (fun hc => ?_))
      exact ⟨n - (i + 1), by omega, i + 1, _, rfl, by omega, hpp, hbl', rfl, by rw [hks], vg⟩
    · have ei : i = n := by omega
      subst ei
      have hnf : Sim.flat y = false := by obtain ⟨_, b, cap, rfl, _⟩ := hY; rfl
      (repeat' first | simp -dsimp (disch := first | omega | assumption | (refine OkS.sto ?_ (by omega); first | assumption | (refine OkS.sto ?_ (by omega); first | assumption | (refine OkS.sto ?_ (by omega); first | assumption | (refine OkS.sto ?_ (by omega); first | assumption | (refine OkS.sto ?_ (by omega); first | assumption | (refine OkS.sto ?_ (by omega); first | assumption)))))) | exact Pfx.refl _ | (apply Pfx.snoc; repeat (first | exact Pfx.refl _ | assumption | apply Pfx.snoc)) | with_unfolding_all exact of_eq_true (eq_true rfl) | (simp only [List.length_append, List.length_cons, List.length_nil]; omega)) only [↓wpre0, ↓wpre1, ↓reduceIte, Int.reduceToNat, Nat.reduceAdd, Nat.reduceMul, Nat.reduceEqDiff, wpost0, wpost1, wpost2, wpost3, wpost4, ite_self, ite_true, ite_false, if_true, if_false, xbls29_0, xbls29_1, xlen24, bin_lss, xiad24, xld51, tze51, xst51, xfad51_0, xld2, xfad27_0, bin_mul, xfad51_1, xfad27_1, bin_add, xcv2_39, bin_fquo, fr29, wrap_int, wrap_u8, iteP_yes, iteP_no, g3, g5, g9, g10, g11, endH_not hnf] | refine iteP_two (fun hc hd => ?_) (fun hc hd => ?_) | refine iteP_intro (fun hc => ?_) (fun hc => ?_))
      exact ⟨hp, (hY.low (show h.length ≤ h.length + 1 by omega)).vsl⟩
/-- The pattern of weights in a direction. -/
def ptF (f : Nat → CB) (l : List Int) (n : Nat) (u v : Int) : CB := dotB (fun i => cjB (f i)) (fun i => PH (stpN l u v i)) n
theorem PH_bdC {s : Int} (hs : s.natAbs < 2 ^ 27) : bdC 153 (PH s) := ⟨(PH_bd hs).1, (PH_bd hs).2⟩
theorem ptF_bd (hg : goodP n l) (hd : dirB u v = true) (hf : ∀ i, i < n → bdC 150 (f i)) : bdC 171 (ptF f l n u v) := by
  have h16 := hg.n16
  exact (dotB_bd (t := 155) (u := 150) (w := 153) (by decide) (fun i hi => cjB_bd (hf i hi)) (fun i hi => PH_bdC (stp_lt hg hd hi)) (by omega)).mono (by omega)
/-- What is asked of places and weights. -/
structure PW (ro : Nat) (h : Heap) (x y : Value) (n : Nat) (l : List Int) (f : Nat → CB) : Prop where
  g : goodP n l
  pl : ∃ lo hi, hi ≤ h.length ∧ IS lo hi 2 h x n l
  ty : tyP ro h x
  w : ∃ lo, RowB lo h y n f
  bd : ∀ i, i < n → bdC 150 (f i)
theorem PW.pre {h' : Heap} (k : PW ro h x y n l f) (p : Pfx h h') : PW ro h' x y n l f := by
  obtain ⟨lo, hi, h1, h2⟩ := k.pl
  obtain ⟨lo', h3⟩ := k.w
  have := k.g.n1
  exact ⟨k.g, ⟨lo, hi, Nat.le_trans h1 p.len, h2.pre p⟩, k.ty.pre h2 (by omega) p, ⟨lo', h3.pre p⟩, k.bd⟩
theorem areFor_r (hX : XN X) (k : PW ro h x y n l f) (hro : ro ≤ h.length) : Ret Try.prog ro X 30 [x, y] h (.bool true) := by
  obtain ⟨lo, hi, h1, hI⟩ := k.pl
  obtain ⟨lo', hR⟩ := k.w
  refine ret_of (callR_of (hX _ rfl) Try.func30 rfl (by kernel_rfl) (Nat.le_of_ble_eq_true rfl) ?_)
  (repeat' first | simp -dsimp (disch := first | omega | assumption | (refine OkS.sto ?_ (by omega); first | assumption | (refine OkS.sto ?_ (by omega); first | assumption | (refine OkS.sto ?_ (by omega); first | assumption | (refine OkS.sto ?_ (by omega); first | assumption | (refine OkS.sto ?_ (by omega); first | assumption | (refine OkS.sto ?_ (by omega); first | assumption)))))) | exact Pfx.refl _ | (apply Pfx.snoc; repeat (first | exact Pfx.refl _ | assumption | apply Pfx.snoc)) | with_unfolding_all exact of_eq_true (eq_true rfl) | (simp only [List.length_append, List.length_cons, List.length_nil]; omega)) only [↓wpre0, ↓wpre1, ↓reduceIte, Int.reduceToNat, Nat.reduceAdd, Nat.reduceMul, Nat.reduceEqDiff, wpost0, wpost1, wpost2, wpost3, wpost4, ite_self, ite_true, ite_false, if_true, if_false, xlen29, xlen24, bin_eql, fr30, wrap_int, wrap_u8, iteP_yes, iteP_no, vPlaces_r hX hI k.ty k.g hro, hI.len Try.underlying24, hR.len] | refine iteP_two (fun hc hd => ?_) (fun hc hd => ?_) | refine iteP_intro (fun hc => ?_) (fun hc => ?_))
  rfl
theorem patternAt_r (hX : XN X) (hA : XAbs X) (k : PW ro h x y n l f) (hd : dirB u v = true) (hro : ro ≤ h.length) : Ret Try.prog ro X 31 [x, y, .agg ⟨[.int .i64 u, .int .i64 v]⟩] h (toV (ptF f l n u v)) := by
  have hb : boxV h 27 (.agg ⟨[.int .i64 u, .int .i64 v]⟩) = some (.pointer (some ⟨h.length, 0, none⟩), h ++ [⟨27, [.int .i64 u, .int .i64 v]⟩]) := box_go rfl
  have p0 : Pfx h (h ++ [(⟨27, [.int .i64 u, .int .i64 v]⟩ : Blk)]) := (Pfx.refl h).snoc
  have k0 := k.pre p0
  obtain ⟨lo, hi, h1, hI⟩ := k0.pl
  refine ret_of (callR_of (hX _ rfl) Try.func31 rfl (by kernel_rfl) (Nat.le_of_ble_eq_true rfl) ?_)
  (repeat' first | simp -dsimp (disch := first | omega | assumption | (refine OkS.sto ?_ (by omega); first | assumption | (refine OkS.sto ?_ (by omega); first | assumption | (refine OkS.sto ?_ (by omega); first | assumption | (refine OkS.sto ?_ (by omega); first | assumption | (refine OkS.sto ?_ (by omega); first | assumption | (refine OkS.sto ?_ (by omega); first | assumption)))))) | exact Pfx.refl _ | (apply Pfx.snoc; repeat (first | exact Pfx.refl _ | assumption | apply Pfx.snoc)) | with_unfolding_all exact of_eq_true (eq_true rfl) | (simp only [List.length_append, List.length_cons, List.length_nil]; omega)) only [↓wpre0, ↓wpre1, ↓reduceIte, Int.reduceToNat, Nat.reduceAdd, Nat.reduceMul, Nat.reduceEqDiff, wpost0, wpost1, wpost2, wpost3, wpost4, ite_self, ite_true, ite_false, if_true, if_false, xld27, fr31, wrap_int, wrap_u8, iteP_yes, iteP_no, hb] | refine iteP_two (fun hc hd => ?_) (fun hc hd => ?_) | refine iteP_intro (fun hc => ?_) (fun hc => ?_))
  refine cf_rel (steering_c hX hA hI k.g hd (by simp; omega) h1) (fun q => by cases q) ?_
  rintro z H1 ⟨p1, hZ⟩
  obtain ⟨lo', hR⟩ := (k0.pre p1).w
  have hh := k.g.n16
  have hdot := DotC_r (ro := ro) hX hR hZ (by omega) (fun i hi => (mulB_bd (t := 155) (cjB_bd (k.bd i hi)) (PH_bdC (stp_lt k.g hd hi)) (by decide) (by decide)).1)
  have ef : ∀ a b, endH (.complex .f32 a b) h H1 = h := fun a b => endH_flat rfl (p0.trans p1)
  (repeat' first | simp -dsimp (disch := first | omega | assumption | (refine OkS.sto ?_ (by omega); first | assumption | (refine OkS.sto ?_ (by omega); first | assumption | (refine OkS.sto ?_ (by omega); first | assumption | (refine OkS.sto ?_ (by omega); first | assumption | (refine OkS.sto ?_ (by omega); first | assumption | (refine OkS.sto ?_ (by omega); first | assumption)))))) | exact Pfx.refl _ | (apply Pfx.snoc; repeat (first | exact Pfx.refl _ | assumption | apply Pfx.snoc)) | with_unfolding_all exact of_eq_true (eq_true rfl) | (simp only [List.length_append, List.length_cons, List.length_nil]; omega)) only [↓wpre0, ↓wpre1, ↓reduceIte, Int.reduceToNat, Nat.reduceAdd, Nat.reduceMul, Nat.reduceEqDiff, wpost0, wpost1, wpost2, wpost3, wpost4, ite_self, ite_true, ite_false, if_true, if_false, xld27, fr31, wrap_int, wrap_u8, iteP_yes, iteP_no, hdot, ef] | refine iteP_two (fun hc hd => ?_) (fun hc hd => ?_) | refine iteP_intro (fun hc => ?_) (fun hc => ?_))
  rfl
theorem PatternAt_r (hX : XN X) (hA : XAbs X) (k : PW ro h x y n l f) (hd : dirB u v = true) (hro : ro ≤ h.length) : Ret Try.prog ro X 8 [x, y, .agg ⟨[.int .i64 u, .int .i64 v]⟩] h (.tuple ⟨[toV (ptF f l n u v), .bool true]⟩) := by
  have hb : boxV h 27 (.agg ⟨[.int .i64 u, .int .i64 v]⟩) = some (.pointer (some ⟨h.length, 0, none⟩), h ++ [⟨27, [.int .i64 u, .int .i64 v]⟩]) := box_go rfl
  have p0 : Pfx h (h ++ [(⟨27, [.int .i64 u, .int .i64 v]⟩ : Blk)]) := (Pfx.refl h).snoc
  have k0 := k.pre p0
  have hro0 : ro ≤ (h ++ [(⟨27, [.int .i64 u, .int .i64 v]⟩ : Blk)]).length := by simp; omega
  refine ret_of (callR_of (hX _ rfl) Try.func8 rfl (by kernel_rfl) (Nat.le_of_ble_eq_true rfl) ?_)
  (repeat' first | simp -dsimp (disch := first | omega | assumption | (refine OkS.sto ?_ (by omega); first | assumption | (refine OkS.sto ?_ (by omega); first | assumption | (refine OkS.sto ?_ (by omega); first | assumption | (refine OkS.sto ?_ (by omega); first | assumption | (refine OkS.sto ?_ (by omega); first | assumption | (refine OkS.sto ?_ (by omega); first | assumption)))))) | exact Pfx.refl _ | (apply Pfx.snoc; repeat (first | exact Pfx.refl _ | assumption | apply Pfx.snoc)) | with_unfolding_all exact of_eq_true (eq_true rfl) | (simp only [List.length_append, List.length_cons, List.length_nil]; omega)) only [↓wpre0, ↓wpre1, ↓reduceIte, Int.reduceToNat, Nat.reduceAdd, Nat.reduceMul, Nat.reduceEqDiff, wpost0, wpost1, wpost2, wpost3, wpost4, ite_self, ite_true, ite_false, if_true, if_false, un_not, xld27, fr8, wrap_int, wrap_u8, iteP_yes, iteP_no, hb, areFor_r hX k0 hro0, vDir_r hX u v _ hro0, hd, patternAt_r hX hA k0 hd hro0] | refine iteP_two (fun hc hd => ?_) (fun hc hd => ?_) | refine iteP_intro (fun hc => ?_) (fun hc => ?_))
/-- The power of weights in a direction. -/
def poF (f : Nat → CB) (l : List Int) (n : Nat) (u v : Int) : Nat := nr (pwF (ptF f l n u v))
theorem poF_bd (hg : goodP n l) (hd : dirB u v = true) (hf : ∀ i, i < n → bdC 150 (f i)) : okN (pwF (ptF f l n u v)) ∧ bd .f32 194 (poF f l n u v) := pwF_bd (ptF_bd hg hd hf) (by decide) (by decide)
theorem PowerP_r (hX : XN X) (k : PW ro h x y n l f) (hd : dirB u v = true) (H : Heap) : Ret Try.prog ro X 32 [toV (ptF f l n u v)] H (.float .f32 (poF f l n u v)) :=
  PowerOf_r hX (ptF_bd k.g hd k.bd).ok (poF_bd k.g hd k.bd).1 H
theorem PowerAt_r (hX : XN X) (hA : XAbs X) (k : PW ro h x y n l f) (hd : dirB u v = true) (hro : ro ≤ h.length) : Ret Try.prog ro X 9 [x, y, .agg ⟨[.int .i64 u, .int .i64 v]⟩] h (.tuple ⟨[.float .f32 (poF f l n u v), .bool true]⟩) := by
  have hb : boxV h 27 (.agg ⟨[.int .i64 u, .int .i64 v]⟩) = some (.pointer (some ⟨h.length, 0, none⟩), h ++ [⟨27, [.int .i64 u, .int .i64 v]⟩]) := box_go rfl
  have p0 : Pfx h (h ++ [(⟨27, [.int .i64 u, .int .i64 v]⟩ : Blk)]) := (Pfx.refl h).snoc
  have k0 := k.pre p0
  have hro0 : ro ≤ (h ++ [(⟨27, [.int .i64 u, .int .i64 v]⟩ : Blk)]).length := by simp; omega
  refine ret_of (callR_of (hX _ rfl) Try.func9 rfl (by kernel_rfl) (Nat.le_of_ble_eq_true rfl) ?_)
  (repeat' first | simp -dsimp (disch := first | omega | assumption | (refine OkS.sto ?_ (by omega); first | assumption | (refine OkS.sto ?_ (by omega); first | assumption | (refine OkS.sto ?_ (by omega); first | assumption | (refine OkS.sto ?_ (by omega); first | assumption | (refine OkS.sto ?_ (by omega); first | assumption | (refine OkS.sto ?_ (by omega); first | assumption)))))) | exact Pfx.refl _ | (apply Pfx.snoc; repeat (first | exact Pfx.refl _ | assumption | apply Pfx.snoc)) | with_unfolding_all exact of_eq_true (eq_true rfl) | (simp only [List.length_append, List.length_cons, List.length_nil]; omega)) only [↓wpre0, ↓wpre1, ↓reduceIte, Int.reduceToNat, Nat.reduceAdd, Nat.reduceMul, Nat.reduceEqDiff, wpost0, wpost1, wpost2, wpost3, wpost4, ite_self, ite_true, ite_false, if_true, if_false, xld27, un_not, fr9, wrap_int, wrap_u8, iteP_yes, iteP_no, hb, PatternAt_r hX hA k0 hd hro0, PowerP_r hX k hd] | refine iteP_two (fun hc hd => ?_) (fun hc hd => ?_) | refine iteP_intro (fun hc => ?_) (fun hc => ?_))
end Go.Proofs.Ytkhipobafchilaa.Sim
