/- Cuts of small numbers, in plain Lean: ways down and up, runs, and what is kept of a sorted list. Lemmas only; no condition. -/
import Derived.Test.YtjonhaebeeoimaaVs
import Derived.Test.YtjonhaebeeoimaaDrw
set_option linter.unusedSimpArgs false
set_option linter.unusedVariables false
namespace Go.Proofs.Ytjonhaebeeoimaa.Sim
open Go Go.RowKit
/-- The way down from a place, as long as something holds. -/
def dn (p : Nat → Bool) : Nat → Nat
  | 0 => 0
  | k + 1 => if p k then dn p k else k + 1
theorem dn_le (p : Nat → Bool) : ∀ k, dn p k ≤ k
  | 0 => Nat.le_refl _
  | k + 1 => by
    unfold dn
    have := dn_le p k
    split <;> omega
theorem dn_all {p : Nat → Bool} : ∀ {k i : Nat}, dn p k ≤ i → i < k → p i = true
  | 0, i, _, h => by omega
  | k + 1, i, h1, h2 => by
    unfold dn at h1
    split at h1
    · rename_i hp
      by_cases e : i = k
      · subst e; exact hp
      · exact dn_all h1 (by omega)
    · omega
theorem dn_stop {p : Nat → Bool} : ∀ {k : Nat}, 0 < dn p k → p (dn p k - 1) = false
  | 0, h => by simp [dn] at h
  | k + 1, h => by
    unfold dn at h ⊢
    split at h
    · rename_i hp
      rw [if_pos hp]; exact dn_stop h
    · rename_i hp
      rw [if_neg hp]
      simpa using hp
theorem dn_yes {p : Nat → Bool} {k : Nat} (h : p k = true) : dn p (k + 1) = dn p k := by rw [dn, if_pos h]
theorem dn_no {p : Nat → Bool} {k : Nat} (h : p k = false) : dn p (k + 1) = k + 1 := by rw [dn, if_neg (by rw [h]; simp)]
/-- The way up from a place, so many steps at most. -/
def upw (p : Nat → Bool) : Nat → Nat → Nat
  | 0, k => k
  | f + 1, k => if p (k + 1) then upw p f (k + 1) else k
theorem le_upw (p : Nat → Bool) : ∀ f k, k ≤ upw p f k
  | 0, _ => Nat.le_refl _
  | f + 1, k => by
    unfold upw
    have := le_upw p f (k + 1)
    split <;> omega
theorem upw_le (p : Nat → Bool) : ∀ f k, upw p f k ≤ k + f
  | 0, _ => Nat.le_refl _
  | f + 1, k => by
    unfold upw
    have := upw_le p f (k + 1)
    split <;> omega
theorem upw_all {p : Nat → Bool} : ∀ {f k i : Nat}, k < i → i ≤ upw p f k → p i = true
  | 0, k, i, h1, h2 => by simp [upw] at h2; omega
  | f + 1, k, i, h1, h2 => by
    unfold upw at h2
    split at h2
    · rename_i hp
      by_cases e : i = k + 1
      · subst e; exact hp
      · exact upw_all (k := k + 1) (by omega) h2
    · omega
theorem upw_stop {p : Nat → Bool} : ∀ {f k : Nat}, upw p f k < k + f → p (upw p f k + 1) = false
  | 0, k, h => by simp [upw] at h
  | f + 1, k, h => by
    unfold upw at h ⊢
    split at h
    · rename_i hp
      rw [if_pos hp]
      exact upw_stop (by omega)
    · rename_i hp
      rw [if_neg hp]
      simpa using hp
theorem upw_yes {p : Nat → Bool} {f k : Nat} (h : p (k + 1) = true) : upw p (f + 1) k = upw p f (k + 1) := by rw [upw, if_pos h]
theorem upw_no {p : Nat → Bool} {f k : Nat} (h : p (k + 1) = false) : upw p (f + 1) k = k := by rw [upw, if_neg (by rw [h]; simp)]
/-- The end of a run: from a place on, so many steps at most. -/
def enR (c : Nat → Nat) (i : Nat) : Nat → Nat → Nat
  | 0, k => k
  | f + 1, k => if c k = c i then enR c i f (k + 1) else k
theorem le_enR (c : Nat → Nat) (i : Nat) : ∀ f k, k ≤ enR c i f k
  | 0, _ => Nat.le_refl _
  | f + 1, k => by
    unfold enR
    have := le_enR c i f (k + 1)
    split <;> omega
theorem enR_le (c : Nat → Nat) (i : Nat) : ∀ f k, enR c i f k ≤ k + f
  | 0, _ => Nat.le_refl _
  | f + 1, k => by
    unfold enR
    have := enR_le c i f (k + 1)
    split <;> omega
theorem enR_all {c : Nat → Nat} {i : Nat} : ∀ {f k j : Nat}, k ≤ j → j < enR c i f k → c j = c i
  | 0, k, j, h1, h2 => by simp [enR] at h2; omega
  | f + 1, k, j, h1, h2 => by
    unfold enR at h2
    split at h2
    · rename_i hp
      by_cases e : j = k
      · subst e; exact hp
      · exact enR_all (k := k + 1) (by omega) h2
    · omega
theorem enR_stop {c : Nat → Nat} {i : Nat} : ∀ {f k : Nat}, enR c i f k < k + f → c (enR c i f k) ≠ c i
  | 0, k, h => by simp [enR] at h
  | f + 1, k, h => by
    unfold enR at h ⊢
    split at h
    · rename_i hp
      rw [if_pos hp]
      exact enR_stop (by omega)
    · rename_i hp
      rw [if_neg hp]
      exact hp
theorem enR_yes {c : Nat → Nat} {i f k : Nat} (h : c k = c i) : enR c i (f + 1) k = enR c i f (k + 1) := by rw [enR, if_pos h]
theorem enR_no {c : Nat → Nat} {i f k : Nat} (h : c k ≠ c i) : enR c i (f + 1) k = k := by rw [enR, if_neg h]
/-- Whether a run from a place to an end is told. -/
def isR (c : Nat → Nat) (far : Nat → Nat → Bool) (n i e : Nat) : Bool := (decide (i = 0) || far (c (i - 1)) (c i)) && (decide (e = n) || far (c e) (c i))
/-- The first places of the runs that are told, from a place on. -/
def rnF (c : Nat → Nat) (far : Nat → Nat → Bool) (n : Nat) : Nat → Nat → List Nat
  | 0, _ => []
  | f + 1, i => if i < n then (if isR c far n i (enR c i (n - (i + 1)) (i + 1)) then i :: rnF c far n f (enR c i (n - (i + 1)) (i + 1)) else rnF c far n f (enR c i (n - (i + 1)) (i + 1))) else []
theorem rnF_lt {c : Nat → Nat} {far : Nat → Nat → Bool} {n : Nat} : ∀ {f i j : Nat}, j ∈ rnF c far n f i → j < n
  | 0, _, _, h => by simp [rnF] at h
  | f + 1, i, j, h => by
    unfold rnF at h
    split at h
    · rename_i hi
      split at h
      · rcases List.mem_cons.1 h with e | h
        · omega
        · exact rnF_lt h
      · exact rnF_lt h
    · simp at h
/-- Behind the end, no more steps are needed. -/
theorem rnF_more {c : Nat → Nat} {far : Nat → Nat → Bool} {n : Nat} : ∀ {f g i : Nat}, n ≤ i + f → f ≤ g → rnF c far n g i = rnF c far n f i
  | 0, 0, _, _, _ => rfl
  | 0, g + 1, i, h, _ => by
    show (if i < n then _ else []) = []
    exact if_neg (by omega)
  | f + 1, 0, i, h, h2 => by omega
  | f + 1, g + 1, i, h, h2 => by
    unfold rnF
    have := le_enR c i (n - (i + 1)) (i + 1)
    rw [rnF_more (f := f) (g := g) (by omega) (by omega)]
theorem rnF_end {c : Nat → Nat} {far : Nat → Nat → Bool} {n f i : Nat} (h : n ≤ i) : rnF c far n f i = [] := by
  cases f with
  | zero => rfl
  | succ f =>
    show (if i < n then _ else []) = []
    exact if_neg (by omega)
theorem rnF_step {c : Nat → Nat} {far : Nat → Nat → Bool} {n i : Nat} (h : i < n) : rnF c far n (n - i) i = (if isR c far n i (enR c i (n - (i + 1)) (i + 1)) then [i] else []) ++ rnF c far n (n - enR c i (n - (i + 1)) (i + 1)) (enR c i (n - (i + 1)) (i + 1)) := by
  obtain ⟨f, hf⟩ : ∃ f, n - i = f + 1 := ⟨n - i - 1, by omega⟩
  have h1 := le_enR c i (n - (i + 1)) (i + 1)
  have h2 := enR_le c i (n - (i + 1)) (i + 1)
  rw [hf, rnF, if_pos h, rnF_more (f := n - enR c i (n - (i + 1)) (i + 1)) (g := f) (by omega) (by omega)]
  split <;> rfl
/-- What is kept of a sorted list is the greatest of it. -/
theorem kept_top {α : Type} [DecidableEq α] {key : α → Nat} {l l' s : List α} {m : Nat} (hp : l'.Perm l) (hs : l'.Pairwise fun a b => key b ≤ key a) (hk : s.Perm (l'.take m)) {x y : α} (hx : x ∈ l) (hn : x ∉ s) (hy : y ∈ s) : key x ≤ key y := by
  have h1 : x ∈ l' := hp.mem_iff.2 hx
  rw [← List.take_append_drop m l'] at h1 hs
  rcases List.mem_append.1 h1 with q | q
  · exact absurd (hk.mem_iff.2 q) hn
  · rw [List.pairwise_append] at hs
    exact hs.2.2 y (hk.mem_iff.1 hy) x q
end Go.Proofs.Ytjonhaebeeoimaa.Sim

/- Cuts of small numbers: drawn, and the ways around a place of one. Lemmas only; no condition. -/
set_option linter.unusedSimpArgs false
set_option linter.unusedVariables false
set_option maxRecDepth 8000
namespace Go.Proofs.Ytjonhaebeeoimaa.Sim
open Go Go.RowKit
variable {ro : Nat} {X : Ext}
/-- A small number as a float. -/
def fS (v : Nat) : Nat := cf .f32 (FloatKind.f32.nearest (v : Int))
/-- Half of it. -/
def fH (v : Nat) : Nat := farith .quo .f32 (fS v) 1073741824
theorem fold_H (a : Nat) : farith .quo .f32 (fS a) 1073741824 = fH a := rfl
def fV (v : Nat) : Value := .float .f32 (fS v)
theorem cmp_tab : ∀ a : Fin 8, ∀ b : Fin 8, fcmp .lss .f32 (fS a) (fS b) = decide (a.val < b.val) ∧ fcmp .leq .f32 (fS a) (fS b) = decide (a.val ≤ b.val) ∧ fcmp .eql .f32 (fS a) (fS b) = decide (a.val = b.val) ∧ fcmp .lss .f32 (fS a) (fH b) = decide (2 * a.val < b.val) ∧ fcmp .leq .f32 (fH a) (fS b) = decide (a.val ≤ 2 * b.val) := by decide +kernel
def cn (L : List Nat) (i : Nat) : Nat := L.getD i 0
/-- All numbers are small. -/
def CL (L : List Nat) : Prop := ∀ i, cn L i ≤ 7
theorem cl_of {L : List Nat} (h : ∀ v ∈ L, v ≤ 7) : CL L := by
  intro i
  unfold cn
  rw [List.getD_eq_getElem?_getD]
  rcases Nat.lt_or_ge i L.length with q | q
  · rw [List.getElem?_eq_getElem q]
    exact h _ (List.getElem_mem q)
  · rw [List.getElem?_eq_none q]; simp
section cmp
variable {L : List Nat} (hL : CL L) (i j : Nat)
include hL
theorem lt_cn : fcmp .lss .f32 (fS (cn L i)) (fS (cn L j)) = decide (cn L i < cn L j) := (cmp_tab ⟨cn L i, Nat.lt_succ_of_le (hL i)⟩ ⟨cn L j, Nat.lt_succ_of_le (hL j)⟩).1
theorem le_cn : fcmp .leq .f32 (fS (cn L i)) (fS (cn L j)) = decide (cn L i ≤ cn L j) := (cmp_tab ⟨cn L i, Nat.lt_succ_of_le (hL i)⟩ ⟨cn L j, Nat.lt_succ_of_le (hL j)⟩).2.1
theorem eq_cn : fcmp .eql .f32 (fS (cn L i)) (fS (cn L j)) = decide (cn L i = cn L j) := (cmp_tab ⟨cn L i, Nat.lt_succ_of_le (hL i)⟩ ⟨cn L j, Nat.lt_succ_of_le (hL j)⟩).2.2.1
theorem eqs_cn : fcmp .eql .f32 (fS (cn L i)) (fS (cn L i)) = true := by rw [eq_cn hL]; simp
theorem lh_cn : fcmp .lss .f32 (fS (cn L i)) (fH (cn L j)) = decide (2 * cn L i < cn L j) := (cmp_tab ⟨cn L i, Nat.lt_succ_of_le (hL i)⟩ ⟨cn L j, Nat.lt_succ_of_le (hL j)⟩).2.2.2.1
theorem hl_cn : fcmp .leq .f32 (fH (cn L i)) (fS (cn L j)) = decide (cn L i ≤ 2 * cn L j) := (cmp_tab ⟨cn L i, Nat.lt_succ_of_le (hL i)⟩ ⟨cn L j, Nat.lt_succ_of_le (hL j)⟩).2.2.2.2
theorem lhs_cn : fcmp .lss .f32 (fS (cn L i)) (fH (cn L i)) = false := by rw [lh_cn hL]; simp; omega
end cmp
/-- A cut. -/
structure CUT (lo hi : Nat) (h : Heap) (x : Value) (L : List Nat) : Prop where
  v : VS lo hi 1 h x L.length (L.map fV)
  s : CL L
  n : L.length ≤ 12
theorem CUT.pre {lo hi : Nat} {h h' : Heap} {x : Value} {L : List Nat} (c : CUT lo hi h x L) (p : Pfx h h') : CUT lo hi h' x L := ⟨c.v.pre p, c.s, c.n⟩
theorem vth_fV {L : List Nat} {i : Nat} (h : i < L.length) : vth (L.map fV) i = .float .f32 (fS (cn L i)) := by
  rw [vth_eq (by simpa using h)]
  simp [fV, cn, h]
theorem CUT.ld {lo hi : Nat} {h : Heap} {x : Value} {L : List Nat} (c : CUT lo hi h x L) {i : Nat} (hi' : i < L.length) : ld Try.prog h 34 (ea x (i * 1)) = some (.float .f32 (fS (cn L i))) := by
  rw [c.v.ld1 tsz34 tag34 (by omega), Nat.mul_one, vth_fV hi']
theorem CUT.iad {lo hi : Nat} {h : Heap} {x : Value} {L : List Nat} (c : CUT lo hi h x L) (kk : IntKind) {i : Int} (h0 : 0 ≤ i) (h1 : i < L.length) : iadr Try.prog 31 x (.int kk i) = some (ea x (i.toNat * 1)) := c.v.iad Try.underlying31 tsz34 kk h0 h1
theorem CUT.len {lo hi : Nat} {h : Heap} {x : Value} {L : List Nat} (c : CUT lo hi h x L) (h' : Heap) : ablt Try.prog ro .len [31] [x] h' = some (.int .i64 L.length, h') := c.v.len Try.underlying31 h'
theorem withinC_r (hX : XN X) (a b c : Int) (h : Heap) : Ret Try.prog ro X 40 [.int .i64 a, .int .i64 b, .int .i64 c] h (.bool (decide (b ≤ a) && decide (a ≤ c))) := by
  refine ret_of (callR_of (hX _ rfl) Try.func40 rfl (by kernel_rfl) (Nat.le_of_ble_eq_true rfl) ?_)
  (repeat' first | simp -dsimp (disch := first | omega | assumption | (refine OkS.sto ?_ (by omega); first | assumption | (refine OkS.sto ?_ (by omega); first | assumption | (refine OkS.sto ?_ (by omega); first | assumption | (refine OkS.sto ?_ (by omega); first | assumption | (refine OkS.sto ?_ (by omega); first | assumption | (refine OkS.sto ?_ (by omega); first | assumption)))))) | exact Pfx.refl _ | (apply Pfx.snoc; repeat (first | exact Pfx.refl _ | assumption | apply Pfx.snoc)) | with_unfolding_all exact of_eq_true (eq_true rfl) | (simp only [List.length_append, List.length_cons, List.length_nil]; omega)) only [↓wpre0, ↓wpre1, ↓reduceIte, Int.reduceToNat, Nat.reduceAdd, Nat.reduceMul, Nat.reduceEqDiff, wpost0, wpost1, wpost2, wpost3, wpost4, ite_self, ite_true, ite_false, if_true, if_false, bin_geq, bin_leq, fr40, wrap_int, wrap_u8, iteP_yes, iteP_no] | refine iteP_two (fun hc hd => ?_) (fun hc hd => ?_) | refine iteP_intro (fun hc => ?_) (fun hc => ?_))
  all_goals first | (simp_all; done) | (simp_all; omega) | skip
variable {lo hi at_ : Nat} {x : Value} {h : Heap} {L : List Nat}
theorem isCut_r (hX : XN X) (hC : CUT lo hi h x L) (h1 : 1 ≤ L.length) : Ret Try.prog ro X 30 [x] h (.bool true) := by
  have hn := hC.n
  refine ret_of (callR_of (hX _ rfl) Try.func30 rfl (by kernel_rfl) (Nat.le_of_ble_eq_true rfl) ?_)
  (repeat' first | simp -dsimp (disch := first | omega | assumption | (refine OkS.sto ?_ (by omega); first | assumption | (refine OkS.sto ?_ (by omega); first | assumption | (refine OkS.sto ?_ (by omega); first | assumption | (refine OkS.sto ?_ (by omega); first | assumption | (refine OkS.sto ?_ (by omega); first | assumption | (refine OkS.sto ?_ (by omega); first | assumption)))))) | exact Pfx.refl _ | (apply Pfx.snoc; repeat (first | exact Pfx.refl _ | assumption | apply Pfx.snoc)) | with_unfolding_all exact of_eq_true (eq_true rfl) | (simp only [List.length_append, List.length_cons, List.length_nil]; omega)) only [↓wpre0, ↓wpre1, ↓reduceIte, Int.reduceToNat, Nat.reduceAdd, Nat.reduceMul, Nat.reduceEqDiff, wpost0, wpost1, wpost2, wpost3, wpost4, ite_self, ite_true, ite_false, if_true, if_false, xlen31, fr30, wrap_int, wrap_u8, iteP_yes, iteP_no, hC.len, withinC_r hX] | refine iteP_two (fun hc hd => ?_) (fun hc hd => ?_) | refine iteP_intro (fun hc => ?_) (fun hc => ?_))
  simp; omega
def pH (L : List Nat) (a k : Nat) : Bool := decide (cn L a ≤ 2 * cn L k)
theorem toNat_pred (k : Nat) : ((k + 1 : Nat) : Int) - 1 = (k : Int) := by omega
theorem toNat_succ (k : Nat) : (k : Int) + 1 = ((k + 1 : Nat) : Int) := by omega
def pD (L : List Nat) (k : Nat) : Bool := decide (cn L k ≤ cn L (k + 1))
def pU (L : List Nat) (k : Nat) : Bool := decide (cn L k ≤ cn L (k - 1))
def mlF (L : List Nat) (a : Nat) : Nat := dn (pD L) a
def mlT (L : List Nat) (a : Nat) : Nat := upw (pU L) (L.length - 1 - a) a
/-- The greatest number outside of a lobe, of so many. -/
def SD (L : List Nat) (f t n b : Nat) (q : Bool) : Prop := b ≤ 7 ∧ (q = true → ∃ i, i < n ∧ (i < f ∨ t < i) ∧ cn L i = b) ∧ ∀ i, i < n → (i < f ∨ t < i) → q = true ∧ cn L i ≤ b
theorem lt_bn (hL : CL L) {b : Nat} (hb : b ≤ 7) (i : Nat) : fcmp .lss .f32 (fS b) (fS (cn L i)) = decide (b < cn L i) := (cmp_tab ⟨b, Nat.lt_succ_of_le hb⟩ ⟨cn L i, Nat.lt_succ_of_le (hL i)⟩).1
theorem zero_fS : fS 0 = 0 := by decide +kernel
end Go.Proofs.Ytjonhaebeeoimaa.Sim

/- Cuts of small numbers: runs, lobes, the strong ones; how a cut is drawn. Lemmas only; no condition. -/
set_option linter.unusedSimpArgs false
set_option linter.unusedVariables false
set_option maxRecDepth 8000
namespace Go.Proofs.Ytjonhaebeeoimaa.Sim
open Go Go.RowKit
variable {ro : Nat} {X : Ext} {lo hi : Nat} {x : Value} {h : Heap} {L : List Nat}
def natI (i : Nat) : Int := (i : Int)
/-- The first places of the runs of a cut that are told. -/
def runL (far : Nat → Nat → Bool) (L : List Nat) : List Nat := rnF (cn L) far L.length (L.length - 0) 0
set_option maxHeartbeats 4000000 in
theorem runs_c (hX : XN X) (hC : CUT lo hi h x L) (far : Nat → Nat → Bool) (f : FuncId) (hro : ro ≤ h.length) (hf : ∀ (H : Heap) (a b : Nat), Ret Try.prog ro X f [.float .f32 (fS (cn L a)), .float .f32 (fS (cn L b))] H (.bool (far (cn L a) (cn L b)))) :
    CallR Try.prog ro X 31 [x, .func (.func f) ⟨[]⟩ ⟨[]⟩] h (fun r h' => Pfx h h' ∧ VG h.length 2 1 h' r (runL far L).length (vints ((runL far L).map natI))) := by
  have hn := hC.n
  have hL := hC.s
  refine callR_of (hX _ rfl) Try.func31 rfl (by kernel_rfl) (Nat.le_of_ble_eq_true rfl) ?_
  (repeat' first | simp -dsimp (disch := first | omega | assumption | (refine OkS.sto ?_ (by omega); first | assumption | (refine OkS.sto ?_ (by omega); first | assumption | (refine OkS.sto ?_ (by omega); first | assumption | (refine OkS.sto ?_ (by omega); first | assumption | (refine OkS.sto ?_ (by omega); first | assumption | (refine OkS.sto ?_ (by omega); first | assumption)))))) | exact Pfx.refl _ | (apply Pfx.snoc; repeat (first | exact Pfx.refl _ | assumption | apply Pfx.snoc)) | with_unfolding_all exact of_eq_true (eq_true rfl) | (simp only [List.length_append, List.length_cons, List.length_nil]; omega)) only [↓wpre0, ↓wpre1, ↓reduceIte, Int.reduceToNat, Nat.reduceAdd, Nat.reduceMul, Nat.reduceEqDiff, wpost0, wpost1, wpost2, wpost3, wpost4, ite_self, ite_true, ite_false, if_true, if_false, xbls41_0, xbls41_1, xlen31, bin_lss, bin_add, xiad31, xld34, bin_feql, bin_eql, bin_sub, fr31, wrap_int, wrap_u8, iteP_yes, iteP_no] | refine iteP_two (fun hc hd => ?_) (fun hc hd => ?_) | refine iteP_intro (fun hc => ?_) (fun hc => ?_))
  refine loop_rounds (fun m e h' => ∃ (i : Nat) (y : Value) (A : List Nat), m = L.length - i ∧ i ≤ L.length ∧ e 0 = x ∧ e 1 = .func (.func f) ⟨[]⟩ ⟨[]⟩ ∧ e 5 = y ∧ e 6 = .int .i64 i ∧ A.length ≤ i ∧ runL far L = A ++ rnF (cn L) far L.length (L.length - i) i ∧ Pfx h h' ∧ VG h.length 2 1 h' y A.length (vints (A.map natI))) _ ⟨0, .slice (some ⟨h.length, 0, none⟩) 0 0, [], rfl, ?_⟩ ?_
  · simp only [updO_at, updO_not, entry_at, List.getD_cons_zero, List.getD_cons_succ, ↓reduceIte, Nat.reduceEqDiff, true_and, and_true]
    have q := (Pfx.refl h).snoc (C := ⟨2, []⟩)
    have q2 := vg_new (lo := h.length) (t := 2) (k := 1) h (Nat.le_refl _)
    exact ⟨by omega, rfl, Nat.le_refl _, rfl, q, q2⟩
  · rintro m e h' ⟨i, y, A, hm, hle, g0, g1, g5, g6, hA, hR, hp, hY⟩
    have hl := hp.len
    have hC' := hC.pre hp
    have hks := toNat_succ i
    by_cases hin : i < L.length
    · (repeat' first | simp -dsimp (disch := first | omega | assumption | (refine OkS.sto ?_ (by omega); first | assumption | (refine OkS.sto ?_ (by omega); first | assumption | (refine OkS.sto ?_ (by omega); first | assumption | (refine OkS.sto ?_ (by omega); first | assumption | (refine OkS.sto ?_ (by omega); first | assumption | (refine OkS.sto ?_ (by omega); first | assumption)))))) | exact Pfx.refl _ | (apply Pfx.snoc; repeat (first | exact Pfx.refl _ | assumption | apply Pfx.snoc)) | with_unfolding_all exact of_eq_true (eq_true rfl) | (simp only [List.length_append, List.length_cons, List.length_nil]; omega)) only [↓wpre0, ↓wpre1, ↓reduceIte, Int.reduceToNat, Nat.reduceAdd, Nat.reduceMul, Nat.reduceEqDiff, wpost0, wpost1, wpost2, wpost3, wpost4, ite_self, ite_true, ite_false, if_true, if_false, xbls41_0, xbls41_1, xlen31, bin_lss, bin_add, xiad31, xld34, bin_feql, bin_eql, bin_sub, fr31, wrap_int, wrap_u8, iteP_yes, iteP_no, g0, g1, g5, g6, hC'.len, hks] | refine iteP_two (fun hc hd => ?_) (fun hc hd => ?_) | refine iteP_intro (fun hc => ?_) (fun hc => ?_))
      refine loop_exit 2 (fun e h2 => h2 = h' ∧ e 0 = x ∧ e 1 = .func (.func f) ⟨[]⟩ ⟨[]⟩ ∧ e 5 = y ∧ e 6 = .int .i64 i ∧ e 7 = .int .i64 (enR (cn L) i (L.length - (i + 1)) (i + 1) : Nat)) ?_ ?_
      · refine loop_rounds (fun m e h2 => ∃ k : Nat, m = L.length - k ∧ i + 1 ≤ k ∧ k ≤ L.length ∧ h2 = h' ∧ e 0 = x ∧ e 1 = .func (.func f) ⟨[]⟩ ⟨[]⟩ ∧ e 5 = y ∧ e 6 = .int .i64 i ∧ e 7 = .int .i64 k ∧ enR (cn L) i (L.length - (i + 1)) (i + 1) = enR (cn L) i (L.length - k) k) _ ⟨i + 1, rfl, ?_⟩ ?_
        · simp only [updO_at, updO_not, entry_at, List.getD_cons_zero, List.getD_cons_succ, ↓reduceIte, Nat.reduceEqDiff, true_and, and_true]
          (repeat' (first | assumption | rfl | omega | refine And.intro ?_ ?_))
        · rintro m e h2 ⟨k, hm, hik, hk, rfl, g0, g1, g5, g6, g7, hd⟩
          have hkk := toNat_succ k
          by_cases hkn : k < L.length
          · obtain ⟨f', hf'⟩ : ∃ f', L.length - k = f' + 1 := ⟨L.length - (k + 1), by omega⟩
            by_cases hq : cn L k = cn L i
            · (repeat' first | simp -dsimp (disch := first | omega | assumption | (refine OkS.sto ?_ (by omega); first | assumption | (refine OkS.sto ?_ (by omega); first | assumption | (refine OkS.sto ?_ (by omega); first | assumption | (refine OkS.sto ?_ (by omega); first | assumption | (refine OkS.sto ?_ (by omega); first | assumption | (refine OkS.sto ?_ (by omega); first | assumption)))))) | exact Pfx.refl _ | (apply Pfx.snoc; repeat (first | exact Pfx.refl _ | assumption | apply Pfx.snoc)) | with_unfolding_all exact of_eq_true (eq_true rfl) | (simp only [List.length_append, List.length_cons, List.length_nil]; omega)) only [↓wpre0, ↓wpre1, ↓reduceIte, Int.reduceToNat, Nat.reduceAdd, Nat.reduceMul, Nat.reduceEqDiff, wpost0, wpost1, wpost2, wpost3, wpost4, ite_self, ite_true, ite_false, if_true, if_false, xbls41_0, xbls41_1, xlen31, bin_lss, bin_add, xiad31, xld34, bin_feql, bin_eql, bin_sub, fr31, wrap_int, wrap_u8, iteP_yes, iteP_no, g0, g1, g5, g6, g7, hC'.len, hC'.iad, hC'.ld, eq_cn hL, hkk] | refine iteP_two (fun hc hd => ?_) (fun hc hd => ?_) | refine iteP_intro (fun hc => ?_) (fun hc => ?_))
              refine ⟨f', by omega, k + 1, ?_⟩
              have : enR (cn L) i (L.length - (i + 1)) (i + 1) = enR (cn L) i (L.length - (k + 1)) (k + 1) := by rw [hd, hf', enR_yes hq, show L.length - (k + 1) = f' by omega]
              (repeat' (first | assumption | rfl | omega | refine And.intro ?_ ?_))
            · (repeat' first | simp -dsimp (disch := first | omega | assumption | (refine OkS.sto ?_ (by omega); first | assumption | (refine OkS.sto ?_ (by omega); first | assumption | (refine OkS.sto ?_ (by omega); first | assumption | (refine OkS.sto ?_ (by omega); first | assumption | (refine OkS.sto ?_ (by omega); first | assumption | (refine OkS.sto ?_ (by omega); first | assumption)))))) | exact Pfx.refl _ | (apply Pfx.snoc; repeat (first | exact Pfx.refl _ | assumption | apply Pfx.snoc)) | with_unfolding_all exact of_eq_true (eq_true rfl) | (simp only [List.length_append, List.length_cons, List.length_nil]; omega)) only [↓wpre0, ↓wpre1, ↓reduceIte, Int.reduceToNat, Nat.reduceAdd, Nat.reduceMul, Nat.reduceEqDiff, wpost0, wpost1, wpost2, wpost3, wpost4, ite_self, ite_true, ite_false, if_true, if_false, xbls41_0, xbls41_1, xlen31, bin_lss, bin_add, xiad31, xld34, bin_feql, bin_eql, bin_sub, fr31, wrap_int, wrap_u8, iteP_yes, iteP_no, g0, g1, g5, g6, g7, hC'.len, hC'.iad, hC'.ld, eq_cn hL, hkk] | refine iteP_two (fun hc hd => ?_) (fun hc hd => ?_) | refine iteP_intro (fun hc => ?_) (fun hc => ?_))
              rw [hd, hf', enR_no hq]
              (repeat' (first | assumption | rfl | omega | refine And.intro ?_ ?_))
          · have hf' : L.length - k = 0 := by omega
            (repeat' first | simp -dsimp (disch := first | omega | assumption | (refine OkS.sto ?_ (by omega); first | assumption | (refine OkS.sto ?_ (by omega); first | assumption | (refine OkS.sto ?_ (by omega); first | assumption | (refine OkS.sto ?_ (by omega); first | assumption | (refine OkS.sto ?_ (by omega); first | assumption | (refine OkS.sto ?_ (by omega); first | assumption)))))) | exact Pfx.refl _ | (apply Pfx.snoc; repeat (first | exact Pfx.refl _ | assumption | apply Pfx.snoc)) | with_unfolding_all exact of_eq_true (eq_true rfl) | (simp only [List.length_append, List.length_cons, List.length_nil]; omega)) only [↓wpre0, ↓wpre1, ↓reduceIte, Int.reduceToNat, Nat.reduceAdd, Nat.reduceMul, Nat.reduceEqDiff, wpost0, wpost1, wpost2, wpost3, wpost4, ite_self, ite_true, ite_false, if_true, if_false, xbls41_0, xbls41_1, xlen31, bin_lss, bin_add, xiad31, xld34, bin_feql, bin_eql, bin_sub, fr31, wrap_int, wrap_u8, iteP_yes, iteP_no, g0, g1, g5, g6, g7, hC'.len, hkk] | refine iteP_two (fun hc hd => ?_) (fun hc hd => ?_) | refine iteP_intro (fun hc => ?_) (fun hc => ?_))
            rw [hd, hf']
            (repeat' (first | assumption | rfl | omega | refine And.intro ?_ ?_))
      · rintro e h2 ⟨rfl, g0, g1, g5, g6, g7⟩
        have hE1 := le_enR (cn L) i (L.length - (i + 1)) (i + 1)
        have hE2 := enR_le (cn L) i (L.length - (i + 1)) (i + 1)
        have hstep := rnF_step (c := cn L) (far := far) (n := L.length) hin
        generalize hEe : enR (cn L) i (L.length - (i + 1)) (i + 1) = E at *
        obtain ⟨H, ap, vg, old, hlen⟩ := acc1 (P := Try.prog) (ro := ro) (T := 41) (h := h2) (v := .int .i64 i) tel41 tsz2 tby2 tze2 (.inl hY) hro hl rfl (by omega) (by omega)
        have vg' : VG h.length 2 1 H (.slice (some ⟨h2.length + 1, 0, none⟩) (A.length + 1) (A.length + 1 + 1)) (A ++ [i]).length (vints ((A ++ [i]).map natI)) := by
          rw [List.map_append, vints_app, List.length_append]
          exact vg
        have pfH := old.1 h hp (Nat.le_refl _)
        have eqi := eqs_cn hL i
        have hyes : isR (cn L) far L.length i E = true → runL far L = (A ++ [i]) ++ rnF (cn L) far L.length (L.length - E) E := fun q => by rw [hR, hstep, if_pos q, List.append_assoc]
        have hno : isR (cn L) far L.length i E = false → runL far L = A ++ rnF (cn L) far L.length (L.length - E) E := fun q => by rw [hR, hstep, if_neg (by rw [q]; simp), List.nil_append]
        have hEi : i < E := by omega
        by_cases hz : i = 0
        · by_cases hEn : E < L.length
          · cases hB : far (cn L E) (cn L i) with
            | true =>
              have hy := hyes (by rw [isR, hB]; simp [hz])
              (repeat' first | simp -dsimp (disch := first | omega | assumption | (refine OkS.sto ?_ (by omega); first | assumption | (refine OkS.sto ?_ (by omega); first | assumption | (refine OkS.sto ?_ (by omega); first | assumption | (refine OkS.sto ?_ (by omega); first | assumption | (refine OkS.sto ?_ (by omega); first | assumption | (refine OkS.sto ?_ (by omega); first | assumption)))))) | exact Pfx.refl _ | (apply Pfx.snoc; repeat (first | exact Pfx.refl _ | assumption | apply Pfx.snoc)) | with_unfolding_all exact of_eq_true (eq_true rfl) | (simp only [List.length_append, List.length_cons, List.length_nil]; omega)) only [↓wpre0, ↓wpre1, ↓reduceIte, Int.reduceToNat, Nat.reduceAdd, Nat.reduceMul, Nat.reduceEqDiff, wpost0, wpost1, wpost2, wpost3, wpost4, ite_self, ite_true, ite_false, if_true, if_false, xbls41_0, xbls41_1, xlen31, bin_lss, bin_add, xiad31, xld34, bin_feql, bin_eql, bin_sub, fr31, wrap_int, wrap_u8, iteP_yes, iteP_no, g0, g1, g5, g6, g7, hC'.len, hC'.iad, hC'.ld, eqi, hf, hB, ap] | refine iteP_two (fun hc hd => ?_) (fun hc hd => ?_) | refine iteP_intro (fun hc => ?_) (fun hc => ?_))
              refine ⟨L.length - E, by omega, E, .slice (some ⟨h2.length + 1, 0, none⟩) (A.length + 1) (A.length + 1 + 1), A ++ [i], ?_⟩
              (repeat' (first | assumption | rfl | omega | simp; omega | refine And.intro ?_ ?_))
            | false =>
              have hy := hno (by rw [isR, hB]; simp; omega)
              (repeat' first | simp -dsimp (disch := first | omega | assumption | (refine OkS.sto ?_ (by omega); first | assumption | (refine OkS.sto ?_ (by omega); first | assumption | (refine OkS.sto ?_ (by omega); first | assumption | (refine OkS.sto ?_ (by omega); first | assumption | (refine OkS.sto ?_ (by omega); first | assumption | (refine OkS.sto ?_ (by omega); first | assumption)))))) | exact Pfx.refl _ | (apply Pfx.snoc; repeat (first | exact Pfx.refl _ | assumption | apply Pfx.snoc)) | with_unfolding_all exact of_eq_true (eq_true rfl) | (simp only [List.length_append, List.length_cons, List.length_nil]; omega)) only [↓wpre0, ↓wpre1, ↓reduceIte, Int.reduceToNat, Nat.reduceAdd, Nat.reduceMul, Nat.reduceEqDiff, wpost0, wpost1, wpost2, wpost3, wpost4, ite_self, ite_true, ite_false, if_true, if_false, xbls41_0, xbls41_1, xlen31, bin_lss, bin_add, xiad31, xld34, bin_feql, bin_eql, bin_sub, fr31, wrap_int, wrap_u8, iteP_yes, iteP_no, g0, g1, g5, g6, g7, hC'.len, hC'.iad, hC'.ld, eqi, hf, hB, ap] | refine iteP_two (fun hc hd => ?_) (fun hc hd => ?_) | refine iteP_intro (fun hc => ?_) (fun hc => ?_))
              refine ⟨L.length - E, by omega, E, y, A, ?_⟩
              (repeat' (first | assumption | rfl | omega | refine And.intro ?_ ?_))
          · have hE : E = L.length := by omega
            subst hE
            have hy := hyes (by simp [isR, hz])
            (repeat' first | simp -dsimp (disch := first | omega | assumption | (refine OkS.sto ?_ (by omega); first | assumption | (refine OkS.sto ?_ (by omega); first | assumption | (refine OkS.sto ?_ (by omega); first | assumption | (refine OkS.sto ?_ (by omega); first | assumption | (refine OkS.sto ?_ (by omega); first | assumption | (refine OkS.sto ?_ (by omega); first | assumption)))))) | exact Pfx.refl _ | (apply Pfx.snoc; repeat (first | exact Pfx.refl _ | assumption | apply Pfx.snoc)) | with_unfolding_all exact of_eq_true (eq_true rfl) | (simp only [List.length_append, List.length_cons, List.length_nil]; omega)) only [↓wpre0, ↓wpre1, ↓reduceIte, Int.reduceToNat, Nat.reduceAdd, Nat.reduceMul, Nat.reduceEqDiff, wpost0, wpost1, wpost2, wpost3, wpost4, ite_self, ite_true, ite_false, if_true, if_false, xbls41_0, xbls41_1, xlen31, bin_lss, bin_add, xiad31, xld34, bin_feql, bin_eql, bin_sub, fr31, wrap_int, wrap_u8, iteP_yes, iteP_no, g0, g1, g5, g6, g7, hC'.len, hC'.iad, hC'.ld, eqi, hf, ap] | refine iteP_two (fun hc hd => ?_) (fun hc hd => ?_) | refine iteP_intro (fun hc => ?_) (fun hc => ?_))
            refine ⟨0, by omega, L.length, .slice (some ⟨h2.length + 1, 0, none⟩) (A.length + 1) (A.length + 1 + 1), A ++ [i], ?_⟩
            (repeat' (first | assumption | rfl | omega | simp; omega | refine And.intro ?_ ?_))
        · obtain ⟨i, rfl⟩ : ∃ j, i = j + 1 := ⟨i - 1, by omega⟩
          have hkp := toNat_pred i
          cases hA1 : far (cn L i) (cn L (i + 1)) with
          | false =>
            have hy := hno (by simp [isR, hA1])
            (repeat' first | simp -dsimp (disch := first | omega | assumption | (refine OkS.sto ?_ (by omega); first | assumption | (refine OkS.sto ?_ (by omega); first | assumption | (refine OkS.sto ?_ (by omega); first | assumption | (refine OkS.sto ?_ (by omega); first | assumption | (refine OkS.sto ?_ (by omega); first | assumption | (refine OkS.sto ?_ (by omega); first | assumption)))))) | exact Pfx.refl _ | (apply Pfx.snoc; repeat (first | exact Pfx.refl _ | assumption | apply Pfx.snoc)) | with_unfolding_all exact of_eq_true (eq_true rfl) | (simp only [List.length_append, List.length_cons, List.length_nil]; omega)) only [↓wpre0, ↓wpre1, ↓reduceIte, Int.reduceToNat, Nat.reduceAdd, Nat.reduceMul, Nat.reduceEqDiff, wpost0, wpost1, wpost2, wpost3, wpost4, ite_self, ite_true, ite_false, if_true, if_false, xbls41_0, xbls41_1, xlen31, bin_lss, bin_add, xiad31, xld34, bin_feql, bin_eql, bin_sub, fr31, wrap_int, wrap_u8, iteP_yes, iteP_no, g0, g1, g5, g6, g7, hkp, hC'.len, hC'.iad, hC'.ld, eqi, hf, hA1, ap] | refine iteP_two (fun hc hd => ?_) (fun hc hd => ?_) | refine iteP_intro (fun hc => ?_) (fun hc => ?_))
            refine ⟨L.length - E, by omega, E, y, A, ?_⟩
            (repeat' (first | assumption | rfl | omega | refine And.intro ?_ ?_))
          | true =>
            by_cases hEn : E < L.length
            · cases hB : far (cn L E) (cn L (i + 1)) with
              | true =>
                have hy := hyes (by simp [isR, hA1, hB])
                (repeat' first | simp -dsimp (disch := first | omega | assumption | (refine OkS.sto ?_ (by omega); first | assumption | (refine OkS.sto ?_ (by omega); first | assumption | (refine OkS.sto ?_ (by omega); first | assumption | (refine OkS.sto ?_ (by omega); first | assumption | (refine OkS.sto ?_ (by omega); first | assumption | (refine OkS.sto ?_ (by omega); first | assumption)))))) | exact Pfx.refl _ | (apply Pfx.snoc; repeat (first | exact Pfx.refl _ | assumption | apply Pfx.snoc)) | with_unfolding_all exact of_eq_true (eq_true rfl) | (simp only [List.length_append, List.length_cons, List.length_nil]; omega)) only [↓wpre0, ↓wpre1, ↓reduceIte, Int.reduceToNat, Nat.reduceAdd, Nat.reduceMul, Nat.reduceEqDiff, wpost0, wpost1, wpost2, wpost3, wpost4, ite_self, ite_true, ite_false, if_true, if_false, xbls41_0, xbls41_1, xlen31, bin_lss, bin_add, xiad31, xld34, bin_feql, bin_eql, bin_sub, fr31, wrap_int, wrap_u8, iteP_yes, iteP_no, g0, g1, g5, g6, g7, hkp, hC'.len, hC'.iad, hC'.ld, eqi, hf, hA1, hB, ap] | refine iteP_two (fun hc hd => ?_) (fun hc hd => ?_) | refine iteP_intro (fun hc => ?_) (fun hc => ?_))
                refine ⟨L.length - E, by omega, E, .slice (some ⟨h2.length + 1, 0, none⟩) (A.length + 1) (A.length + 1 + 1), A ++ [i + 1], ?_⟩
                (repeat' (first | assumption | rfl | omega | simp; omega | refine And.intro ?_ ?_))
              | false =>
                have hy := hno (by simp [isR, hA1, hB]; omega)
                (repeat' first | simp -dsimp (disch := first | omega | assumption | (refine OkS.sto ?_ (by omega); first | assumption | (refine OkS.sto ?_ (by omega); first | assumption | (refine OkS.sto ?_ (by omega); first | assumption | (refine OkS.sto ?_ (by omega); first | assumption | (refine OkS.sto ?_ (by omega); first | assumption | (refine OkS.sto ?_ (by omega); first | assumption)))))) | exact Pfx.refl _ | (apply Pfx.snoc; repeat (first | exact Pfx.refl _ | assumption | apply Pfx.snoc)) | with_unfolding_all exact of_eq_true (eq_true rfl) | (simp only [List.length_append, List.length_cons, List.length_nil]; omega)) only [↓wpre0, ↓wpre1, ↓reduceIte, Int.reduceToNat, Nat.reduceAdd, Nat.reduceMul, Nat.reduceEqDiff, wpost0, wpost1, wpost2, wpost3, wpost4, ite_self, ite_true, ite_false, if_true, if_false, xbls41_0, xbls41_1, xlen31, bin_lss, bin_add, xiad31, xld34, bin_feql, bin_eql, bin_sub, fr31, wrap_int, wrap_u8, iteP_yes, iteP_no, g0, g1, g5, g6, g7, hkp, hC'.len, hC'.iad, hC'.ld, eqi, hf, hA1, hB, ap] | refine iteP_two (fun hc hd => ?_) (fun hc hd => ?_) | refine iteP_intro (fun hc => ?_) (fun hc => ?_))
                refine ⟨L.length - E, by omega, E, y, A, ?_⟩
                (repeat' (first | assumption | rfl | omega | refine And.intro ?_ ?_))
            · have hE : E = L.length := by omega
              subst hE
              have hy := hyes (by simp [isR, hA1])
              (repeat' first | simp -dsimp (disch := first | omega | assumption | (refine OkS.sto ?_ (by omega); first | assumption | (refine OkS.sto ?_ (by omega); first | assumption | (refine OkS.sto ?_ (by omega); first | assumption | (refine OkS.sto ?_ (by omega); first | assumption | (refine OkS.sto ?_ (by omega); first | assumption | (refine OkS.sto ?_ (by omega); first | assumption)))))) | exact Pfx.refl _ | (apply Pfx.snoc; repeat (first | exact Pfx.refl _ | assumption | apply Pfx.snoc)) | with_unfolding_all exact of_eq_true (eq_true rfl) | (simp only [List.length_append, List.length_cons, List.length_nil]; omega)) only [↓wpre0, ↓wpre1, ↓reduceIte, Int.reduceToNat, Nat.reduceAdd, Nat.reduceMul, Nat.reduceEqDiff, wpost0, wpost1, wpost2, wpost3, wpost4, ite_self, ite_true, ite_false, if_true, if_false, xbls41_0, xbls41_1, xlen31, bin_lss, bin_add, xiad31, xld34, bin_feql, bin_eql, bin_sub, fr31, wrap_int, wrap_u8, iteP_yes, iteP_no, g0, g1, g5, g6, g7, hkp, hC'.len, hC'.iad, hC'.ld, eqi, hf, hA1, ap] | refine iteP_two (fun hc hd => ?_) (fun hc hd => ?_) | refine iteP_intro (fun hc => ?_) (fun hc => ?_))
              refine ⟨0, by omega, L.length, .slice (some ⟨h2.length + 1, 0, none⟩) (A.length + 1) (A.length + 1 + 1), A ++ [i + 1], ?_⟩
              (repeat' (first | assumption | rfl | omega | simp; omega | refine And.intro ?_ ?_))
    · have ei : i = L.length := by omega
      subst ei
      have hnf : Sim.flat y = false := by obtain ⟨_, b, cap, rfl, _⟩ := hY; rfl
      (repeat' first | simp -dsimp (disch := first | omega | assumption | (refine OkS.sto ?_ (by omega); first | assumption | (refine OkS.sto ?_ (by omega); first | assumption | (refine OkS.sto ?_ (by omega); first | assumption | (refine OkS.sto ?_ (by omega); first | assumption | (refine OkS.sto ?_ (by omega); first | assumption | (refine OkS.sto ?_ (by omega); first | assumption)))))) | exact Pfx.refl _ | (apply Pfx.snoc; repeat (first | exact Pfx.refl _ | assumption | apply Pfx.snoc)) | with_unfolding_all exact of_eq_true (eq_true rfl) | (simp only [List.length_append, List.length_cons, List.length_nil]; omega)) only [↓wpre0, ↓wpre1, ↓reduceIte, Int.reduceToNat, Nat.reduceAdd, Nat.reduceMul, Nat.reduceEqDiff, wpost0, wpost1, wpost2, wpost3, wpost4, ite_self, ite_true, ite_false, if_true, if_false, xbls41_0, xbls41_1, xlen31, bin_lss, bin_add, xiad31, xld34, bin_feql, bin_eql, bin_sub, fr31, wrap_int, wrap_u8, iteP_yes, iteP_no, g0, g1, g5, g6, hC'.len, endH_not hnf] | refine iteP_two (fun hc hd => ?_) (fun hc hd => ?_) | refine iteP_intro (fun hc => ?_) (fun hc => ?_))
      rw [rnF_end (Nat.le_refl _), List.append_nil] at hR
      rw [hR]
      exact ⟨hp, hY⟩
end Go.Proofs.Ytjonhaebeeoimaa.Sim

/- Cuts of small numbers: lobes; how a cut is drawn. Lemmas only; no condition. -/
set_option linter.unusedSimpArgs false
set_option linter.unusedVariables false
set_option maxRecDepth 8000
namespace Go.Proofs.Ytjonhaebeeoimaa.Sim
open Go Go.RowKit
variable {ro : Nat} {X : Ext} {lo hi : Nat} {x : Value} {h : Heap} {L : List Nat}
def ltN (a b : Nat) : Bool := decide (a < b)
theorem lobf_r (hX : XN X) (hL : CL L) (a b : Nat) (H : Heap) : Ret Try.prog ro X 32 [.float .f32 (fS (cn L a)), .float .f32 (fS (cn L b))] H (.bool (ltN (cn L a) (cn L b))) := by
  refine ret_of (callR_of (hX _ rfl) Try.func32 rfl (by kernel_rfl) (Nat.le_of_ble_eq_true rfl) ?_)
  (repeat' first | simp -dsimp (disch := first | omega | assumption | (refine OkS.sto ?_ (by omega); first | assumption | (refine OkS.sto ?_ (by omega); first | assumption | (refine OkS.sto ?_ (by omega); first | assumption | (refine OkS.sto ?_ (by omega); first | assumption | (refine OkS.sto ?_ (by omega); first | assumption | (refine OkS.sto ?_ (by omega); first | assumption)))))) | exact Pfx.refl _ | (apply Pfx.snoc; repeat (first | exact Pfx.refl _ | assumption | apply Pfx.snoc)) | with_unfolding_all exact of_eq_true (eq_true rfl) | (simp only [List.length_append, List.length_cons, List.length_nil]; omega)) only [↓wpre0, ↓wpre1, ↓reduceIte, Int.reduceToNat, Nat.reduceAdd, Nat.reduceMul, Nat.reduceEqDiff, wpost0, wpost1, wpost2, wpost3, wpost4, ite_self, ite_true, ite_false, if_true, if_false, bin_flss, fr32, wrap_int, wrap_u8, iteP_yes, iteP_no, lt_cn hL, ltN] | refine iteP_two (fun hc hd => ?_) (fun hc hd => ?_) | refine iteP_intro (fun hc => ?_) (fun hc => ?_))
theorem Lobes_c (hX : XN X) (hC : CUT lo hi h x L) (h1 : 1 ≤ L.length) (hro : ro ≤ h.length) :
    CallR Try.prog ro X 13 [x] h (fun r h' => ∃ y, r = .tuple ⟨[y, .bool true]⟩ ∧ Pfx h h' ∧ VG h.length 2 1 h' y (runL ltN L).length (vints ((runL ltN L).map natI))) := by
  refine callR_of (hX _ rfl) Try.func13 rfl (by kernel_rfl) (Nat.le_of_ble_eq_true rfl) ?_
  (repeat' first | simp -dsimp (disch := first | omega | assumption | (refine OkS.sto ?_ (by omega); first | assumption | (refine OkS.sto ?_ (by omega); first | assumption | (refine OkS.sto ?_ (by omega); first | assumption | (refine OkS.sto ?_ (by omega); first | assumption | (refine OkS.sto ?_ (by omega); first | assumption | (refine OkS.sto ?_ (by omega); first | assumption)))))) | exact Pfx.refl _ | (apply Pfx.snoc; repeat (first | exact Pfx.refl _ | assumption | apply Pfx.snoc)) | with_unfolding_all exact of_eq_true (eq_true rfl) | (simp only [List.length_append, List.length_cons, List.length_nil]; omega)) only [↓wpre0, ↓wpre1, ↓reduceIte, Int.reduceToNat, Nat.reduceAdd, Nat.reduceMul, Nat.reduceEqDiff, wpost0, wpost1, wpost2, wpost3, wpost4, ite_self, ite_true, ite_false, if_true, if_false, un_not, fr13, wrap_int, wrap_u8, iteP_yes, iteP_no, isCut_r hX hC h1] | refine iteP_two (fun hc hd => ?_) (fun hc hd => ?_) | refine iteP_intro (fun hc => ?_) (fun hc => ?_))
  refine cf_rel (runs_c hX hC ltN _ hro (fun H a b => lobf_r hX hC.s a b H)) (fun q => by cases q) ?_
  rintro r h' ⟨hp, hY⟩
  have hnf : Sim.flat (.tuple ⟨[r, .bool true]⟩) = false := by obtain ⟨_, b, cap, rfl, _⟩ := hY; rfl
  (repeat' first | simp -dsimp (disch := first | omega | assumption | (refine OkS.sto ?_ (by omega); first | assumption | (refine OkS.sto ?_ (by omega); first | assumption | (refine OkS.sto ?_ (by omega); first | assumption | (refine OkS.sto ?_ (by omega); first | assumption | (refine OkS.sto ?_ (by omega); first | assumption | (refine OkS.sto ?_ (by omega); first | assumption)))))) | exact Pfx.refl _ | (apply Pfx.snoc; repeat (first | exact Pfx.refl _ | assumption | apply Pfx.snoc)) | with_unfolding_all exact of_eq_true (eq_true rfl) | (simp only [List.length_append, List.length_cons, List.length_nil]; omega)) only [↓wpre0, ↓wpre1, ↓reduceIte, Int.reduceToNat, Nat.reduceAdd, Nat.reduceMul, Nat.reduceEqDiff, wpost0, wpost1, wpost2, wpost3, wpost4, ite_self, ite_true, ite_false, if_true, if_false, un_not, fr13, wrap_int, wrap_u8, iteP_yes, iteP_no, endH_not hnf] | refine iteP_two (fun hc hd => ?_) (fun hc hd => ?_) | refine iteP_intro (fun hc => ?_) (fun hc => ?_))
  exact ⟨r, rfl, hp, hY⟩
theorem fV_int (v : Nat) : Value.float .f32 (cf .f32 (FloatKind.f32.nearest (v : Int))) = fV v := rfl
set_option maxHeartbeats 2000000 in
theorem Cut_c (hX : XN X) {cd : List UInt8} (hV : VS lo hi 1 h x cd.length (cd.map u8v)) (hhi : hi ≤ h.length) (hl : cd.length ≤ 1099511627776) (hro : ro ≤ h.length) :
    CallR Try.prog ro X 11 [x] h (fun r h' => ∃ L : List Nat, 1 ≤ L.length ∧ Pfx h h' ∧ CUT h.length h'.length h' r L) := by
  refine callR_of (hX _ rfl) Try.func11 rfl (by kernel_rfl) (Nat.le_of_ble_eq_true rfl) ?_
  (repeat' first | simp -dsimp (disch := first | omega | assumption | (refine OkS.sto ?_ (by omega); first | assumption | (refine OkS.sto ?_ (by omega); first | assumption | (refine OkS.sto ?_ (by omega); first | assumption | (refine OkS.sto ?_ (by omega); first | assumption | (refine OkS.sto ?_ (by omega); first | assumption | (refine OkS.sto ?_ (by omega); first | assumption)))))) | exact Pfx.refl _ | (apply Pfx.snoc; repeat (first | exact Pfx.refl _ | assumption | apply Pfx.snoc)) | with_unfolding_all exact of_eq_true (eq_true rfl) | (simp only [List.length_append, List.length_cons, List.length_nil]; omega)) only [↓wpre0, ↓wpre1, ↓reduceIte, Int.reduceToNat, Nat.reduceAdd, Nat.reduceMul, Nat.reduceEqDiff, wpost0, wpost1, wpost2, wpost3, wpost4, ite_self, ite_true, ite_false, if_true, if_false, xbls31_0, xbls31_1, bin_add, bin_gtr, xcv2_34, bin_sub, fr11, wrap_int, wrap_u8, iteP_yes, iteP_no] | refine iteP_two (fun hc hd => ?_) (fun hc hd => ?_) | refine iteP_intro (fun hc => ?_) (fun hc => ?_))
  refine cf_rel (From_c (hX _ rfl) hV hro) (fun q => by cases q) ?_
  rintro r H1 ⟨rfl, p1, l1, S1⟩
  (repeat' first | simp -dsimp (disch := first | omega | assumption | (refine OkS.sto ?_ (by omega); first | assumption | (refine OkS.sto ?_ (by omega); first | assumption | (refine OkS.sto ?_ (by omega); first | assumption | (refine OkS.sto ?_ (by omega); first | assumption | (refine OkS.sto ?_ (by omega); first | assumption | (refine OkS.sto ?_ (by omega); first | assumption)))))) | exact Pfx.refl _ | (apply Pfx.snoc; repeat (first | exact Pfx.refl _ | assumption | apply Pfx.snoc)) | with_unfolding_all exact of_eq_true (eq_true rfl) | (simp only [List.length_append, List.length_cons, List.length_nil]; omega)) only [↓wpre0, ↓wpre1, ↓reduceIte, Int.reduceToNat, Nat.reduceAdd, Nat.reduceMul, Nat.reduceEqDiff, wpost0, wpost1, wpost2, wpost3, wpost4, ite_self, ite_true, ite_false, if_true, if_false, xbls31_0, xbls31_1, bin_add, bin_gtr, xcv2_34, bin_sub, fr11, wrap_int, wrap_u8, iteP_yes, iteP_no] | refine iteP_two (fun hc hd => ?_) (fun hc hd => ?_) | refine iteP_intro (fun hc => ?_) (fun hc => ?_))
  have p2 : Pfx H1 (H1 ++ [(⟨34, []⟩ : Blk)]) := (Pfx.refl H1).snoc
  refine cf_rel (pick_c (hX _ rfl) (hX _ rfl) (n := 12) (S1.pre p2) (by omega) (by omega) (by omega) hl (by omega)) (fun q => by cases q) ?_
  rintro r H2 ⟨v, rfl, _, hv, S2, o2⟩
  have hv12 := hv (by omega)
  have l2 := o2.1
  rw [List.length_append, List.length_singleton] at l2
  have V2 : VG H1.length 34 1 H2 (.slice (some ⟨H1.length, 0, none⟩) 0 0) 0 [] := (vg_new H1 (Nat.le_refl _)).frame (o2.2 _ (by show H1.length ≠ h.length; omega))
  have d2 : Pfx h H2 := by
    have pp := p1.trans p2
    show H2.take h.length = h
    refine List.ext_getElem? fun j => ?_
    rw [List.getElem?_take]
    by_cases q : j < h.length
    · rw [if_pos q, o2.2 j (by omega)]; exact pp.get q
    · rw [if_neg q, List.getElem?_eq_none (by omega)]
  have hw1 : (1 : Int) + (v : Int) = ((v + 1 : Nat) : Int) := by omega
  (repeat' first | simp -dsimp (disch := first | omega | assumption | (refine OkS.sto ?_ (by omega); first | assumption | (refine OkS.sto ?_ (by omega); first | assumption | (refine OkS.sto ?_ (by omega); first | assumption | (refine OkS.sto ?_ (by omega); first | assumption | (refine OkS.sto ?_ (by omega); first | assumption | (refine OkS.sto ?_ (by omega); first | assumption)))))) | exact Pfx.refl _ | (apply Pfx.snoc; repeat (first | exact Pfx.refl _ | assumption | apply Pfx.snoc)) | with_unfolding_all exact of_eq_true (eq_true rfl) | (simp only [List.length_append, List.length_cons, List.length_nil]; omega)) only [↓wpre0, ↓wpre1, ↓reduceIte, Int.reduceToNat, Nat.reduceAdd, Nat.reduceMul, Nat.reduceEqDiff, wpost0, wpost1, wpost2, wpost3, wpost4, ite_self, ite_true, ite_false, if_true, if_false, xbls31_0, xbls31_1, bin_add, bin_gtr, xcv2_34, bin_sub, fr11, wrap_int, wrap_u8, iteP_yes, iteP_no, hw1] | refine iteP_two (fun hc hd => ?_) (fun hc hd => ?_) | refine iteP_intro (fun hc => ?_) (fun hc => ?_))
  refine loop_rounds (fun m e h' => ∃ (i : Nat) (y : Value) (L : List Nat), m = v + 1 - i ∧ i ≤ v + 1 ∧ L.length = i ∧ (∀ a ∈ L, a ≤ 7) ∧ e 3 = .pointer (some ⟨h.length, 0, none⟩) ∧ e 4 = y ∧ e 5 = .int .i64 ((v + 1 - i : Nat) : Int) ∧ VG H1.length 34 1 h' y i (L.map fV) ∧ SRC lo hi h.length (2 + i * 2) x cd h' ∧ Pfx h h' ∧ h.length < h'.length) _ ⟨0, .slice (some ⟨H1.length, 0, none⟩) 0 0, [], rfl, ?_⟩ ?_
  · simp only [updO_at, updO_not, entry_at, List.getD_cons_zero, List.getD_cons_succ, ↓reduceIte, Nat.reduceEqDiff, true_and, and_true]
    have := S2.more (A' := 2 + 0 * 2) (by omega)
    (repeat' (first | assumption | rfl | omega | (intro a ha; cases ha) | refine And.intro ?_ ?_))
  · rintro m e h' ⟨i, y, L, hm, hle, hL, htx, g3, g4, g5, hY, hSi, hd, hlh⟩
    have hb := hY.bof
    by_cases hin : i < v + 1
    · (repeat' first | simp -dsimp (disch := first | omega | assumption | (refine OkS.sto ?_ (by omega); first | assumption | (refine OkS.sto ?_ (by omega); first | assumption | (refine OkS.sto ?_ (by omega); first | assumption | (refine OkS.sto ?_ (by omega); first | assumption | (refine OkS.sto ?_ (by omega); first | assumption | (refine OkS.sto ?_ (by omega); first | assumption)))))) | exact Pfx.refl _ | (apply Pfx.snoc; repeat (first | exact Pfx.refl _ | assumption | apply Pfx.snoc)) | with_unfolding_all exact of_eq_true (eq_true rfl) | (simp only [List.length_append, List.length_cons, List.length_nil]; omega)) only [↓wpre0, ↓wpre1, ↓reduceIte, Int.reduceToNat, Nat.reduceAdd, Nat.reduceMul, Nat.reduceEqDiff, wpost0, wpost1, wpost2, wpost3, wpost4, ite_self, ite_true, ite_false, if_true, if_false, xbls31_0, xbls31_1, bin_add, bin_gtr, xcv2_34, bin_sub, fr11, wrap_int, wrap_u8, iteP_yes, iteP_no, g3, g4, g5] | refine iteP_two (fun hc hd => ?_) (fun hc hd => ?_) | refine iteP_intro (fun hc => ?_) (fun hc => ?_))
      refine cf_rel (pick_c (hX _ rfl) (hX _ rfl) (n := 8) hSi (by omega) (by omega) (by omega) hl (by omega)) (fun q => by cases q) ?_
      rintro r H4 ⟨a, rfl, _, ha, S4, o4⟩
      have ha8 := ha (by omega)
      have l4 := o4.1
      have hY4 : VG H1.length 34 1 H4 y i (L.map fV) := hY.frame (o4.2 _ (by omega))
      obtain ⟨H, ap, vg, old, hlen⟩ := acc1 (P := Try.prog) (ro := ro) (T := 31) (h := H4) (v := fV a) tel31 tsz34 tby34 tze34 (.inl hY4) (by omega) (by omega) rfl (by omega) (by omega)
      have vg' : VG H1.length 34 1 H (.slice (some ⟨H4.length + 1, 0, none⟩) (i + 1) (i + 1 + 1)) (i + 1) ((L ++ [a]).map fV) := by rw [List.map_append]; exact vg
      have d4 : Pfx h H4 := by
        show H4.take h.length = h
        refine List.ext_getElem? fun j => ?_
        rw [List.getElem?_take]
        by_cases q : j < h.length
        · rw [if_pos q, o4.2 j (by omega)]; exact hd.get q
        · rw [if_neg q, List.getElem?_eq_none (by omega)]
      have dH := old.1 h d4 (by omega)
      have sv : SRC lo hi h.length (2 + (i + 1) * 2) x cd H := (S4.frame (old.2.1 _ (by omega) (.inr (by omega))) fun j h1 h2 => old.2.1 j (by omega) (.inr (by omega))).more (by omega)
      simp only [fV] at ap
      (repeat' first | simp -dsimp (disch := first | omega | assumption | (refine OkS.sto ?_ (by omega); first | assumption | (refine OkS.sto ?_ (by omega); first | assumption | (refine OkS.sto ?_ (by omega); first | assumption | (refine OkS.sto ?_ (by omega); first | assumption | (refine OkS.sto ?_ (by omega); first | assumption | (refine OkS.sto ?_ (by omega); first | assumption)))))) | exact Pfx.refl _ | (apply Pfx.snoc; repeat (first | exact Pfx.refl _ | assumption | apply Pfx.snoc)) | with_unfolding_all exact of_eq_true (eq_true rfl) | (simp only [List.length_append, List.length_cons, List.length_nil]; omega)) only [↓wpre0, ↓wpre1, ↓reduceIte, Int.reduceToNat, Nat.reduceAdd, Nat.reduceMul, Nat.reduceEqDiff, wpost0, wpost1, wpost2, wpost3, wpost4, ite_self, ite_true, ite_false, if_true, if_false, xbls31_0, xbls31_1, bin_add, bin_gtr, xcv2_34, bin_sub, fr11, wrap_int, wrap_u8, iteP_yes, iteP_no, g3, g4, g5, fS, ap] | refine iteP_two (fun hc hd => ?_) (fun hc hd => ?_) | refine iteP_intro (fun hc => ?_) (fun hc => ?_))
      simp only [fS] at ap
      (repeat' first | simp -dsimp (disch := first | omega | assumption | (refine OkS.sto ?_ (by omega); first | assumption | (refine OkS.sto ?_ (by omega); first | assumption | (refine OkS.sto ?_ (by omega); first | assumption | (refine OkS.sto ?_ (by omega); first | assumption | (refine OkS.sto ?_ (by omega); first | assumption | (refine OkS.sto ?_ (by omega); first | assumption)))))) | exact Pfx.refl _ | (apply Pfx.snoc; repeat (first | exact Pfx.refl _ | assumption | apply Pfx.snoc)) | with_unfolding_all exact of_eq_true (eq_true rfl) | (simp only [List.length_append, List.length_cons, List.length_nil]; omega)) only [↓wpre0, ↓wpre1, ↓reduceIte, Int.reduceToNat, Nat.reduceAdd, Nat.reduceMul, Nat.reduceEqDiff, wpost0, wpost1, wpost2, wpost3, wpost4, ite_self, ite_true, ite_false, if_true, if_false, xbls31_0, xbls31_1, bin_add, bin_gtr, xcv2_34, bin_sub, fr11, wrap_int, wrap_u8, iteP_yes, iteP_no, g3, g4, g5, ap] | refine iteP_two (fun hc hd => ?_) (fun hc hd => ?_) | refine iteP_intro (fun hc => ?_) (fun hc => ?_))
      refine ⟨v + 1 - (i + 1), by omega, i + 1, _, L ++ [a], rfl, by omega, by simp [hL], fun t ht => ?_, rfl, by rw [show ((v + 1 - i : Nat) : Int) - 1 = ((v + 1 - (i + 1) : Nat) : Int) by omega], vg', sv, dH, by omega⟩
      rcases List.mem_append.1 ht with q | q
      · exact htx t q
      · rw [List.mem_singleton] at q
        omega
    · have ei : i = v + 1 := by omega
      subst ei
      have hnf : Sim.flat y = false := by obtain ⟨_, b, cap, rfl, _⟩ := hY; rfl
      (repeat' first | simp -dsimp (disch := first | omega | assumption | (refine OkS.sto ?_ (by omega); first | assumption | (refine OkS.sto ?_ (by omega); first | assumption | (refine OkS.sto ?_ (by omega); first | assumption | (refine OkS.sto ?_ (by omega); first | assumption | (refine OkS.sto ?_ (by omega); first | assumption | (refine OkS.sto ?_ (by omega); first | assumption)))))) | exact Pfx.refl _ | (apply Pfx.snoc; repeat (first | exact Pfx.refl _ | assumption | apply Pfx.snoc)) | with_unfolding_all exact of_eq_true (eq_true rfl) | (simp only [List.length_append, List.length_cons, List.length_nil]; omega)) only [↓wpre0, ↓wpre1, ↓reduceIte, Int.reduceToNat, Nat.reduceAdd, Nat.reduceMul, Nat.reduceEqDiff, wpost0, wpost1, wpost2, wpost3, wpost4, ite_self, ite_true, ite_false, if_true, if_false, xbls31_0, xbls31_1, bin_add, bin_gtr, xcv2_34, bin_sub, fr11, wrap_int, wrap_u8, iteP_yes, iteP_no, g3, g4, g5, endH_not hnf] | refine iteP_two (fun hc hd => ?_) (fun hc hd => ?_) | refine iteP_intro (fun hc => ?_) (fun hc => ?_))
      refine ⟨L, by omega, hd, ?_, cl_of htx, by omega⟩
      rw [hL]
      exact hY.vsl.wide (by omega) (Nat.le_refl _)
end Go.Proofs.Ytjonhaebeeoimaa.Sim
