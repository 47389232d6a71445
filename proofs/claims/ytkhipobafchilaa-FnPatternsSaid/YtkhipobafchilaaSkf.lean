
/- Whether numbers and complex numbers are the same. Lemmas only; no condition. -/
import Derived.Test.YtkhipobafchilaaMth
import Derived.Test.YtkhipobafchilaaCpx
import Derived.Test.YtkhipobafchilaaDrr
import Derived.Test.YtkhipobafchilaaSkc
import Derived.Test.YtkhipobafchilaaLah
set_option linter.unusedSimpArgs false
set_option linter.unusedVariables false
set_option maxRecDepth 8000
namespace Go.Proofs.Ytkhipobafchilaa.Sim
open Go Go.RowKit Fl
variable {ro : Nat} {X : Ext}
/-- A number that is one. -/
def okF (b : Nat) : Prop := (FloatKind.f32.decode b).isNaN = false ∧ okW b ∧ (FloatKind.f64.decode (wd b)).isNaN = false
theorem okF_of {b : Nat} {v : Int} (h : Fl.fin .f32 b v) : okF b := by
  obtain ⟨r, h1, h2⟩ := widen_fin h
  have := okW_of h1
  exact ⟨h.notNaN, this.1, by rw [this.2]; exact h2.notNaN⟩
end Go.Proofs.Ytkhipobafchilaa.Sim

/- The functions of the library and the draws that laws lean on, as one. Lemmas only; no condition. -/
set_option linter.unusedSimpArgs false
set_option linter.unusedVariables false
set_option maxRecDepth 8000
namespace Go.Proofs.Ytkhipobafchilaa.Sim
open Go Go.RowKit
variable {ro : Nat} {X : Ext}
theorem XN.orS {A B : Ext} (a : XN A) (b : XN B) : XN (orX A B) := fun f hf => by unfold orX; rw [a f hf]; exact b f hf
theorem XN.onlyS {n : Nat} {F : Option (List Value → Heap → Option (Value × Heap))} (hn : noBody.contains n = true) : XN fun g => if g = n then F else none := fun f hf => by
  show (if f = n then F else none) = none
  rw [if_neg]
  intro e
  rw [e, hn] at hf
  cases hf
end Go.Proofs.Ytkhipobafchilaa.Sim

/- Seeds, symbols and noise, walked. Lemmas only; no condition. -/
set_option linter.unusedSimpArgs false
set_option linter.unusedVariables false
set_option maxRecDepth 8000
namespace Go.Proofs.Ytkhipobafchilaa.Sim.Fl
open Ieee Go
/-- A sum with zero. -/
theorem add_zero_fin {k : FloatKind} {a b : Nat} {v : Int} (ha : fin k a v) (hb : fin k b 0) : fin k (farith .add k a b) v ∧ fin k (farith .add k b a) v := by
  obtain ⟨s, m, e, d, hv⟩ := id ha
  obtain ⟨hm, e', he, hl⟩ := read_mag d
  have : e' = e := by omega
  subst this
  have habs : (sg s m).natAbs = m := sg_abs s m
  have hT : m * 2 ^ e' < 2 ^ top k := by
    refine Nat.lt_of_lt_of_le (Nat.mul_lt_mul_of_pos_right hm (Nat.two_pow_pos _)) ?_
    rw [← Nat.pow_add]
    refine Nat.pow_le_pow_right (by decide) ?_
    cases k
    · have h1 : FloatKind.f32.format.exponentBits = 8 := rfl
      have h2 : top .f32 = 277 := rfl
      have h3 : dig .f32 = 24 := rfl
      rw [h1] at hl
      omega
    · have h1 : FloatKind.f64.format.exponentBits = 11 := rfl
      have h2 : top .f64 = 2098 := rfl
      have h3 : dig .f64 = 53 := rfl
      rw [h1] at hl
      omega
  have hb' : fin k b (0 * 2 ^ e') := by rw [Int.zero_mul]; exact hb
  rw [hv] at ha ⊢
  refine ⟨?_, ?_⟩
  · have := add_fx ha hb' (by rw [Int.add_zero, habs]; exact hm) (by rw [Int.add_zero, habs]; exact hT)
    rwa [Int.add_zero] at this
  · have := add_fx hb' ha (by rw [Int.zero_add, habs]; exact hm) (by rw [Int.zero_add, habs]; exact hT)
    rwa [Int.zero_add] at this
end Go.Proofs.Ytkhipobafchilaa.Sim.Fl
namespace Go.Proofs.Ytkhipobafchilaa.Sim
open Go Go.RowKit Fl
variable {ro n : Nat} {X : Ext} {h : Heap} {x y : Value} {l : List Int}
def nxN (s : Nat) : Nat := (1103515245 * s + 12345) % 2147483648
def drN (seed n : Nat) : Nat := nxN (nxN ((seed + 40503 * n) % 2147483648)) / 65536
theorem nxN_lt (s : Nat) : nxN s < 2147483648 := Nat.mod_lt _ (by decide)
theorem drN_lt (s n : Nat) : drN s n < 32768 := by
  have := nxN_lt (nxN ((s + 40503 * n) % 2147483648))
  unfold drN
  omega
theorem tm_cast {z : Int} {a b : Nat} (h : z = (a : Int)) : z.tmod (b : Int) = ((a % b : Nat) : Int) := by subst h; rfl
theorem td_cast {z : Int} {a b : Nat} (h : z = (a : Int)) : z.tdiv (b : Int) = ((a / b : Nat) : Int) := by subst h; rfl
def hfB (k : Nat) : Nat := if k % 2 = 1 then 3204448256 else 1056964608
def syF (s k : Nat) : CB := ⟨hfB (drN s (2 * k) / 16384), hfB (drN s (2 * k) / 8192)⟩
def scB (u : CB) (b : Nat) : CB := ⟨farith .mul .f32 u.a b, farith .mul .f32 u.b b⟩
/-- A part of noise. -/
def paF (d : Nat) : Nat := farith .quo .f32 (farith .sub .f32 (cf .f32 (FloatKind.f32.nearest (d : Int))) 1182793728) 1182793728
def nzI (k i : Nat) : Nat := 16 * k + i + 1000000
def nzF (s k i lev : Nat) : CB := scB ⟨paF (drN s (2 * nzI k i)), paF (drN s (2 * nzI k i + 1))⟩ lev
/-! ### What they are worth -/
theorem paF_fin {d : Nat} (hd : d < 32768) : Fl.fin .f32 (paF d) (((d : Int) - 16384) * 2 ^ 135) := by
  have e24 : (2 : Nat) ^ 24 = 16777216 := by decide
  have hn := nearest_fx .f32 (n := (d : Int)) (show (d : Int).natAbs < 2 ^ 24 by rw [e24]; omega)
  rw [show (-lp .f32).toNat = 149 by decide] at hn
  have hl : Fl.fin .f32 1182793728 (((16384 : Nat) : Int) * 2 ^ 149) := lit_fin (m := 2 ^ 23) (e := 140) (by decide +kernel) (by decide +kernel)
  have hs : ((d : Int) - ((16384 : Nat) : Int)).natAbs < 2 ^ 24 := by rw [e24]; omega
  have h1 := sub_fx hn hl hs (small_pow hs (by decide))
  exact quo_fx h1 (d := 23) (e2 := 140) (by decide +kernel) (by decide) (by decide) hs (small_pow hs (by decide))
theorem quart_fin : Fl.fin .f32 1048576000 (((1 : Nat) : Int) * 2 ^ 147) := lit_fin (m := 2 ^ 23) (e := 124) (by decide +kernel) (by decide +kernel)
theorem nquart_fin : Fl.fin .f32 3196059648 ((-16384) * 2 ^ 133) := ⟨true, 2 ^ 23, 124, by decide +kernel, by decide +kernel⟩
theorem paq_fin {d : Nat} (hd : d < 32768) : Fl.fin .f32 (farith .mul .f32 (paF d) 1048576000) (((d : Int) - 16384) * 2 ^ 133) := by
  have e24 : (2 : Nat) ^ 24 = 16777216 := by decide
  have hs : (((d : Int) - 16384) * ((1 : Nat) : Int)).natAbs < 2 ^ 24 := by rw [e24]; omega
  have := mul_fx (paF_fin hd) quart_fin (t := 133) (by decide) hs (small_pow hs (by decide))
  have e : ((d : Int) - 16384) * ((1 : Nat) : Int) = (d : Int) - 16384 := by omega
  rw [e] at this
  exact this
theorem paz_fin {d : Nat} (hd : d < 32768) : Fl.fin .f32 (farith .mul .f32 (paF d) 0) 0 := by
  have hz : Fl.fin .f32 0 (0 * 2 ^ 149) := by rw [Int.zero_mul]; exact zero_fin
  have := mul_fx (paF_fin hd) hz (t := 135) (by decide) (by rw [Int.mul_zero]; decide) (by rw [Int.mul_zero]; exact small_pow (n := 0) (t := 135) (by decide) (by decide))
  rw [Int.mul_zero, Int.zero_mul] at this
  exact this
/-- What the law asks of a part of noise. -/
theorem paq_cmp {d : Nat} (hd : d < 32768) : fcmp .lss .f32 1048576000 (farith .mul .f32 (paF d) 1048576000) = false ∧ fcmp .lss .f32 (farith .mul .f32 (paF d) 1048576000) 3196059648 = false := by
  have q : Fl.fin .f32 1048576000 (16384 * 2 ^ 133) := by
    have := quart_fin
    have e : ((1 : Nat) : Int) * 2 ^ 147 = 16384 * 2 ^ 133 := by
      rw [show (16384 : Int) = 2 ^ 14 by decide, ← Int.pow_add]
      exact Int.one_mul _
    rw [e] at this
    exact this
  refine ⟨?_, ?_⟩
  · rw [cmp_lt q (paq_fin hd)]
    exact decide_eq_false fun g => by have := u_lt.1 g; omega
  · rw [cmp_lt (paq_fin hd) nquart_fin]
    exact decide_eq_false fun g => by have := u_lt.1 g; omega
theorem paq_bd {d : Nat} (hd : d < 32768) : bd .f32 147 (farith .mul .f32 (paF d) 1048576000) := (paq_fin hd).bd (by
  rw [abs_mul_pow, pow_cut (show 147 = 14 + 133 from rfl)]
  exact Nat.mul_le_mul_right _ (by omega))
theorem nzq_bd (s k i : Nat) : bdC 147 (nzF s k i 1048576000) := ⟨paq_bd (drN_lt _ _), paq_bd (drN_lt _ _)⟩
theorem hfB_or (k : Nat) : hfB k = 3204448256 ∨ hfB k = 1056964608 := by
  unfold hfB
  split
  · exact .inl rfl
  · exact .inr rfl
theorem half_bd (k : Nat) : bd .f32 148 (hfB k) := by
  rcases hfB_or k with q | q <;> rw [q]
  · exact Fl.fin.bd (v := (-1) * 2 ^ 148) ⟨true, 2 ^ 23, 125, by decide +kernel, by decide +kernel⟩ (by rw [abs_mul_pow]; simp)
  · exact Fl.fin.bd (v := 1 * 2 ^ 148) ⟨false, 2 ^ 23, 125, by decide +kernel, by decide +kernel⟩ (by rw [abs_mul_pow]; simp)
theorem syF_bd (s k : Nat) : bdC 148 (syF s k) := ⟨half_bd _, half_bd _⟩
end Go.Proofs.Ytkhipobafchilaa.Sim

/- Snapshots, walked. Lemmas only; no condition. -/
set_option linter.unusedSimpArgs false
set_option linter.unusedVariables false
set_option maxRecDepth 8000
namespace Go.Proofs.Ytkhipobafchilaa.Sim
open Go Go.RowKit Fl
variable {ro lo hi lo' hi' n : Nat} {X : Ext} {h : Heap} {x y : Value} {l : List Int} {u v : Int} {g s0 s k lev : Nat}
/-- A row that is changed up to a place. -/
def mixF (A B : Nat → CB) (i q : Nat) : CB := if q < i then A q else B q
theorem rowV_mix {A B : Nat → CB} {i : Nat} (hi : i < n) : (rowV n (mixF A B i)).set i (toV (A i)) = rowV n (mixF A B (i + 1)) := by
  refine List.ext_getElem (by simp [rowV]) fun j h1 h2 => ?_
  simp only [rowV, List.getElem_set, List.getElem_map, List.getElem_range, mixF]
  by_cases e : i = j
  · subst e
    rw [if_pos rfl, if_pos (by omega)]
  · rw [if_neg e]
    by_cases q : j < i
    · rw [if_pos q, if_pos (by omega)]
    · rw [if_neg q, if_neg (by omega)]
theorem mix_at {A B : Nat → CB} {i : Nat} : mixF A B i i = B i := if_neg (Nat.lt_irrefl i)
theorem mix_zero {A B : Nat → CB} : rowV n (mixF A B 0) = rowV n B := rowV_congr fun i _ => if_neg (Nat.not_lt_zero i)
theorem mix_end {A B : Nat → CB} : rowV n (mixF A B n) = rowV n A := rowV_congr fun i hi => if_pos hi
theorem mk_cpx (h : Heap) (hn : n ≤ 1000) : mk Try.prog h 29 (.int .i64 n) (.int .i64 n) = some (.slice (some ⟨h.length, 0, none⟩) n n, h ++ [⟨32, rowV n (fun _ => zeroB)⟩]) := by
  have e : ∀ m, (List.replicate m [Value.complex .f32 0 0]).flatten = rowV m (fun _ => zeroB) := by
    intro m
    induction m with
    | zero => rfl
    | succ m ih =>
      rw [List.replicate_succ', List.flatten_append, ih, rowV_succ]
      rfl
  simp only [mk, tel29, tsz32, tby32, tze32, Option.bind_some]
  rw [if_pos ⟨by omega, trivial, by omega, by omega, by decide⟩, Int.toNat_natCast]
  congr 4
  exact congrArg (Blk.mk _) (e n)
/-- What an element receives, but for noise. -/
def snM (l : List Int) (u v : Int) (g s0 k : Nat) (i : Nat) : CB := mulB (scB (syF s0 k) g) (PH (stpN l u v i))
def snN (l : List Int) (u v : Int) (g s0 s k lev : Nat) (i : Nat) : CB := addB (addB zeroB (snM l u v g s0 k i)) (nzF s k i lev)
/-- One source. -/
def srcL (u v : Int) (g s0 : Nat) : List Value := [.int .i64 u, .int .i64 v, .float .f32 g, .int .i64 s0]
end Go.Proofs.Ytkhipobafchilaa.Sim

/- Sources, lists of snapshots, wrong symbols; what a law draws. Lemmas only; no condition. -/
set_option linter.unusedSimpArgs false
set_option linter.unusedVariables false
set_option maxRecDepth 8000
namespace Go.Proofs.Ytkhipobafchilaa.Sim
open Go Go.RowKit Fl
variable {ro lo hi lo' hi' n : Nat} {X : Ext} {h : Heap} {x y : Value} {l : List Int} {u v : Int} {g s0 s k lev : Nat} {cd : List UInt8}
theorem SteeringOf_c (hX : XN X) (hA : XAbs X) (hI : IS lo hi 2 h x n l) (ht : tyP ro h x) (hg : goodP n l) (hd : dirB u v = true) (hro : ro ≤ h.length) (hlo : hi ≤ h.length) : CallR Try.prog ro X 7 [x, .agg ⟨[.int .i64 u, .int .i64 v]⟩] h (fun r h' => ∃ z, r = .tuple ⟨[z, .bool true]⟩ ∧ Pfx h h' ∧ RowB h.length h' z n (fun i => PH (stpN l u v i))) := by
  have n1 := hg.n1
  have hb : boxV h 27 (.agg ⟨[.int .i64 u, .int .i64 v]⟩) = some (.pointer (some ⟨h.length, 0, none⟩), h ++ [⟨27, [.int .i64 u, .int .i64 v]⟩]) := box_go rfl
  have p0 : Pfx h (h ++ [(⟨27, [.int .i64 u, .int .i64 v]⟩ : Blk)]) := (Pfx.refl h).snoc
  have hro0 : ro ≤ (h ++ [(⟨27, [.int .i64 u, .int .i64 v]⟩ : Blk)]).length := by simp; omega
  have hv := vPlaces_r (ro := ro) hX (hI.pre p0) (ht.pre hI (by omega) p0) hg hro0
  have hdr := vDir_r (ro := ro) hX u v _ hro0
  rw [hd] at hdr
  refine callR_of (hX _ rfl) Try.func7 rfl (by kernel_rfl) (Nat.le_of_ble_eq_true rfl) ?_
  (repeat' first | simp -dsimp (disch := first | omega | assumption | (refine OkS.sto ?_ (by omega); first | assumption | (refine OkS.sto ?_ (by omega); first | assumption | (refine OkS.sto ?_ (by omega); first | assumption | (refine OkS.sto ?_ (by omega); first | assumption | (refine OkS.sto ?_ (by omega); first | assumption | (refine OkS.sto ?_ (by omega); first | assumption)))))) | exact Pfx.refl _ | (apply Pfx.snoc; repeat (first | exact Pfx.refl _ | assumption | apply Pfx.snoc)) | with_unfolding_all exact of_eq_true (eq_true rfl) | (simp only [List.length_append, List.length_cons, List.length_nil]; omega)) only [↓wpre0, ↓wpre1, ↓reduceIte, Int.reduceToNat, Nat.reduceAdd, Nat.reduceMul, Nat.reduceEqDiff, wpost0, wpost1, wpost2, wpost3, wpost4, ite_self, ite_true, ite_false, if_true, if_false, un_not, xld27, fr7, wrap_int, wrap_u8, iteP_yes, iteP_no, hb, hv, hdr] | refine iteP_two (fun hc hd => ?_) (fun hc hd => ?_) | refine iteP_intro (fun hc => ?_) (fun hc => ?_))
  refine cf_rel (steering_c hX hA (hI.pre p0) hg hd hro0 (by simp; omega)) (fun q => by cases q) ?_
  rintro z H1 ⟨p1, hZ⟩
  have hnf : Sim.flat (.tuple ⟨[z, .bool true]⟩) = false := by
    rcases hZ.2 with ⟨q, _⟩ | ⟨b, o, cap, Bk, rfl, _⟩
    · omega
    · rfl
  (repeat' first | simp -dsimp (disch := first | omega | assumption | (refine OkS.sto ?_ (by omega); first | assumption | (refine OkS.sto ?_ (by omega); first | assumption | (refine OkS.sto ?_ (by omega); first | assumption | (refine OkS.sto ?_ (by omega); first | assumption | (refine OkS.sto ?_ (by omega); first | assumption | (refine OkS.sto ?_ (by omega); first | assumption)))))) | exact Pfx.refl _ | (apply Pfx.snoc; repeat (first | exact Pfx.refl _ | assumption | apply Pfx.snoc)) | with_unfolding_all exact of_eq_true (eq_true rfl) | (simp only [List.length_append, List.length_cons, List.length_nil]; omega)) only [↓wpre0, ↓wpre1, ↓reduceIte, Int.reduceToNat, Nat.reduceAdd, Nat.reduceMul, Nat.reduceEqDiff, wpost0, wpost1, wpost2, wpost3, wpost4, ite_self, ite_true, ite_false, if_true, if_false, un_not, xld27, fr7, wrap_int, wrap_u8, iteP_yes, iteP_no, endH_not hnf] | refine iteP_two (fun hc hd => ?_) (fun hc hd => ?_) | refine iteP_intro (fun hc => ?_) (fun hc => ?_))
  exact ⟨z, rfl, p0.trans p1, hZ.low (by simp)⟩
/-- Rows, each outside of one block. -/
structure RWS (lo n : Nat) (h : Heap) (bx : Nat) (R : List Value) (F : Nat → Nat → CB) : Prop where
  row : ∀ j, j < R.length → RowB lo h (vth R j) n (F j)
  out : ∀ j, j < R.length → bOf (vth R j) ≠ bx
theorem RowB.frb {lo : Nat} {h h' : Heap} {x : Value} {f : Nat → CB} (r : RowB lo h x n f) (hl : h.length ≤ h'.length) (hh : h'[bOf x]? = h[bOf x]?) : RowB lo h' x n f := (VS.frb r hh).wide (Nat.le_refl _) hl
end Go.Proofs.Ytkhipobafchilaa.Sim

/- Directions and numbers that a law draws; wrong symbols. Lemmas only; no condition. -/
set_option linter.unusedSimpArgs false
set_option linter.unusedVariables false
set_option maxRecDepth 8000
namespace Go.Proofs.Ytkhipobafchilaa.Sim
open Go Go.RowKit Fl
variable {ro lo hi lo' hi' n : Nat} {X : Ext} {h : Heap} {x y : Value} {l : List Int} {u v : Int} {g s0 s k lev : Nat} {cd : List UInt8}
/-- A complex number, turned. -/
def ngB (u : CB) : CB := ⟨cf .f32 (Op.negFloat .f32 u.a), cf .f32 (Op.negFloat .f32 u.b)⟩

def eqC (u w : CB) : Bool := fcmp .eql .f32 u.a w.a && fcmp .eql .f32 u.b w.b
theorem half_tab : ∀ a : Fin 2, fcmp .eql .f32 (hfB a) (hfB a) = true ∧ fcmp .eql .f32 (cf .f32 (Op.negFloat .f32 (hfB a))) (hfB a) = false ∧ fcmp .leq .f32 0 (hfB a) = decide (a.val = 0) := by decide +kernel
theorem hfB_two (k : Nat) : hfB k = hfB (k % 2) := by unfold hfB; rw [Nat.mod_mod]
theorem half_eq (k : Nat) : fcmp .eql .f32 (hfB k) (hfB k) = true := by rw [hfB_two]; exact (half_tab ⟨k % 2, Nat.mod_lt _ (by decide)⟩).1
theorem half_ne (k : Nat) : fcmp .eql .f32 (cf .f32 (Op.negFloat .f32 (hfB k))) (hfB k) = false := by rw [hfB_two]; exact (half_tab ⟨k % 2, Nat.mod_lt _ (by decide)⟩).2.1
theorem half_sg (k : Nat) : fcmp .leq .f32 0 (hfB k) = decide (k % 2 = 0) := by rw [hfB_two]; exact (half_tab ⟨k % 2, Nat.mod_lt _ (by decide)⟩).2.2
theorem half_pow : ∀ a b : Fin 2, fcmp .eql .f32 (nr (pwF ⟨hfB a, hfB b⟩)) 1056964608 = true := by decide +kernel
theorem syF_pow (s k : Nat) : fcmp .eql .f32 (nr (pwF (syF s k))) 1056964608 = true := by
  have := half_pow ⟨(drN s (2 * k) / 16384) % 2, Nat.mod_lt _ (by decide)⟩ ⟨(drN s (2 * k) / 8192) % 2, Nat.mod_lt _ (by decide)⟩
  simp only [← hfB_two] at this
  exact this
theorem syF_eq (s k : Nat) : eqC (syF s k) (syF s k) = true := by unfold eqC syF; simp only [half_eq, Bool.and_self]
theorem syF_ne (s k : Nat) : eqC (ngB (syF s k)) (syF s k) = false := by unfold eqC ngB syF; simp only [half_ne, Bool.false_and]
end Go.Proofs.Ytkhipobafchilaa.Sim

/- What FnSnapshots leans on. Lemmas only; no condition. -/
set_option linter.unusedSimpArgs false
set_option linter.unusedVariables false
set_option maxRecDepth 8000
namespace Go.Proofs.Ytkhipobafchilaa.Sim
open Go Go.RowKit Fl
variable {ro lo hi lo' hi' n : Nat} {X : Ext} {h : Heap} {x y : Value} {l : List Int} {u v : Int} {g s0 s k lev : Nat} {cd md : List UInt8}
/-- A gain in quarters. -/
def gnF (q : Nat) : Nat := farith .quo .f32 (cf .f32 (FloatKind.f32.nearest (1 + (q : Int)))) 1082130432
theorem gnF_bd {q : Nat} (hq : q < 8) : bd .f32 150 (gnF q) := by
  have hn : bd .f32 152 (cf .f32 (FloatKind.f32.nearest (1 + (q : Int)))) := by
    have e24 : (2 : Nat) ^ 24 = 16777216 := by decide
    refine (nearest_fx .f32 (n := 1 + (q : Int)) (show (1 + (q : Int)).natAbs < 2 ^ 24 by rw [e24]; omega)).bd ?_
    rw [abs_mul_pow, show (-lp .f32).toNat = 149 by decide]
    exact mul_pow_le (n := 152) (b := 3) (m := 149) (by omega) rfl
  exact quo_bd hn (w := 151) (big_of (by decide +kernel)) (by decide) (by decide)
theorem scS_bd {s k q : Nat} (hq : q < 8) : bdC 149 (scB (syF s k) (gnF q)) := ⟨mul_bd (syF_bd s k).a (gnF_bd hq) (by decide) (by decide), mul_bd (syF_bd s k).b (gnF_bd hq) (by decide) (by decide)⟩
theorem snM_bd (hg : goodP n l) (hd : dirB u v = true) {q : Nat} (hq : q < 8) {i : Nat} (hi : i < n) : bdC 154 (snM l u v (gnF q) s0 k i) := (mulB_bd (scS_bd hq) (PH_bdC (stp_lt hg hd hi)) (by decide) (by decide)).2
/-- Without noise, what an element receives is the symbol times its gain, in its phase. -/
theorem snz_eq (hg : goodP n l) (hd : dirB u v = true) {q : Nat} (hq : q < 8) {i : Nat} (hi : i < n) : fcmp .eql .f32 (snN l u v (gnF q) s0 s k 0 i).a (snM l u v (gnF q) s0 k i).a = true ∧ fcmp .eql .f32 (snN l u v (gnF q) s0 s k 0 i).b (snM l u v (gnF q) s0 k i).b = true := by
  have b := snM_bd (s0 := s0) (k := k) hg hd hq hi
  have l1 := drN_lt s (2 * nzI k i)
  have l2 := drN_lt s (2 * nzI k i + 1)
  unfold snN
  generalize snM l u v (gnF q) s0 k i = M at *
  unfold nzF
  generalize drN s (2 * nzI k i) = d1 at *
  generalize drN s (2 * nzI k i + 1) = d2 at *
  obtain ⟨va, ha, _⟩ := b.a
  obtain ⟨vb, hb, _⟩ := b.b
  have a1 := (add_zero_fin ha zero_fin).2
  have b1 := (add_zero_fin hb zero_fin).2
  have a2 := (add_zero_fin a1 (paz_fin l1)).1
  have b2 := (add_zero_fin b1 (paz_fin l2)).1
  refine ⟨?_, ?_⟩
  · simp only [addB, scB, zeroB]
    rw [cmp_eq a2 ha]
    exact decide_eq_true rfl
  · simp only [addB, scB, zeroB]
    rw [cmp_eq b2 hb]
    exact decide_eq_true rfl
theorem snq_ok (hg : goodP n l) (hd : dirB u v = true) {q : Nat} (hq : q < 8) {i : Nat} (hi : i < n) : okF (snN l u v (gnF q) s0 s k 1048576000 i).a ∧ okF (snN l u v (gnF q) s0 s k 1048576000 i).b := by
  have b := snM_bd (s0 := s0) (k := k) hg hd hq hi
  have c : bdC 156 (snN l u v (gnF q) s0 s k 1048576000 i) := addB_bd (addB_bd (zeroB_bd 154) b (by decide)) ((nzq_bd s k i).mono (by decide)) (by decide)
  obtain ⟨va, ha, _⟩ := c.a
  obtain ⟨vb, hb, _⟩ := c.b
  exact ⟨okF_of ha, okF_of hb⟩
theorem nzq_cmp (s k i : Nat) : fcmp .lss .f32 1048576000 (nzF s k i 1048576000).a = false ∧ fcmp .lss .f32 (nzF s k i 1048576000).a 3196059648 = false ∧ fcmp .lss .f32 1048576000 (nzF s k i 1048576000).b = false ∧ fcmp .lss .f32 (nzF s k i 1048576000).b 3196059648 = false := by
  have c1 := paq_cmp (drN_lt s (2 * nzI k i))
  have c2 := paq_cmp (drN_lt s (2 * nzI k i + 1))
  unfold nzF
  simp only [scB]
  exact ⟨c1.1, c1.2, c2.1, c2.2⟩
theorem dir_91 {a b : Nat} (ha : a < 91) (hb : b < 91) : dirB ((a : Int) - 45) ((b : Int) - 45) = true := by
  have e : ∀ a : Nat, a < 91 → ((a : Int) - 45) * ((a : Int) - 45) ≤ 2025 := fun a ha => by
    have h : ((a : Int) - 45) * ((a : Int) - 45) = ((((a : Int) - 45).natAbs * ((a : Int) - 45).natAbs : Nat) : Int) := by rw [← Int.natAbs_mul_self]
    have h2 : ((a : Int) - 45).natAbs * ((a : Int) - 45).natAbs ≤ 45 * 45 := Nat.mul_le_mul (by omega) (by omega)
    omega
  have e1 := e a ha
  have e2 := e b hb
  unfold dirB
  rw [decide_eq_true (p := -64 ≤ (a : Int) - 45) (by omega), decide_eq_true (p := (a : Int) - 45 ≤ 64) (by omega), decide_eq_true (p := -64 ≤ (b : Int) - 45) (by omega), decide_eq_true (p := (b : Int) - 45 ≤ 64) (by omega), decide_eq_true (p := ((a : Int) - 45) * ((a : Int) - 45) + ((b : Int) - 45) * ((b : Int) - 45) ≤ 4096) (by omega)]
  rfl
theorem env_cut {P : Program} {c : Code} {Q : Ex → Env → Heap → Prop} {e : Env} {h : Heap} (M : Env → Heap → Prop) (h1 : M e h) (k : ∀ e h, M e h → W P ro X c Q e h) : W P ro X c Q e h := k e h h1
end Go.Proofs.Ytkhipobafchilaa.Sim

/- The law FnSnapshots. Lemmas only; no condition. -/
set_option linter.unusedSimpArgs false
set_option linter.unusedVariables false
set_option maxRecDepth 8000
namespace Go.Proofs.Ytkhipobafchilaa.Sim
open Go Go.RowKit Fl
variable {ro lo hi lo' hi' n : Nat} {X : Ext} {h : Heap} {x y : Value} {l : List Int} {u v : Int} {g s0 s k lev : Nat} {cd md : List UInt8}
end Go.Proofs.Ytkhipobafchilaa.Sim

/- The power of the sky, walked. Lemmas only; no condition. -/
set_option linter.unusedSimpArgs false
set_option linter.unusedVariables false
set_option maxRecDepth 8000
namespace Go.Proofs.Ytkhipobafchilaa.Sim
open Go Go.RowKit Fl
variable {ro n : Nat} {X : Ext} {h : Heap} {x y : Value} {l : List Int} {f : Nat → CB} {u v : Int}
end Go.Proofs.Ytkhipobafchilaa.Sim

/- Places and numbers in sixteenths as a law draws them; whether numbers are the same. Lemmas only; no condition. -/
set_option linter.unusedSimpArgs false
set_option linter.unusedVariables false
set_option maxRecDepth 8000
namespace Go.Proofs.Ytkhipobafchilaa.Sim
open Go Go.RowKit Fl
variable {ro lo hi n : Nat} {X X' : Ext} {h : Heap} {x y : Value} {l : List Int} {cd : List UInt8}
set_option maxHeartbeats 4000000 in
theorem Fine_c (hW : XDW X) (hX : XN X) (hV : VS lo hi 1 h x cd.length (cd.map u8v)) (hhi : hi ≤ h.length) (hl : cd.length ≤ 1099511627776) (hro : ro ≤ h.length) (hn : n ≤ 1024) :
    CallR Try.prog ro X 16 [x, .int .i64 n] h (fun r h' => ∃ z : Nat → CB, (∀ i, bdC 150 (z i)) ∧ Pfx h h' ∧ RowB h.length h' r n z) := by
  refine callR_of (hX _ rfl) Try.func16 rfl (by kernel_rfl) (Nat.le_of_ble_eq_true rfl) ?_
  (repeat' first | simp -dsimp (disch := first | omega | assumption | (refine OkS.sto ?_ (by omega); first | assumption | (refine OkS.sto ?_ (by omega); first | assumption | (refine OkS.sto ?_ (by omega); first | assumption | (refine OkS.sto ?_ (by omega); first | assumption | (refine OkS.sto ?_ (by omega); first | assumption | (refine OkS.sto ?_ (by omega); first | assumption)))))) | exact Pfx.refl _ | (apply Pfx.snoc; repeat (first | exact Pfx.refl _ | assumption | apply Pfx.snoc)) | with_unfolding_all exact of_eq_true (eq_true rfl) | (simp only [List.length_append, List.length_cons, List.length_nil]; omega)) only [↓wpre0, ↓wpre1, ↓reduceIte, Int.reduceToNat, Nat.reduceAdd, Nat.reduceMul, Nat.reduceEqDiff, wpost0, wpost1, wpost2, wpost3, wpost4, ite_self, ite_true, ite_false, if_true, if_false, xbls29_0, xbls29_1, bin_gtr, bin_sub, fr16, wrap_int, wrap_u8, iteP_yes, iteP_no] | refine iteP_two (fun hc hd => ?_) (fun hc hd => ?_) | refine iteP_intro (fun hc => ?_) (fun hc => ?_))
  refine cf_rel (From_c (hX _ rfl) hV hro) (fun q => by cases q) ?_
  rintro r H1 ⟨rfl, p1, l1, S1⟩
  (repeat' first | simp -dsimp (disch := first | omega | assumption | (refine OkS.sto ?_ (by omega); first | assumption | (refine OkS.sto ?_ (by omega); first | assumption | (refine OkS.sto ?_ (by omega); first | assumption | (refine OkS.sto ?_ (by omega); first | assumption | (refine OkS.sto ?_ (by omega); first | assumption | (refine OkS.sto ?_ (by omega); first | assumption)))))) | exact Pfx.refl _ | (apply Pfx.snoc; repeat (first | exact Pfx.refl _ | assumption | apply Pfx.snoc)) | with_unfolding_all exact of_eq_true (eq_true rfl) | (simp only [List.length_append, List.length_cons, List.length_nil]; omega)) only [↓wpre0, ↓wpre1, ↓reduceIte, Int.reduceToNat, Nat.reduceAdd, Nat.reduceMul, Nat.reduceEqDiff, wpost0, wpost1, wpost2, wpost3, wpost4, ite_self, ite_true, ite_false, if_true, if_false, xbls29_0, xbls29_1, bin_gtr, bin_sub, fr16, wrap_int, wrap_u8, iteP_yes, iteP_no] | refine iteP_two (fun hc hd => ?_) (fun hc hd => ?_) | refine iteP_intro (fun hc => ?_) (fun hc => ?_))
  have p2 : Pfx H1 (H1 ++ [(⟨32, []⟩ : Blk)]) := (Pfx.refl H1).snoc
  refine loop_rounds (fun m e h' => ∃ (y : Value) (Z : List CB), m = n - Z.length ∧ Z.length ≤ n ∧ (∀ z ∈ Z, bdC 150 z) ∧ e 1 = .int .i64 ((n - Z.length : Nat) : Int) ∧ e 5 = .pointer (some ⟨h.length, 0, none⟩) ∧ e 6 = y ∧ VG H1.length 32 1 h' y Z.length (rowV Z.length (cat Z)) ∧ SRC lo hi h.length (Z.length * 4) x cd h' ∧ Pfx h h' ∧ h.length < h'.length) _ ⟨.slice (some ⟨H1.length, 0, none⟩) 0 0, [], rfl, ?_⟩ ?_
  · simp only [updO_at, updO_not, entry_at, List.getD_cons_zero, List.getD_cons_succ, ↓reduceIte, Nat.reduceEqDiff, true_and, and_true]
    have V2 : VG H1.length 32 1 (H1 ++ [(⟨32, []⟩ : Blk)]) (.slice (some ⟨H1.length, 0, none⟩) 0 0) 0 (rowV 0 (cat [])) := vg_new H1 (Nat.le_refl _)
    have S2 := (S1.pre p2).more (A' := 0 * 4) (by omega)
    have pA := p1.trans p2
    have lA : h.length < (H1 ++ [(⟨32, []⟩ : Blk)]).length := by simp; omega
    (repeat' (first | assumption | rfl | omega | exact V2 | exact S2 | exact pA | exact lA | exact Nat.zero_le _ | (intro a ha; cases ha) | refine And.intro ?_ ?_))
  · rintro m e h' ⟨y, Z, hm, hle, hz, g1, g5, g6, hY, hS, hd, hlh⟩
    have hb := hY.bof
    by_cases hin : Z.length < n
    · (repeat' first | simp -dsimp (disch := first | omega | assumption | (refine OkS.sto ?_ (by omega); first | assumption | (refine OkS.sto ?_ (by omega); first | assumption | (refine OkS.sto ?_ (by omega); first | assumption | (refine OkS.sto ?_ (by omega); first | assumption | (refine OkS.sto ?_ (by omega); first | assumption | (refine OkS.sto ?_ (by omega); first | assumption)))))) | exact Pfx.refl _ | (apply Pfx.snoc; repeat (first | exact Pfx.refl _ | assumption | apply Pfx.snoc)) | with_unfolding_all exact of_eq_true (eq_true rfl) | (simp only [List.length_append, List.length_cons, List.length_nil]; omega)) only [↓wpre0, ↓wpre1, ↓reduceIte, Int.reduceToNat, Nat.reduceAdd, Nat.reduceMul, Nat.reduceEqDiff, wpost0, wpost1, wpost2, wpost3, wpost4, ite_self, ite_true, ite_false, if_true, if_false, xbls29_0, xbls29_1, bin_gtr, bin_sub, fr16, wrap_int, wrap_u8, iteP_yes, iteP_no, g1, g5, g6] | refine iteP_two (fun hc hd => ?_) (fun hc hd => ?_) | refine iteP_intro (fun hc => ?_) (fun hc => ?_))
      refine cf_rel (DrawFineB_c hW hS (by omega) (by omega) (by omega) hl) (fun q => by cases q) ?_
      rintro r H5 ⟨w, rfl, hw, S5, o6⟩
      have l5 := o6.1
      have hY5 : VG H1.length 32 1 H5 y Z.length (rowV Z.length (cat Z)) := hY.frame (o6.2 _ (by omega))
      obtain ⟨H, ap, vg, old, hlen⟩ := acc1 (P := Try.prog) (ro := ro) (T := 29) (h := H5) (v := toV w) tel29 tsz32 tby32 tze32 (.inl hY5) (by omega) (by omega) rfl (by omega) (by omega)
      have vg' : VG H1.length 32 1 H (.slice (some ⟨H5.length + 1, 0, none⟩) (Z.length + 1) (Z.length + 1 + 1)) (Z ++ [w]).length (rowV (Z ++ [w]).length (cat (Z ++ [w]))) := by
        rw [List.length_append, List.length_singleton, rowC_snoc]; exact vg
      have d5 := pfx_onl hd o6 (Nat.le_refl _)
      have dH := old.1 h d5 (by omega)
      have sv : SRC lo hi h.length ((Z ++ [w]).length * 4) x cd H := ((S5.frame (old.2.1 _ (by omega) (.inr (by omega))) fun j h1 h2 => old.2.1 j (by omega) (.inr (by omega)))).more (by simp; omega)
      have hcast : ((n - Z.length : Nat) : Int) - 1 = ((n - (Z ++ [w]).length : Nat) : Int) := by simp; omega
      simp only [toV] at ap
      (repeat' first | simp -dsimp (disch := first | omega | assumption | (refine OkS.sto ?_ (by omega); first | assumption | (refine OkS.sto ?_ (by omega); first | assumption | (refine OkS.sto ?_ (by omega); first | assumption | (refine OkS.sto ?_ (by omega); first | assumption | (refine OkS.sto ?_ (by omega); first | assumption | (refine OkS.sto ?_ (by omega); first | assumption)))))) | exact Pfx.refl _ | (apply Pfx.snoc; repeat (first | exact Pfx.refl _ | assumption | apply Pfx.snoc)) | with_unfolding_all exact of_eq_true (eq_true rfl) | (simp only [List.length_append, List.length_cons, List.length_nil]; omega)) only [↓wpre0, ↓wpre1, ↓reduceIte, Int.reduceToNat, Nat.reduceAdd, Nat.reduceMul, Nat.reduceEqDiff, wpost0, wpost1, wpost2, wpost3, wpost4, ite_self, ite_true, ite_false, if_true, if_false, xbls29_0, xbls29_1, bin_gtr, bin_sub, fr16, wrap_int, wrap_u8, iteP_yes, iteP_no, g1, g5, g6, ap] | refine iteP_two (fun hc hd => ?_) (fun hc hd => ?_) | refine iteP_intro (fun hc => ?_) (fun hc => ?_))
      refine ⟨n - (Z ++ [w]).length, by simp; omega, .slice (some ⟨H5.length + 1, 0, none⟩) (Z.length + 1) (Z.length + 1 + 1), Z ++ [w], ?_⟩
      have hz' : ∀ z ∈ Z ++ [w], bdC 150 z := by
        intro z hz'
        rcases List.mem_append.1 hz' with q | q
        · exact hz z q
        · rw [List.mem_singleton] at q; subst q; exact hw
      have hll : (Z ++ [w]).length ≤ n := by simp; omega
      have hlh' : h.length < H.length := by omega
      (repeat' (first | assumption | rfl | omega | (rw [hcast]) | refine And.intro ?_ ?_))
    · have ei : n = Z.length := by omega
      have hnf : Sim.flat y = false := by obtain ⟨_, b, cap, rfl, _⟩ := hY; rfl
      (repeat' first | simp -dsimp (disch := first | omega | assumption | (refine OkS.sto ?_ (by omega); first | assumption | (refine OkS.sto ?_ (by omega); first | assumption | (refine OkS.sto ?_ (by omega); first | assumption | (refine OkS.sto ?_ (by omega); first | assumption | (refine OkS.sto ?_ (by omega); first | assumption | (refine OkS.sto ?_ (by omega); first | assumption)))))) | exact Pfx.refl _ | (apply Pfx.snoc; repeat (first | exact Pfx.refl _ | assumption | apply Pfx.snoc)) | with_unfolding_all exact of_eq_true (eq_true rfl) | (simp only [List.length_append, List.length_cons, List.length_nil]; omega)) only [↓wpre0, ↓wpre1, ↓reduceIte, Int.reduceToNat, Nat.reduceAdd, Nat.reduceMul, Nat.reduceEqDiff, wpost0, wpost1, wpost2, wpost3, wpost4, ite_self, ite_true, ite_false, if_true, if_false, xbls29_0, xbls29_1, bin_gtr, bin_sub, fr16, wrap_int, wrap_u8, iteP_yes, iteP_no, g1, g5, g6, endH_not hnf] | refine iteP_two (fun hc hd => ?_) (fun hc hd => ?_) | refine iteP_intro (fun hc => ?_) (fun hc => ?_))
      refine ⟨cat Z, cat_bd hz, hd, ?_⟩
      rw [ei]
      exact (hY.low (show h.length ≤ H1.length by omega)).vsl
theorem TenP_c (hW : XDW X) (hX : XN X) (hX' : XN X') (hx : X' 24 = xPl ro X 24) (hV : VS lo hi 1 h x n (cd.map u8v)) (hro : ro ≤ h.length) (hhi : hi ≤ h.length) (hl : cd.length ≤ 1099511627776) :
    CallR Try.prog ro X' 5 [x] h (fun r h' => Places h r h') := by
  refine callR_of (hX' _ rfl) Try.func5 rfl (by kernel_rfl) (Nat.le_of_ble_eq_true rfl) ?_
  (repeat' first | simp -dsimp (disch := first | omega | assumption | (refine OkS.sto ?_ (by omega); first | assumption | (refine OkS.sto ?_ (by omega); first | assumption | (refine OkS.sto ?_ (by omega); first | assumption | (refine OkS.sto ?_ (by omega); first | assumption | (refine OkS.sto ?_ (by omega); first | assumption | (refine OkS.sto ?_ (by omega); first | assumption)))))) | exact Pfx.refl _ | (apply Pfx.snoc; repeat (first | exact Pfx.refl _ | assumption | apply Pfx.snoc)) | with_unfolding_all exact of_eq_true (eq_true rfl) | (simp only [List.length_append, List.length_cons, List.length_nil]; omega)) only [↓wpre0, ↓wpre1, ↓reduceIte, Int.reduceToNat, Nat.reduceAdd, Nat.reduceMul, Nat.reduceEqDiff, wpost0, wpost1, wpost2, wpost3, wpost4, ite_self, ite_true, ite_false, if_true, if_false, un_not, xbld51, xbld51_0, xbls24_0, xbls24_1, fr5, wrap_int, wrap_u8, iteP_yes, iteP_no] | refine iteP_two (fun hc hd => ?_) (fun hc hd => ?_) | refine iteP_intro (fun hc => ?_) (fun hc => ?_))
  refine cf_rel (From_c (hX' _ rfl) hV hro) (fun q => by cases q) ?_
  rintro r H1 ⟨rfl, p1, l1, S1⟩
  (repeat' first | simp -dsimp (disch := first | omega | assumption | (refine OkS.sto ?_ (by omega); first | assumption | (refine OkS.sto ?_ (by omega); first | assumption | (refine OkS.sto ?_ (by omega); first | assumption | (refine OkS.sto ?_ (by omega); first | assumption | (refine OkS.sto ?_ (by omega); first | assumption | (refine OkS.sto ?_ (by omega); first | assumption)))))) | exact Pfx.refl _ | (apply Pfx.snoc; repeat (first | exact Pfx.refl _ | assumption | apply Pfx.snoc)) | with_unfolding_all exact of_eq_true (eq_true rfl) | (simp only [List.length_append, List.length_cons, List.length_nil]; omega)) only [↓wpre0, ↓wpre1, ↓reduceIte, Int.reduceToNat, Nat.reduceAdd, Nat.reduceMul, Nat.reduceEqDiff, wpost0, wpost1, wpost2, wpost3, wpost4, ite_self, ite_true, ite_false, if_true, if_false, un_not, xbld51, xbld51_0, xbls24_0, xbls24_1, fr5, wrap_int, wrap_u8, iteP_yes, iteP_no] | refine iteP_two (fun hc hd => ?_) (fun hc hd => ?_) | refine iteP_intro (fun hc => ?_) (fun hc => ?_))
  refine cf_rel (DrawOk_c hW hX hx S1 hro hhi (by omega) hl) (fun q => by cases q) ?_
  rintro r H2 ⟨n, yb, yc, l, rfl, hyb, hD, hll, hg, hr, d2, S2⟩
  have hnf : ∀ a m c, Sim.flat (.slice a m c) = false := fun a m c => rfl
  have hI := is_blk (dc := yc) hD hll
  have h16 := hg.n16
  (repeat' first | simp -dsimp (disch := first | omega | assumption | (refine OkS.sto ?_ (by omega); first | assumption | (refine OkS.sto ?_ (by omega); first | assumption | (refine OkS.sto ?_ (by omega); first | assumption | (refine OkS.sto ?_ (by omega); first | assumption | (refine OkS.sto ?_ (by omega); first | assumption | (refine OkS.sto ?_ (by omega); first | assumption)))))) | exact Pfx.refl _ | (apply Pfx.snoc; repeat (first | exact Pfx.refl _ | assumption | apply Pfx.snoc)) | with_unfolding_all exact of_eq_true (eq_true rfl) | (simp only [List.length_append, List.length_cons, List.length_nil]; omega)) only [↓wpre0, ↓wpre1, ↓reduceIte, Int.reduceToNat, Nat.reduceAdd, Nat.reduceMul, Nat.reduceEqDiff, wpost0, wpost1, wpost2, wpost3, wpost4, ite_self, ite_true, ite_false, if_true, if_false, un_not, xbld51, xbld51_0, xbls24_0, xbls24_1, fr5, wrap_int, wrap_u8, iteP_yes, iteP_no] | refine iteP_two (fun hc hd => ?_) (fun hc hd => ?_) | refine iteP_intro (fun hc => ?_) (fun hc => ?_))
  refine cf_rel (l02Is_c hX' hI (by omega)) (fun q => by cases q) ?_
  rintro r H3 ⟨b, rfl, rfl, hb⟩
  have hbt : b = true := hb.2 hg
  subst hbt
  (repeat' first | simp -dsimp (disch := first | omega | assumption | (refine OkS.sto ?_ (by omega); first | assumption | (refine OkS.sto ?_ (by omega); first | assumption | (refine OkS.sto ?_ (by omega); first | assumption | (refine OkS.sto ?_ (by omega); first | assumption | (refine OkS.sto ?_ (by omega); first | assumption | (refine OkS.sto ?_ (by omega); first | assumption)))))) | exact Pfx.refl _ | (apply Pfx.snoc; repeat (first | exact Pfx.refl _ | assumption | apply Pfx.snoc)) | with_unfolding_all exact of_eq_true (eq_true rfl) | (simp only [List.length_append, List.length_cons, List.length_nil]; omega)) only [↓wpre0, ↓wpre1, ↓reduceIte, Int.reduceToNat, Nat.reduceAdd, Nat.reduceMul, Nat.reduceEqDiff, wpost0, wpost1, wpost2, wpost3, wpost4, ite_self, ite_true, ite_false, if_true, if_false, un_not, xbld51, xbld51_0, xbls24_0, xbls24_1, fr5, wrap_int, wrap_u8, iteP_yes, iteP_no, endH_not (hnf _ _ _)] | refine iteP_two (fun hc hd => ?_) (fun hc hd => ?_) | refine iteP_intro (fun hc => ?_) (fun hc => ?_))
  exact ⟨n, yb, yc, l, rfl, by omega, hD, hll, hg, hr, Dst.pfx p1 d2 (Nat.le_refl _)⟩
theorem bitsS_r (hX : XN X) (hB : X 71 = some (ext1 fBits)) {b : Nat} (hn : (FloatKind.f32.decode b).isNaN = false) (h : Heap) : ∃ z, Ret Try.prog ro X 57 [.float .f32 b] h (.int .i64 z) := by
  have hc : Ret Try.prog ro X 71 [.float .f32 b] h (.int .u32 b) := fun _ _ => cf_eq (call_ext hB (by simp only [ext1, fBits, hn, Bool.false_eq_true, if_false, Option.map_some]))
  have e1 : fcmp .eql .f32 b b = true := by rw [order_self, hn]; rfl
  have : CallR Try.prog ro X 57 [.float .f32 b] h (fun r h' => (∃ t, r = .int .i64 t) ∧ h' = h) := by
    refine callR_of (hX _ rfl) Try.func57 rfl (by kernel_rfl) (Nat.le_of_ble_eq_true rfl) ?_
    (repeat' first | simp -dsimp (disch := first | omega | assumption | (refine OkS.sto ?_ (by omega); first | assumption | (refine OkS.sto ?_ (by omega); first | assumption | (refine OkS.sto ?_ (by omega); first | assumption | (refine OkS.sto ?_ (by omega); first | assumption | (refine OkS.sto ?_ (by omega); first | assumption | (refine OkS.sto ?_ (by omega); first | assumption)))))) | exact Pfx.refl _ | (apply Pfx.snoc; repeat (first | exact Pfx.refl _ | assumption | apply Pfx.snoc)) | with_unfolding_all exact of_eq_true (eq_true rfl) | (simp only [List.length_append, List.length_cons, List.length_nil]; omega)) only [↓wpre0, ↓wpre1, ↓reduceIte, Int.reduceToNat, Nat.reduceAdd, Nat.reduceMul, Nat.reduceEqDiff, wpost0, wpost1, wpost2, wpost3, wpost4, ite_self, ite_true, ite_false, if_true, if_false, bin_fneq, xcv93_2, fr57, wrap_int, wrap_u8, iteP_yes, iteP_no, hc, e1] | refine iteP_two (fun hc hd => ?_) (fun hc hd => ?_) | refine iteP_intro (fun hc => ?_) (fun hc => ?_))
    all_goals exact ⟨_, rfl⟩
  obtain ⟨r, h', h1, ⟨t, rfl⟩, rfl⟩ := this
  exact ⟨t, fun _ _ => cf_eq h1⟩
theorem SameS_r (hX : XN X) (hB : X 71 = some (ext1 fBits)) {b : Nat} (hn : (FloatKind.f32.decode b).isNaN = false) (h : Heap) : Ret Try.prog ro X 13 [.float .f32 b, .float .f32 b] h (.bool true) := by
  obtain ⟨t, ht⟩ := bitsS_r (ro := ro) hX hB hn h
  have key : Ret Try.prog ro X 35 [.float .f32 b, .float .f32 b] h (.bool true) := by
    refine ret_of (callR_of (hX _ rfl) Try.func35 rfl (by kernel_rfl) (Nat.le_of_ble_eq_true rfl) ?_)
    (repeat' first | simp -dsimp (disch := first | omega | assumption | (refine OkS.sto ?_ (by omega); first | assumption | (refine OkS.sto ?_ (by omega); first | assumption | (refine OkS.sto ?_ (by omega); first | assumption | (refine OkS.sto ?_ (by omega); first | assumption | (refine OkS.sto ?_ (by omega); first | assumption | (refine OkS.sto ?_ (by omega); first | assumption)))))) | exact Pfx.refl _ | (apply Pfx.snoc; repeat (first | exact Pfx.refl _ | assumption | apply Pfx.snoc)) | with_unfolding_all exact of_eq_true (eq_true rfl) | (simp only [List.length_append, List.length_cons, List.length_nil]; omega)) only [↓wpre0, ↓wpre1, ↓reduceIte, Int.reduceToNat, Nat.reduceAdd, Nat.reduceMul, Nat.reduceEqDiff, wpost0, wpost1, wpost2, wpost3, wpost4, ite_self, ite_true, ite_false, if_true, if_false, bin_eql, fr35, wrap_int, wrap_u8, iteP_yes, iteP_no, ht] | refine iteP_two (fun hc hd => ?_) (fun hc hd => ?_) | refine iteP_intro (fun hc => ?_) (fun hc => ?_))
    all_goals first | rfl | simp
  refine ret_of (callR_of (hX _ rfl) Try.func13 rfl (by kernel_rfl) (Nat.le_of_ble_eq_true rfl) ?_)
  (repeat' first | simp -dsimp (disch := first | omega | assumption | (refine OkS.sto ?_ (by omega); first | assumption | (refine OkS.sto ?_ (by omega); first | assumption | (refine OkS.sto ?_ (by omega); first | assumption | (refine OkS.sto ?_ (by omega); first | assumption | (refine OkS.sto ?_ (by omega); first | assumption | (refine OkS.sto ?_ (by omega); first | assumption)))))) | exact Pfx.refl _ | (apply Pfx.snoc; repeat (first | exact Pfx.refl _ | assumption | apply Pfx.snoc)) | with_unfolding_all exact of_eq_true (eq_true rfl) | (simp only [List.length_append, List.length_cons, List.length_nil]; omega)) only [↓wpre0, ↓wpre1, ↓reduceIte, Int.reduceToNat, Nat.reduceAdd, Nat.reduceMul, Nat.reduceEqDiff, wpost0, wpost1, wpost2, wpost3, wpost4, ite_self, ite_true, ite_false, if_true, if_false, fr13, wrap_int, wrap_u8, iteP_yes, iteP_no, key] | refine iteP_two (fun hc hd => ?_) (fun hc hd => ?_) | refine iteP_intro (fun hc => ?_) (fun hc => ?_))
end Go.Proofs.Ytkhipobafchilaa.Sim

/- The law FnSky. Lemmas only; no condition. -/
set_option linter.unusedSimpArgs false
set_option linter.unusedVariables false
set_option maxRecDepth 8000
namespace Go.Proofs.Ytkhipobafchilaa.Sim
open Go Go.RowKit Fl
variable {ro lo lo' hi hi' n : Nat} {X : Ext} {h : Heap} {x y : Value} {l : List Int} {f : Nat → CB} {u v : Int}
end Go.Proofs.Ytkhipobafchilaa.Sim
