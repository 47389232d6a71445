/- A source of draws: what one draw comes to. Lemmas only; no condition. -/
import Derived.Test.YteignhphimfmkaaAcc
import Derived.Test.YteignhphimfmkaaSimU
set_option linter.unusedSimpArgs false
set_option linter.unusedVariables false
set_option maxRecDepth 8000
namespace Go.Proofs.Yteignhphimfmkaa.Sim
open Go Go.RowKit
variable {ro : Nat} {X : Ext}
/-- Nothing is known from outside of functions that have a body, but of these. -/
def Plain (X : Ext) (l : List Nat) : Prop := ∀ f, (noBody.contains f || l.contains f) = false → X f = none
/-- A source in block 'b' over bytes. -/
def SRC (lo hi b A : Nat) (x : Value) (cd : List UInt8) (h : Heap) : Prop :=
  ∃ (k : Nat) (sd : Int), h[b]? = some ⟨68, [x, .int .i64 k, .int .u64 sd]⟩ ∧ k ≤ A ∧ VS lo hi 1 h x cd.length (cd.map u8v)
theorem SRC.more {lo hi b A A' : Nat} {x : Value} {cd : List UInt8} {h : Heap} (s : SRC lo hi b A x cd h) (hA : A ≤ A') : SRC lo hi b A' x cd h := by
  obtain ⟨k, sd, h1, h2, h3⟩ := s
  exact ⟨k, sd, h1, by omega, h3⟩
theorem SRC.frame {lo hi b A : Nat} {x : Value} {cd : List UInt8} {h h' : Heap} (s : SRC lo hi b A x cd h) (hb : h'[b]? = h[b]?) (hh : ∀ j, lo ≤ j → j < hi → h'[j]? = h[j]?) : SRC lo hi b A x cd h' := by
  obtain ⟨k, sd, h1, h2, h3⟩ := s
  exact ⟨k, sd, by rw [hb]; exact h1, h2, h3.frame hh⟩
theorem SRC.pre {lo hi b A : Nat} {x : Value} {cd : List UInt8} {h h' : Heap} (s : SRC lo hi b A x cd h) (p : Pfx h h') : SRC lo hi b A x cd h' := by
  obtain ⟨k, sd, h1, h2, h3⟩ := s
  exact ⟨k, sd, by rw [p.get (List.getElem?_eq_some_iff.1 h1).1]; exact h1, h2, h3.pre p⟩
theorem SRC.lt {lo hi b A : Nat} {x : Value} {cd : List UInt8} {h : Heap} (s : SRC lo hi b A x cd h) : b < h.length := by
  obtain ⟨k, sd, h1, h2, h3⟩ := s
  exact (List.getElem?_eq_some_iff.1 h1).1
theorem and255 {t : TypeId} {k : IntKind} {a : Int} (h0 : 0 ≤ a) (h1 : a < 18446744073709551616) : abin Try.prog .and t (.int .u64 a) (.int .u64 255) = some (.int .u64 (a % 256)) := by
  rw [bin_and]
  obtain ⟨m, rfl⟩ : ∃ m : Nat, a = m := ⟨a.toNat, by omega⟩
  have e : (BitVec.ofInt IntKind.u64.bits (m : Int) &&& BitVec.ofInt IntKind.u64.bits (255 : Int)).toNat = m % 256 := by
    show (BitVec.ofInt 64 (m : Int) &&& BitVec.ofInt 64 ((255 : Nat) : Int)).toNat = m % 256
    rw [BitVec.toNat_and, bv_nat _ (by omega), bv_nat _ (by omega)]
    exact Nat.and_two_pow_sub_one_eq_mod m 8
  rw [e]
  have e2 : IntKind.u64.wrap ((m % 256 : Nat) : Int) = (m : Int) % 256 := by rw [wrap_u64 (by omega) (by omega)]; omega
  rw [e2]
theorem shr40 {t : TypeId} {a : Int} : abin Try.prog .shr t (.int .u64 a) (.int .u64 40) = some (.int .u64 (a / 1099511627776)) := by
  rw [bin_shr t .u64 a 40 .u64 (by omega)]
  have : (2 : Int) ^ (min (40 : Int).toNat IntKind.u64.bits) = 1099511627776 := by rfl
  rw [this, Int.fdiv_eq_ediv_of_nonneg _ (by omega)]
theorem wrapu_range (n : Int) : 0 ≤ IntKind.u64.wrap n ∧ IntKind.u64.wrap n < 18446744073709551616 := by
  simp only [IntKind.wrap, IntKind.bits, IntKind.signed, Bool.false_and, Bool.false_eq_true, if_false]
  omega
theorem and40 {t : TypeId} (n : Int) : abin Try.prog .and t (.int .u64 (IntKind.u64.wrap n / 1099511627776)) (.int .u64 255) = some (.int .u64 (IntKind.u64.wrap n / 1099511627776 % 256)) := by
  have := wrapu_range n
  exact and255 (k := .u64) (by omega) (by omega)
theorem only_set {h : Heap} {b : Nat} {C : Blk} : Only b h (h.set b C) := ⟨by simp, fun j hj => by rw [List.getElem?_set_ne (fun e => hj e.symm)]⟩
set_option maxHeartbeats 2000000 in
theorem next_c (hX : X 40 = none) {lo hi b A : Nat} {x : Value} {cd : List UInt8} {h : Heap} (hS : SRC lo hi b A x cd h) (hro : ro ≤ b) (hd : hi ≤ b) (hA : A ≤ 1152921504606846976) (hl : cd.length ≤ 1099511627776) :
    CallR Try.prog ro X 40 [.pointer (some ⟨b, 0, none⟩)] h (fun r h' => ∃ v : Nat, r = .int .i64 v ∧ v ≤ 255 ∧ SRC lo hi b (A + 1) x cd h' ∧ Only b h h') := by
  obtain ⟨k, sd, hb, hk, hV⟩ := hS
  refine callR_of hX Try.func40 rfl (by kernel_rfl) (Nat.le_of_ble_eq_true rfl) ?_
  have c0 : cell h b 0 = some x := cellb hb
  have c1 : cell h b 1 = some (.int .i64 k) := cellb hb
  have hbl := (List.getElem?_eq_some_iff.1 hb).1
  have P1 : put ro h b 1 1 (.int .i64 ((k : Int) + 1)) = some (h.set b ⟨68, [x, .int .i64 ((k : Int) + 1), .int .u64 sd]⟩) := putb (n := 1) (o := 1) (v := .int .i64 ((k : Int) + 1)) hb hro rfl (by simp) rfl
  have b1 : (h.set b ⟨68, [x, .int .i64 ((k : Int) + 1), .int .u64 sd]⟩)[b]? = some ⟨68, [x, .int .i64 ((k : Int) + 1), .int .u64 sd]⟩ := List.getElem?_set_self hbl
  have c2 : cell (h.set b ⟨68, [x, .int .i64 ((k : Int) + 1), .int .u64 sd]⟩) b 2 = some (.int .u64 sd) := cellb b1
  have P2 : ∀ s2, put ro (h.set b ⟨68, [x, .int .i64 ((k : Int) + 1), .int .u64 sd]⟩) b 2 1 (.int .u64 s2) = some (h.set b ⟨68, [x, .int .i64 ((k : Int) + 1), .int .u64 s2]⟩) := fun s2 => by
    rw [putb (n := 1) (o := 2) (v := .int .u64 s2) b1 hro rfl (by simp) rfl, List.set_set]
    rfl
  have d0 : ∀ s2, cell (h.set b ⟨68, [x, .int .i64 ((k : Int) + 1), .int .u64 s2]⟩) b 0 = some x := fun s2 => cellb (List.getElem?_set_self hbl)
  have d1 : ∀ s2, cell (h.set b ⟨68, [x, .int .i64 ((k : Int) + 1), .int .u64 s2]⟩) b 1 = some (.int .i64 ((k : Int) + 1)) := fun s2 => cellb (List.getElem?_set_self hbl)
  have d2 : ∀ s2, cell (h.set b ⟨68, [x, .int .i64 ((k : Int) + 1), .int .u64 s2]⟩) b 2 = some (.int .u64 s2) := fun s2 => cellb (List.getElem?_set_self hbl)
  have fin : ∀ s2, SRC lo hi b (A + 1) x cd (h.set b ⟨68, [x, .int .i64 ((k : Int) + 1), .int .u64 s2]⟩) := fun s2 => ⟨k + 1, s2, by rw [List.getElem?_set_self hbl]; rfl, by omega, hV.frame fun j _ hj => by rw [List.getElem?_set_ne (by omega)]⟩
  have el : ∀ v s2, endH v h (h.set b ⟨68, [x, .int .i64 ((k : Int) + 1), .int .u64 s2]⟩) = h.set b ⟨68, [x, .int .i64 ((k : Int) + 1), .int .u64 s2]⟩ := fun v s2 => endH_len (by simp)
  by_cases hin : k < cd.length
  · have hld : ld Try.prog h 5 (ea x (k * 1)) = some (u8v (cd[k]'hin)) := by
      rw [hV.ld1 tsz5 tag5 (by omega), Nat.mul_one]
      simp [vth, List.getD_eq_getElem?_getD, hin]
    have hb255 : (cd[k]'hin).toNat ≤ 255 := by have := (cd[k]'hin).toNat_lt; omega
    simp only [u8v] at hld
    (repeat' first | simp -dsimp (disch := first | omega | assumption | (refine OkS.sto ?_ (by omega); first | assumption | (refine OkS.sto ?_ (by omega); first | assumption | (refine OkS.sto ?_ (by omega); first | assumption | (refine OkS.sto ?_ (by omega); first | assumption | (refine OkS.sto ?_ (by omega); first | assumption | (refine OkS.sto ?_ (by omega); first | assumption)))))) | exact Pfx.refl _ | (apply Pfx.snoc; repeat (first | exact Pfx.refl _ | assumption | apply Pfx.snoc)) | with_unfolding_all exact of_eq_true (eq_true rfl) | (simp only [List.length_append, List.length_cons, List.length_nil]; omega)) only [↓wpre0, ↓wpre1, ↓reduceIte, Int.reduceToNat, Nat.reduceAdd, Nat.reduceMul, Nat.reduceEqDiff, wpost0, wpost1, wpost2, wpost3, wpost4, ite_self, ite_true, ite_false, if_true, if_false, nilV_ptr, xfad68_1, xld3, xfad68_0, xld22, xlen22, bin_lss, xiad22, xld5, xcv5_3, bin_add, xst3, xfad68_2, xld66, bin_mul, xcv3_66, xst66, bin_leq, xcv66_2, fr40, wrap_int, wrap_u8, iteP_yes, iteP_no, c0, c1, hV.len Try.underlying22, hV.iad Try.underlying22 tsz5, Int.toNat_natCast, hld, P1, c2, P2, d0, d1, d2, el] | refine iteP_two (fun hc hd => ?_) (fun hc hd => ?_) | refine iteP_intro (fun hc => ?_) (fun hc => ?_))
    exact ⟨_, rfl, hb255, fin _, only_set⟩
  · (repeat' first | simp -dsimp (disch := first | omega | assumption | (refine OkS.sto ?_ (by omega); first | assumption | (refine OkS.sto ?_ (by omega); first | assumption | (refine OkS.sto ?_ (by omega); first | assumption | (refine OkS.sto ?_ (by omega); first | assumption | (refine OkS.sto ?_ (by omega); first | assumption | (refine OkS.sto ?_ (by omega); first | assumption)))))) | exact Pfx.refl _ | (apply Pfx.snoc; repeat (first | exact Pfx.refl _ | assumption | apply Pfx.snoc)) | with_unfolding_all exact of_eq_true (eq_true rfl) | (simp only [List.length_append, List.length_cons, List.length_nil]; omega)) only [↓wpre0, ↓wpre1, ↓reduceIte, Int.reduceToNat, Nat.reduceAdd, Nat.reduceMul, Nat.reduceEqDiff, wpost0, wpost1, wpost2, wpost3, wpost4, ite_self, ite_true, ite_false, if_true, if_false, nilV_ptr, xfad68_1, xld3, xfad68_0, xld22, xlen22, bin_lss, xiad22, xld5, xcv5_3, bin_add, xst3, xfad68_2, xld66, bin_mul, xcv3_66, xst66, bin_leq, xcv66_2, fr40, wrap_int, wrap_u8, iteP_yes, iteP_no, c0, c1, hV.len Try.underlying22, Int.toNat_natCast, P1, c2, P2, d0, d1, d2, shr40, and40, el] | refine iteP_two (fun hc hd => ?_) (fun hc hd => ?_) | refine iteP_intro (fun hc => ?_) (fun hc => ?_))
    obtain ⟨v, hv⟩ : ∃ v : Nat, IntKind.u64.wrap (IntKind.u64.wrap (IntKind.u64.wrap (sd * 6364136223846793005) + IntKind.u64.wrap 0) + 1442695040888963407) / 1099511627776 % 256 = v := ⟨_, (Int.toNat_of_nonneg (by omega)).symm⟩
    refine ⟨v, by rw [hv], by omega, fin _, only_set⟩
theorem Only.trans' {b : Nat} {h h1 h2 : Heap} (a : Only b h h1) (c : Only b h1 h2) : Only b h h2 := ⟨c.1.trans a.1, fun j hj => (c.2 j hj).trans (a.2 j hj)⟩
set_option maxHeartbeats 1000000 in
theorem pick_c (hX : X 40 = none) (hP : X 29 = none) {lo hi b A : Nat} {x : Value} {cd : List UInt8} {h : Heap} {n : Int} (hS : SRC lo hi b A x cd h) (hro : ro ≤ b) (hd : hi ≤ b) (hA : A ≤ 1152921504606846970) (hl : cd.length ≤ 1099511627776) (hn : n ≤ 1099511627776) :
    CallR Try.prog ro X 29 [.pointer (some ⟨b, 0, none⟩), .int .i64 n] h (fun r h' => ∃ v : Nat, r = .int .i64 v ∧ (n ≤ 1 → v = 0) ∧ (1 ≤ n → (v : Int) < n) ∧ SRC lo hi b (A + 2) x cd h' ∧ Only b h h') := by
  refine callR_of hP Try.func29 rfl (by kernel_rfl) (Nat.le_of_ble_eq_true rfl) ?_
  by_cases h1 : n ≤ 1
  · (repeat' first | simp -dsimp (disch := first | omega | assumption | (refine OkS.sto ?_ (by omega); first | assumption | (refine OkS.sto ?_ (by omega); first | assumption | (refine OkS.sto ?_ (by omega); first | assumption | (refine OkS.sto ?_ (by omega); first | assumption | (refine OkS.sto ?_ (by omega); first | assumption | (refine OkS.sto ?_ (by omega); first | assumption)))))) | exact Pfx.refl _ | (apply Pfx.snoc; repeat (first | exact Pfx.refl _ | assumption | apply Pfx.snoc)) | with_unfolding_all exact of_eq_true (eq_true rfl) | (simp only [List.length_append, List.length_cons, List.length_nil]; omega)) only [↓wpre0, ↓wpre1, ↓reduceIte, Int.reduceToNat, Nat.reduceAdd, Nat.reduceMul, Nat.reduceEqDiff, wpost0, wpost1, wpost2, wpost3, wpost4, ite_self, ite_true, ite_false, if_true, if_false, bin_leq, bin_gtr, bin_mul, bin_add, bin_rem, fr29, wrap_int, wrap_u8, iteP_yes, iteP_no] | refine iteP_two (fun hc hd => ?_) (fun hc hd => ?_) | refine iteP_intro (fun hc => ?_) (fun hc => ?_))
    exact ⟨0, rfl, fun _ => rfl, fun _ => by omega, hS.more (by omega), .refl _ _⟩
  · (repeat' first | simp -dsimp (disch := first | omega | assumption | (refine OkS.sto ?_ (by omega); first | assumption | (refine OkS.sto ?_ (by omega); first | assumption | (refine OkS.sto ?_ (by omega); first | assumption | (refine OkS.sto ?_ (by omega); first | assumption | (refine OkS.sto ?_ (by omega); first | assumption | (refine OkS.sto ?_ (by omega); first | assumption)))))) | exact Pfx.refl _ | (apply Pfx.snoc; repeat (first | exact Pfx.refl _ | assumption | apply Pfx.snoc)) | with_unfolding_all exact of_eq_true (eq_true rfl) | (simp only [List.length_append, List.length_cons, List.length_nil]; omega)) only [↓wpre0, ↓wpre1, ↓reduceIte, Int.reduceToNat, Nat.reduceAdd, Nat.reduceMul, Nat.reduceEqDiff, wpost0, wpost1, wpost2, wpost3, wpost4, ite_self, ite_true, ite_false, if_true, if_false, bin_leq, bin_gtr, bin_mul, bin_add, bin_rem, fr29, wrap_int, wrap_u8, iteP_yes, iteP_no] | refine iteP_two (fun hc hd => ?_) (fun hc hd => ?_) | refine iteP_intro (fun hc => ?_) (fun hc => ?_))
    refine cf_rel (next_c hX hS hro hd (by omega) hl) (fun q => by cases q) ?_
    rintro r H1 ⟨v, rfl, hv, S1, o1⟩
    have q1 : endH (.int .i64 0) h H1 = H1 := endH_len o1.1
    have ef : ∀ u, endH (.int .i64 u) h H1 = H1 := fun u => endH_len o1.1
    by_cases h2 : n ≤ 200
    · have hm : ((v : Int).tmod n) = ((v % n.toNat : Nat) : Int) := by
        rw [Int.tmod_eq_emod_of_nonneg (by omega)]
        conv => lhs; rw [show n = (n.toNat : Int) by omega]
        rfl
      have hlt : v % n.toNat < n.toNat := Nat.mod_lt _ (by omega)
      (repeat' first | simp -dsimp (disch := first | omega | assumption | (refine OkS.sto ?_ (by omega); first | assumption | (refine OkS.sto ?_ (by omega); first | assumption | (refine OkS.sto ?_ (by omega); first | assumption | (refine OkS.sto ?_ (by omega); first | assumption | (refine OkS.sto ?_ (by omega); first | assumption | (refine OkS.sto ?_ (by omega); first | assumption)))))) | exact Pfx.refl _ | (apply Pfx.snoc; repeat (first | exact Pfx.refl _ | assumption | apply Pfx.snoc)) | with_unfolding_all exact of_eq_true (eq_true rfl) | (simp only [List.length_append, List.length_cons, List.length_nil]; omega)) only [↓wpre0, ↓wpre1, ↓reduceIte, Int.reduceToNat, Nat.reduceAdd, Nat.reduceMul, Nat.reduceEqDiff, wpost0, wpost1, wpost2, wpost3, wpost4, ite_self, ite_true, ite_false, if_true, if_false, bin_leq, bin_gtr, bin_mul, bin_add, bin_rem, fr29, wrap_int, wrap_u8, iteP_yes, iteP_no, bin_rem, hm, ef] | refine iteP_two (fun hc hd => ?_) (fun hc hd => ?_) | refine iteP_intro (fun hc => ?_) (fun hc => ?_))
      exact ⟨_, rfl, fun _ => by omega, fun _ => by omega, S1.more (by omega), o1⟩
    · (repeat' first | simp -dsimp (disch := first | omega | assumption | (refine OkS.sto ?_ (by omega); first | assumption | (refine OkS.sto ?_ (by omega); first | assumption | (refine OkS.sto ?_ (by omega); first | assumption | (refine OkS.sto ?_ (by omega); first | assumption | (refine OkS.sto ?_ (by omega); first | assumption | (refine OkS.sto ?_ (by omega); first | assumption)))))) | exact Pfx.refl _ | (apply Pfx.snoc; repeat (first | exact Pfx.refl _ | assumption | apply Pfx.snoc)) | with_unfolding_all exact of_eq_true (eq_true rfl) | (simp only [List.length_append, List.length_cons, List.length_nil]; omega)) only [↓wpre0, ↓wpre1, ↓reduceIte, Int.reduceToNat, Nat.reduceAdd, Nat.reduceMul, Nat.reduceEqDiff, wpost0, wpost1, wpost2, wpost3, wpost4, ite_self, ite_true, ite_false, if_true, if_false, bin_leq, bin_gtr, bin_mul, bin_add, bin_rem, fr29, wrap_int, wrap_u8, iteP_yes, iteP_no] | refine iteP_two (fun hc hd => ?_) (fun hc hd => ?_) | refine iteP_intro (fun hc => ?_) (fun hc => ?_))
      refine cf_rel (next_c hX S1 hro hd (by omega) hl) (fun q => by cases q) ?_
      rintro r H2 ⟨v2, rfl, hv2, S2, o2⟩
      have o3 := Only.trans' o1 o2
      have ef : ∀ u, endH (.int .i64 u) h H2 = H2 := fun u => endH_len o3.1
      have hm : (((v : Int) * 256 + (v2 : Int)).tmod n) = (((v * 256 + v2) % n.toNat : Nat) : Int) := by
        rw [Int.tmod_eq_emod_of_nonneg (by omega)]
        conv => lhs; rw [show n = (n.toNat : Int) by omega]
        rfl
      have hlt : (v * 256 + v2) % n.toNat < n.toNat := Nat.mod_lt _ (by omega)
      (repeat' first | simp -dsimp (disch := first | omega | assumption | (refine OkS.sto ?_ (by omega); first | assumption | (refine OkS.sto ?_ (by omega); first | assumption | (refine OkS.sto ?_ (by omega); first | assumption | (refine OkS.sto ?_ (by omega); first | assumption | (refine OkS.sto ?_ (by omega); first | assumption | (refine OkS.sto ?_ (by omega); first | assumption)))))) | exact Pfx.refl _ | (apply Pfx.snoc; repeat (first | exact Pfx.refl _ | assumption | apply Pfx.snoc)) | with_unfolding_all exact of_eq_true (eq_true rfl) | (simp only [List.length_append, List.length_cons, List.length_nil]; omega)) only [↓wpre0, ↓wpre1, ↓reduceIte, Int.reduceToNat, Nat.reduceAdd, Nat.reduceMul, Nat.reduceEqDiff, wpost0, wpost1, wpost2, wpost3, wpost4, ite_self, ite_true, ite_false, if_true, if_false, bin_leq, bin_gtr, bin_mul, bin_add, bin_rem, fr29, wrap_int, wrap_u8, iteP_yes, iteP_no, bin_rem, hm, ef] | refine iteP_two (fun hc hd => ?_) (fun hc hd => ?_) | refine iteP_intro (fun hc => ?_) (fun hc => ?_))
      exact ⟨_, rfl, fun _ => by omega, fun _ => by omega, S2, o3⟩
theorem one_c (hX : X 40 = none) (hP : X 29 = none) (hO : X 42 = none) {lo hi b A : Nat} {x : Value} {cd : List UInt8} {h : Heap} {n : Int} (hS : SRC lo hi b A x cd h) (hro : ro ≤ b) (hd : hi ≤ b) (hA : A ≤ 1152921504606846970) (hl : cd.length ≤ 1099511627776) (hn : n ≤ 1099511627776) :
    CallR Try.prog ro X 42 [.pointer (some ⟨b, 0, none⟩), .int .i64 n] h (fun r h' => ∃ v : Bool, r = .bool v ∧ SRC lo hi b (A + 2) x cd h' ∧ Only b h h') := by
  refine callR_of hO Try.func42 rfl (by kernel_rfl) (Nat.le_of_ble_eq_true rfl) ?_
  (repeat' first | simp -dsimp (disch := first | omega | assumption | (refine OkS.sto ?_ (by omega); first | assumption | (refine OkS.sto ?_ (by omega); first | assumption | (refine OkS.sto ?_ (by omega); first | assumption | (refine OkS.sto ?_ (by omega); first | assumption | (refine OkS.sto ?_ (by omega); first | assumption | (refine OkS.sto ?_ (by omega); first | assumption)))))) | exact Pfx.refl _ | (apply Pfx.snoc; repeat (first | exact Pfx.refl _ | assumption | apply Pfx.snoc)) | with_unfolding_all exact of_eq_true (eq_true rfl) | (simp only [List.length_append, List.length_cons, List.length_nil]; omega)) only [↓wpre0, ↓wpre1, ↓reduceIte, Int.reduceToNat, Nat.reduceAdd, Nat.reduceMul, Nat.reduceEqDiff, wpost0, wpost1, wpost2, wpost3, wpost4, ite_self, ite_true, ite_false, if_true, if_false, bin_eql, fr42, wrap_int, wrap_u8, iteP_yes, iteP_no] | refine iteP_two (fun hc hd => ?_) (fun hc hd => ?_) | refine iteP_intro (fun hc => ?_) (fun hc => ?_))
  refine cf_rel (pick_c hX hP hS hro hd hA hl hn) (fun q => by cases q) ?_
  rintro r H1 ⟨v, rfl, _, _, S1, o1⟩
  have ef : ∀ u, endH (.bool u) h H1 = H1 := fun u => endH_len o1.1
  (repeat' first | simp -dsimp (disch := first | omega | assumption | (refine OkS.sto ?_ (by omega); first | assumption | (refine OkS.sto ?_ (by omega); first | assumption | (refine OkS.sto ?_ (by omega); first | assumption | (refine OkS.sto ?_ (by omega); first | assumption | (refine OkS.sto ?_ (by omega); first | assumption | (refine OkS.sto ?_ (by omega); first | assumption)))))) | exact Pfx.refl _ | (apply Pfx.snoc; repeat (first | exact Pfx.refl _ | assumption | apply Pfx.snoc)) | with_unfolding_all exact of_eq_true (eq_true rfl) | (simp only [List.length_append, List.length_cons, List.length_nil]; omega)) only [↓wpre0, ↓wpre1, ↓reduceIte, Int.reduceToNat, Nat.reduceAdd, Nat.reduceMul, Nat.reduceEqDiff, wpost0, wpost1, wpost2, wpost3, wpost4, ite_self, ite_true, ite_false, if_true, if_false, bin_eql, fr42, wrap_int, wrap_u8, iteP_yes, iteP_no, ef] | refine iteP_two (fun hc hd => ?_) (fun hc hd => ?_) | refine iteP_intro (fun hc => ?_) (fun hc => ?_))
  exact ⟨_, rfl, S1, o1⟩
theorem From_c (hX : X 16 = none) {lo hi n : Nat} {x : Value} {cd : List UInt8} {h : Heap} (hV : VS lo hi 1 h x n (cd.map u8v)) (hro : ro ≤ h.length) :
    CallR Try.prog ro X 16 [x] h (fun r h' => r = .pointer (some ⟨h.length, 0, none⟩) ∧ Pfx h h' ∧ h'.length = h.length + 1 ∧ SRC lo hi h.length 0 x cd h') := by
  refine callR_of hX Try.func16 rfl (by kernel_rfl) (Nat.le_of_ble_eq_true rfl) ?_
  have sh := hV.shape
  have hc := sh.2.1
  have hb : boxV h 68 (.agg ⟨[x, .int .i64 0, .int .u64 0]⟩) = some (.pointer (some ⟨h.length, 0, none⟩), h ++ [⟨68, [x, .int .i64 0, .int .u64 0]⟩]) := box_go (by
    show (one x && (one (.int .i64 0) && (one (.int .u64 0) && true))) = true
    rw [sh.2.2]
    rfl)
  have hnf : ∀ a, Sim.flat (.pointer a) = false := fun a => rfl
  (repeat' first | simp -dsimp (disch := first | omega | assumption | (refine OkS.sto ?_ (by omega); first | assumption | (refine OkS.sto ?_ (by omega); first | assumption | (refine OkS.sto ?_ (by omega); first | assumption | (refine OkS.sto ?_ (by omega); first | assumption | (refine OkS.sto ?_ (by omega); first | assumption | (refine OkS.sto ?_ (by omega); first | assumption)))))) | exact Pfx.refl _ | (apply Pfx.snoc; repeat (first | exact Pfx.refl _ | assumption | apply Pfx.snoc)) | with_unfolding_all exact of_eq_true (eq_true rfl) | (simp only [List.length_append, List.length_cons, List.length_nil]; omega)) only [↓wpre0, ↓wpre1, ↓reduceIte, Int.reduceToNat, Nat.reduceAdd, Nat.reduceMul, Nat.reduceEqDiff, wpost0, wpost1, wpost2, wpost3, wpost4, ite_self, ite_true, ite_false, if_true, if_false, xbld68_0, fr16, wrap_int, wrap_u8, iteP_yes, iteP_no, hb, endH_not (hnf _)] | refine iteP_two (fun hc hd => ?_) (fun hc hd => ?_) | refine iteP_intro (fun hc => ?_) (fun hc => ?_))
  refine ⟨(Pfx.refl h).snoc, by simp, ⟨0, 0, get_last rfl, Nat.le_refl _, ?_⟩⟩
  have hn : n = cd.length := by have := hV.1; simp at this; omega
  rw [← hn]
  exact hV.pre (Pfx.refl h).snoc
end Go.Proofs.Yteignhphimfmkaa.Sim
