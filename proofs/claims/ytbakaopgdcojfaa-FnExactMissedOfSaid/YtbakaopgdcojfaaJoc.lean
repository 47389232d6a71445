/- What jobsOf comes to: a contract shown in the model, for it uses a map. Lemmas only; no condition. -/
import Derived.Test.YtbakaopgdcojfaaJob
import Derived.Test.YtbakaopgdcojfaaArw
import Derived.Test.YtbakaopgdcojfaaSimU
import Derived.Test.YtbakaopgdcojfaaAcc
import Derived.Maps.OwnOps
set_option linter.unusedSimpArgs false
set_option linter.unusedVariables false
set_option maxRecDepth 8000
namespace Go.Proofs.Ytbakaopgdcojfaa.Sim
open Go Go.RowKit Go.Maps
variable {ro B : Nat}
/-- How many of the first 'i' keys are 'k'. -/
def cntK (ks : List Int) (i : Nat) (k : Int) : Nat := (ks.take i).count k
theorem cntK_zero (ks : List Int) (k : Int) : cntK ks 0 k = 0 := by simp [cntK]
theorem cntK_succ {ks : List Int} {i : Nat} (hi : i < ks.length) (k : Int) : cntK ks (i + 1) k = cntK ks i k + (if ks[i] = k then 1 else 0) := by
  unfold cntK
  rw [List.take_succ_eq_append_getElem hi, List.count_append, List.count_singleton]
  simp only [beq_iff_eq]
theorem cntK_le (ks : List Int) (i : Nat) (k : Int) : cntK ks i k ≤ i := by
  unfold cntK
  exact Nat.le_trans List.count_le_length (by simp; omega)
/-- The numbers of the jobs. -/
def jobsL (ks : List Int) (i : Nat) : List Int := (List.range i).map fun j => ((cntK ks j (ks.getD j 0) : Nat) : Int)
theorem jobsL_succ (ks : List Int) (i : Nat) : jobsL ks (i + 1) = jobsL ks i ++ [((cntK ks i (ks.getD i 0) : Nat) : Int)] := by simp [jobsL, List.range_succ]
theorem jobsL_len (ks : List Int) (i : Nat) : (jobsL ks i).length = i := by simp [jobsL]
theorem jobsL_zero (ks : List Int) : jobsL ks 0 = [] := by simp [jobsL]
theorem jobsL_nth {ks : List Int} {i j : Nat} (hj : j < i) : nth (jobsL ks i) j = ((cntK ks j (nth ks j) : Nat) : Int) := by
  simp [nth, jobsL, hj]
theorem keysI : Keyed Try.prog 2 := int_keyed Try.underlying2
theorem mapU : Try.prog.underlying 142 = some (.map 2 2) := by kernel_rfl
theorem zeroI (w : World) : (zeroValue 2).run Try.prog w = .ok (.int .i64 0) w := by kernel_rfl
/-- What a map of counts reads as. -/
def MapC {H : Type} (D : DataW H) (ks : List Int) (i : Nat) : Prop := IsMap D ∧ ∀ k : Int, r64 k → D.atKey (.int .i64 k) (.lit (.int .i64 0)) = .lit (.int .i64 (cntK ks i k))
theorem MapC.zero {H : Type} (ks : List Int) : MapC (.map [] : DataW H) ks 0 := ⟨isMap_empty, fun k _ => by rw [cntK_zero]; rfl⟩
theorem MapC.step {H : Type} {D : DataW H} {ks : List Int} {i : Nat} (h : MapC D ks i) (hi : i < ks.length) : MapC (D.put (.int .i64 ks[i]) (.lit (.int .i64 ((cntK ks i ks[i] : Nat) + 1)))) ks (i + 1) := by
  refine ⟨h.1.put _ _, fun k hr => ?_⟩
  rw [cntK_succ hi]
  by_cases q : ks[i] = k
  · rw [if_pos q, ← q, atKey_put_same h.1 (show WideAt.IsKeyLit (.int .i64 ks[i]) from trivial)]
    simp
  · rw [if_neg q, atKey_put_other (fun e => q (by simpa using e.symm)), h.2 k hr, Nat.add_zero]
/-- The keys of slots. -/
def keysL (n : Nat) (l : List Int) : List Int := (List.range n).map fun j => nth l (j * 2)
theorem keysL_len (n : Nat) (l : List Int) : (keysL n l).length = n := by simp [keysL]
theorem keysL_nth {n i : Nat} {l : List Int} (hi : i < n) : nth (keysL n l) i = nth l (i * 2) := by simp [nth, keysL, hi]
theorem keysL_get {n i : Nat} {l : List Int} (hi : i < (keysL n l).length) : (keysL n l)[i] = nth l (i * 2) := by simp [keysL]
theorem is_uniq {lo hi lo' hi' k n n' : Nat} {h : Heap} {x : Value} {l l' : List Int} (a : IS lo hi k h x n l) (b : IS lo' hi' k h x n' l') : n = n' ∧ l = l' := by
  obtain ⟨a1, a2⟩ := a
  obtain ⟨b1, b2⟩ := b
  rcases a2 with ⟨rfl, rfl⟩ | ⟨ab, ao, ac, aB, rfl, _, _, a3, _, a4⟩
  · rcases b2 with ⟨rfl, _⟩ | ⟨bb, bo, bc, bB, e, _⟩
    · rw [Nat.zero_mul] at a1 b1
      rw [List.length_eq_zero_iff.1 a1, List.length_eq_zero_iff.1 b1]
      exact ⟨rfl, rfl⟩
    · cases e
  · rcases b2 with ⟨_, e⟩ | ⟨bb, bo, bc, bB, e, _, _, b3, _, b4⟩
    · cases e
    · cases e
      rw [a3] at b3
      cases b3
      refine ⟨rfl, nth_ext (a1.trans b1.symm) fun j hj => ?_⟩
      have h1 := a4 j (by omega)
      rw [b4 j (by omega)] at h1
      simpa using h1.symm
def JobArg (ro : Nat) (h : Heap) (x : Value) (q : Nat × List Int) : Prop := IS 0 h.length 2 h x q.1 q.2 ∧ (∀ j, j < q.1 → r64 (nth q.2 (j * 2))) ∧ q.1 ≤ 1099511627776 ∧ ro ≤ h.length
open Classical in
noncomputable def jobsF (ro : Nat) (args : List Value) (h : Heap) : Option (Value × Heap) :=
  match args with
  | [x] => if hh : ∃ q, JobArg ro h x q then some (.slice (some ⟨h.length, 0, none⟩) hh.choose.1 (if hh.choose.1 = 0 then 0 else hh.choose.1 + 1), h ++ [⟨2, vints (jobsL (keysL hh.choose.1 hh.choose.2) hh.choose.1)⟩]) else none
  | _ => none
theorem jobsF_eq {h : Heap} {x : Value} {n : Nat} {l : List Int} (a : JobArg ro h x (n, l)) : jobsF ro [x] h = some (.slice (some ⟨h.length, 0, none⟩) n (if n = 0 then 0 else n + 1), h ++ [⟨2, vints (jobsL (keysL n l) n)⟩]) := by
  have hh : ∃ q, JobArg ro h x q := ⟨_, a⟩
  have hu := is_uniq hh.choose_spec.1 a.1
  simp only [jobsF, dif_pos hh]
  rw [hu.1, hu.2]
/-- The slice of the results: the empty literal, or one that an append has made. -/
def JY (lo bl t : Nat) (h : Heap) (y : Value) (n : Nat) (L : List Value) : Prop := (n = 0 ∧ L = [] ∧ y = .slice (some ⟨bl, 0, none⟩) 0 0 ∧ bl < lo ∧ h[bl]? = some ⟨t, []⟩) ∨ VG lo t 1 h y n L
theorem JY.frame {lo bl t n : Nat} {h h' : Heap} {y : Value} {L : List Value} (g : JY lo bl t h y n L) (hh : Pfx h h') : JY lo bl t h' y n L := by
  rcases g with ⟨rfl, rfl, rfl, h1, h2⟩ | g
  · exact .inl ⟨rfl, rfl, rfl, h1, by rw [hh.get (lt_of_some h2)]; exact h2⟩
  · exact .inr (g.pre hh)
theorem JY.bof {lo bl t n : Nat} {h : Heap} {y : Value} {L : List Value} (g : JY lo bl t h y n L) : bOf y < h.length := by
  rcases g with ⟨rfl, rfl, rfl, h1, h2⟩ | g
  · exact lt_of_some h2
  · exact g.bof.2
theorem accJ {P : Program} {lo bl n e T by_ : Nat} {h : Heap} {y z v : Value} {L : List Value} (he : elemT P T = some e) (hs : szT P e = some 1) (hb : byT P e = some by_) (hz : zeroT P e = some z) (g : JY lo bl e h y n L) (hro : ro ≤ lo) (hlo : lo ≤ h.length)
    (h1 : one v = true) (hn : (n + 1) * by_ ≤ 140737488355328) (hn' : n + 1 ≤ 4611686018427387904) :
    ∃ H, ablt P ro .append [T, T] [y, .slice (some ⟨h.length, 0, none⟩) 1 1] (h ++ [⟨e, [v]⟩]) = some (.slice (some ⟨h.length + 1, 0, none⟩) (n + 1) (n + 1 + 1), H) ∧ VG lo e 1 H (.slice (some ⟨h.length + 1, 0, none⟩) (n + 1) (n + 1 + 1)) (n + 1) (L ++ [v]) ∧
      (∀ h0, Pfx h0 h → h0.length ≤ lo → Pfx h0 H) ∧ (∀ b, b < h.length → b ≠ bOf y → H[b]? = h[b]?) ∧ H.length = h.length + 2 := by
  rcases g with ⟨rfl, rfl, rfl, h2, h3⟩ | g
  · have p1 := (Pfx.refl h).snoc (C := ⟨e, [v]⟩)
    have r1 : rowOf (h ++ [(⟨e, [v]⟩ : Blk)]) (.slice (some ⟨bl, 0, none⟩) 0 0) 1 = some [] := by
      simp only [rowOf, p1.get (lt_of_some h3), h3, Option.bind_some]
      simp
    have r2 : newsOf (h ++ [(⟨e, [v]⟩ : Blk)]) (.slice (some ⟨h.length, 0, none⟩) 1 1) 1 = some [v] := news_one (get_last rfl)
    refine ⟨h ++ [⟨e, [v]⟩] ++ [⟨e, [v]⟩], ?_, ⟨rfl, h.length + 1, _, rfl, by omega, by simp, by omega⟩, fun h0 hp _ => hp.snoc.snoc, fun b hb' _ => by rw [List.append_assoc, List.getElem?_append_left hb'], by simp⟩
    simp only [ablt, true_or, if_true, app, he, hs, hb, hz, Option.bind_some, r1, r2, lenV, Option.isSome_some, not_true_eq_false, or_false]
    rw [if_neg (by omega), if_neg (by omega), if_neg (by
      rw [Classical.not_not]
      exact ⟨by omega, by omega, by simp [h1], by simp⟩)]
    simp
  · obtain ⟨H, a1, a2, a3, a4⟩ := acc1 he hs hb hz (.inl g) hro hlo h1 hn hn'
    exact ⟨H, a1, a2, a3.1, fun b hb' hne => a3.2.1 b hb' (.inr hne), a4⟩
end Go.Proofs.Ytbakaopgdcojfaa.Sim
