
/- RecoverRecord and LoadRecord: results, and what the functions that compare, mark and hold records come to. Lemmas only; no condition. -/
import Derived.Test.YteignhphimfmkaaRcj
set_option linter.unusedSimpArgs false
set_option linter.unusedVariables false
set_option maxRecDepth 8000
namespace Go.Proofs.Yteignhphimfmkaa.Sim
open Go Go.RowKit
variable {ro : Nat} {X : Ext}
section fr
variable {lo n m : Nat} {h : Heap} {x : Value} {L : List Value} {ix : Nat → Int} {zs : Nat → List Value}
theorem FrS.mv {lo' : Nat} {h4 : Heap} (g : FrS lo h x n m L ix zs) (hh : ∀ b, lo ≤ b → b < h.length → h4[b]? = h[b]?) (hl : h.length ≤ h4.length) (hlo : lo' ≤ lo) : FrS lo' h4 x n m L ix zs := by
  refine ⟨?_, (g.2.frame fun b h1 h2 _ => hh b h1 h2).wide hlo hl⟩
  rcases g.1 with v | v
  · exact .inl ((v.frame (hh _ v.bof.1 v.bof.2)).low hlo)
  · exact .inr v
/-- A record's frames, in blocks of a range. -/
def FrV (lo hi : Nat) (h : Heap) (x : Value) (n m : Nat) (L : List Value) (ix : Nat → Int) (zs : Nat → List Value) : Prop := VS lo hi 2 h x m L ∧ NF lo hi h (bOf x) n m L ix zs
theorem FrS.v (g : FrS lo h x n m L ix zs) : FrV lo h.length h x n m L ix zs := ⟨g.1.vs, g.2⟩
theorem FrV.frame {hi : Nat} {h' : Heap} (g : FrV lo hi h x n m L ix zs) (hh : ∀ b, lo ≤ b → b < hi → h'[b]? = h[b]?) : FrV lo hi h' x n m L ix zs := ⟨g.1.frame hh, g.2.frame fun b h1 h2 _ => hh b h1 h2⟩
theorem FrV.pre {hi : Nat} {h' : Heap} (g : FrV lo hi h x n m L ix zs) (p : Pfx h h') : FrV lo hi h' x n m L ix zs := ⟨g.1.pre p, g.2.pre p⟩
end fr
/-- How many numbers a frame has, of bytes that begin as they should. -/
def nN (l : List UInt8) : Nat := if hdrOk l then elN l else 0
theorem nN_le (l : List UInt8) : nN l ≤ 16 := by
  unfold nN
  split
  · exact (hdrOk_n (by assumption)).2.2.1
  · omega
/-- What is told by RecoverRecord, as data. -/
def RcT (l : List UInt8) (E K : Int) (ok : Bool) (m : Nat) : Prop := (hdrOk l = false ∧ E = 0 ∧ K = 0 ∧ ok = false ∧ m = 0) ∨ (hdrOk l = true ∧ Cnt l m ∧ E = elN l ∧ K = posN l m ∧ ok = true)
theorem RcT.uniq {l : List UInt8} {E K E' K' : Int} {ok ok' : Bool} {m m' : Nat} (a : RcT l E K ok m) (b : RcT l E' K' ok' m') : E = E' ∧ K = K' ∧ ok = ok' ∧ m = m' := by
  rcases a with ⟨a1, rfl, rfl, rfl, rfl⟩ | ⟨a1, a2, rfl, rfl, rfl⟩ <;> rcases b with ⟨b1, rfl, rfl, rfl, rfl⟩ | ⟨b1, b2, rfl, rfl, rfl⟩
  · exact ⟨rfl, rfl, rfl, rfl⟩
  · rw [a1] at b1; cases b1
  · rw [a1] at b1; cases b1
  · obtain rfl := a2.uniq b2; exact ⟨rfl, rfl, rfl, rfl⟩
theorem RcR.out {l : List UInt8} {h h' : Heap} {r : Value} (p : RcR l h h' r) : Pfx h h' ∧ ∃ E K ok m x L, r = .tuple ⟨[.agg ⟨[.int .i64 E, x]⟩, .int .i64 K, .bool ok]⟩ ∧ RcT l E K ok m ∧ m ≤ 64 ∧ FrV h.length h'.length h' x (nN l) m L (ixN l) (zsN l) := by
  obtain ⟨p1, ⟨p2, rfl⟩ | ⟨p2, m, x, L, p3, rfl, p4⟩⟩ := p
  · exact ⟨p1, 0, 0, false, 0, .slice none 0 0, [], rfl, .inl ⟨p2, rfl, rfl, rfl, rfl⟩, by omega, ⟨by simp, .inl ⟨rfl, rfl⟩⟩, NF.nil⟩
  · refine ⟨p1, _, _, _, m, x, L, rfl, .inr ⟨p2, p3, rfl, rfl, rfl⟩, p3.1, ?_⟩
    rw [show nN l = elN l by unfold nN; rw [if_pos p2]]
    exact p4.v
/-- What LoadRecord returns. -/
def ldBad (l : List UInt8) : Prop := hdrOk l = false ∨ ∃ m, Cnt l m ∧ posN l m ≠ l.length
def LdR (l : List UInt8) (h h' : Heap) (r : Value) : Prop :=
  Pfx h h' ∧ ((ldBad l ∧ r = .tuple ⟨[.agg ⟨[.int .i64 0, .slice none 0 0]⟩, .bool false]⟩) ∨
    (hdrOk l = true ∧ ∃ m x L, Cnt l m ∧ posN l m = l.length ∧ r = .tuple ⟨[.agg ⟨[.int .i64 (elN l), x]⟩, .bool true]⟩ ∧ FrS h.length h' x (elN l) m L (ixN l) (zsN l)))
def LdT (l : List UInt8) (E : Int) (ok : Bool) (m : Nat) : Prop := (ldBad l ∧ E = 0 ∧ ok = false ∧ m = 0) ∨ (hdrOk l = true ∧ Cnt l m ∧ posN l m = l.length ∧ E = elN l ∧ ok = true)
theorem ld_not {l : List UInt8} {m : Nat} (a : ldBad l) (h : hdrOk l = true) (hc : Cnt l m) (hp : posN l m = l.length) : False := by
  rcases a with a | ⟨m', a1, a2⟩
  · rw [a] at h; cases h
  · obtain rfl := hc.uniq a1; exact a2 hp
theorem LdT.uniq {l : List UInt8} {E E' : Int} {ok ok' : Bool} {m m' : Nat} (a : LdT l E ok m) (b : LdT l E' ok' m') : E = E' ∧ ok = ok' ∧ m = m' := by
  rcases a with ⟨a1, rfl, rfl, rfl⟩ | ⟨a1, a2, a3, rfl, rfl⟩ <;> rcases b with ⟨b1, rfl, rfl, rfl⟩ | ⟨b1, b2, b3, rfl, rfl⟩
  · exact ⟨rfl, rfl, rfl⟩
  · exact (ld_not a1 b1 b2 b3).elim
  · exact (ld_not b1 a1 a2 a3).elim
  · obtain rfl := a2.uniq b2; exact ⟨rfl, rfl, rfl⟩
theorem LdR.out {l : List UInt8} {h h' : Heap} {r : Value} (p : LdR l h h' r) : Pfx h h' ∧ ∃ E ok m x L, r = .tuple ⟨[.agg ⟨[.int .i64 E, x]⟩, .bool ok]⟩ ∧ LdT l E ok m ∧ m ≤ 64 ∧ FrV h.length h'.length h' x (nN l) m L (ixN l) (zsN l) := by
  obtain ⟨p1, ⟨p2, rfl⟩ | ⟨p2, m, x, L, p3, p5, rfl, p4⟩⟩ := p
  · exact ⟨p1, 0, false, 0, .slice none 0 0, [], rfl, .inl ⟨p2, rfl, rfl, rfl⟩, by omega, ⟨by simp, .inl ⟨rfl, rfl⟩⟩, NF.nil⟩
  · refine ⟨p1, _, _, m, x, L, rfl, .inr ⟨p2, p3, p5, rfl, rfl⟩, p3.1, ?_⟩
    rw [show nN l = elN l by unfold nN; rw [if_pos p2]]
    exact p4.v
theorem iLoad_c (hX : XB X) {l : List UInt8} {h : Heap} (hl : l.length ≤ 1048576) (hro : ro ≤ h.length) :
    CallR Try.prog ro X 7 [.string ⟨⟨l⟩⟩] h (fun r h' => LdR l h h' r) := by
  refine callR_of (hX.n _ rfl) Try.func7 rfl (by kernel_rfl) (Nat.le_of_ble_eq_true rfl) ?_
  (repeat' first | simp -dsimp (disch := first | omega | assumption | (refine OkS.sto ?_ (by omega); first | assumption | (refine OkS.sto ?_ (by omega); first | assumption | (refine OkS.sto ?_ (by omega); first | assumption | (refine OkS.sto ?_ (by omega); first | assumption | (refine OkS.sto ?_ (by omega); first | assumption | (refine OkS.sto ?_ (by omega); first | assumption)))))) | exact Pfx.refl _ | (apply Pfx.snoc; repeat (first | exact Pfx.refl _ | assumption | apply Pfx.snoc)) | with_unfolding_all exact of_eq_true (eq_true rfl) | (simp only [List.length_append, List.length_cons, List.length_nil]; omega)) only [↓wpre0, ↓wpre1, ↓reduceIte, Int.reduceToNat, Nat.reduceAdd, Nat.reduceMul, Nat.reduceEqDiff, wpost0, wpost1, wpost2, wpost3, wpost4, ite_self, ite_true, ite_false, if_true, if_false, tze26, xst26, un_not, len_bl Try.underlying9, bin_neq, xbld26, xld26, fr7, wrap_int, wrap_u8, iteP_yes, iteP_no] | refine iteP_two (fun hc hd => ?_) (fun hc hd => ?_) | refine iteP_intro (fun hc => ?_) (fun hc => ?_))
  refine cf_rel (iRecover_c (ro := ro) hX hl (by simp; omega)) (fun q => by cases q) ?_
  rintro r h2 ⟨p2, hy⟩
  have hb4 : h2[h.length]? = some ⟨26, [.int .i64 0, .slice none 0 0]⟩ := by rw [p2.get (by simp)]; exact get_last rfl
  have l2 := p2.len
  have l3 : h.length < h2.length := by simp at l2; omega
  have hcs1 : ∀ (C : Blk) (u v : Value), cells ((h2 ++ [C]).set h.length ⟨26, [u, v]⟩) h.length 0 2 = some (.agg ⟨[u, v]⟩) := fun C u v => cells_set (by simp; omega) (Nat.le_refl _)
  have hpx : ∀ (C : Blk) (i : Int) (y : Value), one y = true → put ro (h2 ++ [C]) h.length 0 2 (.agg ⟨[.int .i64 i, y]⟩) = some ((h2 ++ [C]).set h.length ⟨26, [.int .i64 i, y]⟩) := fun C i y y2 => put2 ((get_skip (by omega)).trans hb4) hro rfl y2
  have z0 := fun C => hpx C 0 (.slice none 0 0) rfl
  rcases hy with ⟨q1, rfl⟩ | ⟨q1, m, x, L, q2, rfl, q3⟩
  · (repeat' first | simp -dsimp (disch := first | omega | assumption | (refine OkS.sto ?_ (by omega); first | assumption | (refine OkS.sto ?_ (by omega); first | assumption | (refine OkS.sto ?_ (by omega); first | assumption | (refine OkS.sto ?_ (by omega); first | assumption | (refine OkS.sto ?_ (by omega); first | assumption | (refine OkS.sto ?_ (by omega); first | assumption)))))) | exact Pfx.refl _ | (apply Pfx.snoc; repeat (first | exact Pfx.refl _ | assumption | apply Pfx.snoc)) | with_unfolding_all exact of_eq_true (eq_true rfl) | (simp only [List.length_append, List.length_cons, List.length_nil]; omega)) only [↓wpre0, ↓wpre1, ↓reduceIte, Int.reduceToNat, Nat.reduceAdd, Nat.reduceMul, Nat.reduceEqDiff, wpost0, wpost1, wpost2, wpost3, wpost4, ite_self, ite_true, ite_false, if_true, if_false, tze26, xst26, un_not, len_bl Try.underlying9, bin_neq, xbld26, xld26, fr7, wrap_int, wrap_u8, iteP_yes, iteP_no, put_last2 (ro := ro) (h := h2) (t := 26) (u := .int .i64 0) (v := .slice none 0 0) (a := .int .i64 0) (c := .slice none 0 0) (by omega) rfl rfl, z0, hcs1] | refine iteP_two (fun hc hd => ?_) (fun hc hd => ?_) | refine iteP_intro (fun hc => ?_) (fun hc => ?_))
    exact ⟨((Pfx.refl h).snoc.trans p2).snoc.set (Nat.le_refl _), .inl ⟨.inl q1, rfl⟩⟩
  · have hx := q3.1.vs.shape
    have z1 := fun C => hpx C (elN l) x hx.2.2
    (repeat' first | simp -dsimp (disch := first | omega | assumption | (refine OkS.sto ?_ (by omega); first | assumption | (refine OkS.sto ?_ (by omega); first | assumption | (refine OkS.sto ?_ (by omega); first | assumption | (refine OkS.sto ?_ (by omega); first | assumption | (refine OkS.sto ?_ (by omega); first | assumption | (refine OkS.sto ?_ (by omega); first | assumption)))))) | exact Pfx.refl _ | (apply Pfx.snoc; repeat (first | exact Pfx.refl _ | assumption | apply Pfx.snoc)) | with_unfolding_all exact of_eq_true (eq_true rfl) | (simp only [List.length_append, List.length_cons, List.length_nil]; omega)) only [↓wpre0, ↓wpre1, ↓reduceIte, Int.reduceToNat, Nat.reduceAdd, Nat.reduceMul, Nat.reduceEqDiff, wpost0, wpost1, wpost2, wpost3, wpost4, ite_self, ite_true, ite_false, if_true, if_false, tze26, xst26, un_not, len_bl Try.underlying9, bin_neq, xbld26, xld26, fr7, wrap_int, wrap_u8, iteP_yes, iteP_no, put_last2 (ro := ro) (h := h2) (t := 26) (u := .int .i64 0) (v := .slice none 0 0) (a := .int .i64 (elN l)) (c := x) (by omega) rfl hx.2.2, z0, z1, hcs1] | refine iteP_two (fun hc hd => ?_) (fun hc hd => ?_) | refine iteP_intro (fun hc => ?_) (fun hc => ?_))
    all_goals first
      | (refine ⟨((Pfx.refl h).snoc.trans p2).snoc.set (Nat.le_refl _), .inl ⟨.inr ⟨m, q2, by omega⟩, rfl⟩⟩; done)
      | (refine ⟨((Pfx.refl h).snoc.trans p2).snoc.set (Nat.le_refl _), .inr ⟨q1, m, x, L, q2, by omega, rfl, q3.mv (fun b h1 h3 => ?_) (by simp) (by simp)⟩⟩
         simp only [List.length_append, List.length_singleton] at h1
         rw [set_get (by omega), get_skip h3])
end Go.Proofs.Yteignhphimfmkaa.Sim
