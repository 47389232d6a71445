/- Slices of whole numbers: equal, stored to, marked. Lemmas only; no condition. -/
import Derived.Test.YteignhphimfmkaaSimS
set_option linter.unusedSimpArgs false
set_option linter.unusedVariables false
namespace Go.Proofs.Yteignhphimfmkaa.Sim
open Go Go.RowKit

variable {P : Program} {ro : Nat} {B : Base} {X : Ext}
theorem nth_ext {l m : List Int} (hl : l.length = m.length) (h : ∀ j, j < l.length → nth l j = nth m j) : l = m := by
  refine List.ext_getElem hl fun j h1 h2 => ?_
  have := h j h1
  simp only [nth, List.getD_eq_getElem?_getD, List.getElem?_eq_getElem h1, List.getElem?_eq_getElem h2, Option.getD_some] at this
  exact this
/-- That two lists begin alike. -/
def agr (i : Nat) (l m : List Int) : Prop := ∀ j, j < i → nth l j = nth m j
theorem agr_zero (l m : List Int) : agr 0 l m := fun j hj => by omega
theorem agr.succ {i : Nat} {l m : List Int} (a : agr i l m) (h : nth l i = nth m i) : agr (i + 1) l m := fun j hj => by
  rcases Nat.lt_or_eq_of_le (show j ≤ i by omega) with q | q
  · exact a j q
  · rw [q]; exact h
theorem agr.all {n : Nat} {l m : List Int} (a : agr n l m) (h1 : l.length = n) (h2 : m.length = n) : l = m := nth_ext (by omega) fun j hj => a j (by omega)
theorem ne_of_nth {l m : List Int} {j : Nat} (h : ¬ nth l j = nth m j) : ¬ l = m := fun e => h (by rw [e])
theorem ne_of_len {l m : List Int} {a b : Nat} (h1 : l.length = a) (h2 : m.length = b) (h : a ≠ b) : ¬ l = m := fun e => h (by rw [← h1, ← h2, e])
/-- A store to a slice's cell. -/
def sto (h : Heap) (x : Value) (c : Nat) (v : Value) : Heap :=
  match x with
  | .slice (some ⟨b, o, none⟩) _ _ => (match h[b]? with | some Bk => h.set b ⟨Bk.ty, Bk.cells.set (o + c) v⟩ | none => h)
  | _ => h
def OkS (lo hi k n : Nat) (x : Value) (h : Heap) : Prop := ∃ l, IS lo hi k h x n l
theorem IS.ok {lo hi k n : Nat} {h : Heap} {x : Value} {l : List Int} (s : IS lo hi k h x n l) : OkS lo hi k n x h := ⟨l, s⟩
theorem IS.sto {lo hi k n : Nat} {h : Heap} {x : Value} {l : List Int} (s : IS lo hi k h x n l) {c : Nat} (hc : c < n * k) (v : Int) : IS lo hi k (sto h x c (.int .i64 v)) x n (l.set c v) := by
  refine ⟨by rw [List.length_set]; exact s.1, ?_⟩
  rcases s.2 with ⟨rfl, rfl⟩ | ⟨b, o, cap, Bk, rfl, h1, h2, h3, h4, h5⟩
  · omega
  · refine .inr ⟨b, o, cap, ⟨Bk.ty, Bk.cells.set (o + c) (.int .i64 v)⟩, rfl, h1, h2, ?_, by simpa using h4, fun j hj => ?_⟩
    · have hb : b < h.length := by
        rcases Nat.lt_or_ge b h.length with q | q
        · exact q
        · rw [List.getElem?_eq_none q] at h3; cases h3
      simp only [Sim.sto, h3]
      rw [List.getElem?_set_self hb]
    · simp only [List.getElem?_set]
      by_cases e : c = j
      · subst e
        rw [if_pos rfl, if_pos (by omega)]
        simp [nth, List.getElem?_set, show c < l.length by rw [s.1]; exact hc]
      · rw [if_neg (by omega), h5 j hj]
        simp [nth, List.getElem?_set, e]
theorem OkS.sto {lo hi k n : Nat} {h : Heap} {x : Value} {c : Nat} {v : Int} (s : OkS lo hi k n x h) (hc : c < n * k) : OkS lo hi k n x (sto h x c (.int .i64 v)) := by
  obtain ⟨l, s⟩ := s
  exact ⟨_, s.sto hc v⟩
theorem stv_sto {lo hi k n : Nat} {x : Value} {g : Heap} {t : TypeId} {c : Nat} {v : Int} (hs : szT P t = some 1) (hro : ro ≤ lo) (s : OkS lo hi k n x g) (hc : c < n * k) : stv P ro g t (ea x c) (.int .i64 v) = some (Sim.sto g x c (.int .i64 v)) := by
  obtain ⟨l, s⟩ := s
  rcases s.2 with ⟨rfl, rfl⟩ | ⟨b, o, cap, Bk, rfl, h1, h2, h3, h4, h5⟩
  · omega
  · simp only [ea, stv_put hs, put, Sim.sto, h3, Option.bind_some]
    rw [if_pos (by omega), if_pos ⟨rfl, by simp only [cellsOf, List.length_cons, List.length_nil]; omega, rfl⟩]
    rw [cellsOf_int, splice_set (by omega)]
/-- That two heaps differ in one block at most. -/
def Only (b : Nat) (h h' : Heap) : Prop := h'.length = h.length ∧ ∀ b', b' ≠ b → h'[b']? = h[b']?
theorem Only.refl (b : Nat) (h : Heap) : Only b h h := ⟨rfl, fun _ _ => rfl⟩
theorem Only.trans {b : Nat} {h1 h2 h3 : Heap} (a : Only b h1 h2) (c : Only b h2 h3) : Only b h1 h3 := ⟨c.1.trans a.1, fun b' hb => (c.2 b' hb).trans (a.2 b' hb)⟩
theorem only_sto (h : Heap) (x : Value) (c : Nat) (v : Value) : Only (bOf x) h (sto h x c v) := by
  by_cases hx : ∃ b o n c', x = .slice (some ⟨b, o, none⟩) n c'
  · obtain ⟨b, o, n, c', rfl⟩ := hx
    cases hb : h[b]? with
    | none => simp only [sto, hb]; exact .refl _ _
    | some Bk =>
      simp only [sto, hb, bOf]
      refine ⟨by simp, fun b' hb' => ?_⟩
      rw [List.getElem?_set, if_neg (fun e => hb' e.symm)]
  · have : sto h x c v = h := by
      unfold sto
      split
      · exact absurd ⟨_, _, _, _, rfl⟩ hx
      · rfl
    rw [this]; exact .refl _ _
/-- That two heaps differ in a range of blocks at most. -/
def Rng (lo hi : Nat) (h h' : Heap) : Prop := h'.length = h.length ∧ ∀ b, b < lo ∨ hi ≤ b → h'[b]? = h[b]?
theorem Rng.refl (lo hi : Nat) (h : Heap) : Rng lo hi h h := ⟨rfl, fun _ _ => rfl⟩
theorem Rng.trans {lo hi : Nat} {h1 h2 h3 : Heap} (a : Rng lo hi h1 h2) (c : Rng lo hi h2 h3) : Rng lo hi h1 h3 := ⟨c.1.trans a.1, fun b' hb => (c.2 b' hb).trans (a.2 b' hb)⟩
theorem Only.rng {lo hi b : Nat} {h h' : Heap} (o : Only b h h') (h1 : lo ≤ b) (h2 : b < hi) : Rng lo hi h h' := ⟨o.1, fun b' hb => o.2 b' (by omega)⟩
theorem IS.rng {lo hi lo' hi' k n : Nat} {h h' : Heap} {x : Value} {l : List Int} (s : IS lo' hi' k h x n l) (r : Rng lo hi h h') (hd : hi' ≤ lo ∨ hi ≤ lo') : IS lo' hi' k h' x n l := s.frame fun b h1 h2 => r.2 b (by omega)
theorem IS.rsto {lo hi k n : Nat} {h : Heap} {x : Value} {l : List Int} (s : IS lo hi k h x n l) (hn : 0 < n) (c : Nat) (v : Value) : Rng lo hi h (Sim.sto h x c v) := (only_sto h x c v).rng (s.bof hn).1 (s.bof hn).2.1
theorem Pfx.rng {h0 h h' : Heap} {lo hi : Nat} (p : Pfx h0 h) (o : Rng lo hi h h') (hb : h0.length ≤ lo) : Pfx h0 h' := by
  have hl := p.len
  refine List.ext_getElem? fun j => ?_
  rw [List.getElem?_take]
  by_cases q : j < h0.length
  · rw [if_pos q, o.2 j (by omega)]; exact p.get q
  · rw [if_neg q, List.getElem?_eq_none (by omega)]
/-- A list whose first numbers are marked. -/
def mrk (c : Int) (m : Nat) (l : List Int) : List Int := (List.range l.length).map fun j => if j < m then c + j else nth l j
theorem mrk_len (c : Int) (m : Nat) (l : List Int) : (mrk c m l).length = l.length := by simp [mrk]
theorem nth_mrk {c : Int} {m j : Nat} {l : List Int} (hj : j < l.length) : nth (mrk c m l) j = if j < m then c + j else nth l j := by
  simp only [mrk, nth, List.getD_eq_getElem?_getD, List.getElem?_map, List.getElem?_range hj, Option.map_some, Option.getD_some]
theorem mrk_zero (c : Int) (l : List Int) : mrk c 0 l = l := nth_ext (mrk_len _ _ _) fun j hj => by rw [nth_mrk (by rw [mrk_len] at hj; exact hj), if_neg (by omega)]
theorem nth_set {l : List Int} {i j : Nat} {v : Int} (hi : i < l.length) : nth (l.set i v) j = if i = j then v else nth l j := by
  simp only [nth, List.getD_eq_getElem?_getD, List.getElem?_set]
  by_cases e : i = j
  · subst e; simp [hi]
  · simp [e]
theorem mrk_set {c : Int} {m : Nat} {l : List Int} {v : Int} (hm : m < l.length) (hv : v = c + m) : (mrk c m l).set m v = mrk c (m + 1) l := by
  subst hv
  refine nth_ext (by simp [mrk_len]) fun j hj => ?_
  rw [List.length_set, mrk_len] at hj
  rw [nth_set (by rw [mrk_len]; exact hm), nth_mrk hj, nth_mrk hj]
  by_cases e : m = j
  · subst e; rw [if_pos rfl, if_pos (by omega)]
  · rw [if_neg e]
    by_cases q : j < m
    · rw [if_pos q, if_pos (by omega)]
    · rw [if_neg q, if_neg (by omega)]
/-- That a list's numbers are the marks from 'c' on. -/
def Mrkd (c : Int) (l : List Int) : Prop := ∀ j, j < l.length → nth l j = c + j
theorem mrkd {c : Int} {l : List Int} : Mrkd c (mrk c l.length l) := fun j hj => by rw [mrk_len] at hj; rw [nth_mrk hj, if_pos hj]
theorem endH_len {v : Value} {h h' : Heap} (hl : h'.length = h.length) : endH v h h' = h' := by
  unfold endH
  split
  · rename_i q
    have := q.2
    rw [← hl, List.take_length] at this
    exact this.symm
  · rfl
end Go.Proofs.Yteignhphimfmkaa.Sim
