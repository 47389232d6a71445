/- Blocks at the end of the heap, and slices of whole numbers, in the form in which simp runs them. Lemmas only; no condition. -/
import Derived.Test.YteignhphimfmkaaSimQ
set_option linter.unusedSimpArgs false
set_option linter.unusedVariables false
namespace Go.Proofs.Yteignhphimfmkaa.Sim
open Go Go.RowKit

variable {P : Program} {ro : Nat} {B : Base} {X : Ext}
theorem get_skip {h : Heap} {C : Blk} {b : Nat} (hb : b < h.length) : (h ++ [C])[b]? = h[b]? := List.getElem?_append_left hb
theorem get_last {h : Heap} {C : Blk} {b : Nat} (hb : b = h.length) : (h ++ [C])[b]? = some C := by subst hb; simp
theorem cell_skip {h : Heap} {C : Blk} {b o : Nat} (hb : b < h.length) : cell (h ++ [C]) b o = cell h b o := by simp only [cell, get_skip hb]
theorem cell_last {h : Heap} {C : Blk} {b o : Nat} (hb : b = h.length) : cell (h ++ [C]) b o = C.cells[o]? := by simp only [cell, get_last hb, Option.bind_some]
theorem cells_skip {h : Heap} {C : Blk} {b o n : Nat} (hb : b < h.length) : cells (h ++ [C]) b o n = cells h b o n := by simp only [cells, get_skip hb]
theorem cells_last {h : Heap} {C : Blk} {b o n : Nat} (hb : b = h.length) (hn : o + n ≤ C.cells.length) : cells (h ++ [C]) b o n = some (.agg ⟨(C.cells.drop o).take n⟩) := by
  simp only [cells, get_last hb, Option.bind_some]; rw [if_pos hn]
theorem put_skip {h : Heap} {C : Blk} {b o n : Nat} {v : Value} (hb : b < h.length) : put ro (h ++ [C]) b o n v = (put ro h b o n v).map (· ++ [C]) := by
  unfold put
  split
  · rw [get_skip hb]
    cases h[b]? with
    | none => rfl
    | some D =>
      simp only [Option.bind_some]
      split
      · simp only [Option.map_some, List.set_append_left _ _ hb]
      · rfl
  · rfl
theorem put_last {h : Heap} {t : TypeId} {cs : List Value} {b o n : Nat} {v : Value} (hb : b = h.length) (hro : ro ≤ h.length) (hn : n = (cellsOf v).length) (ho : o + n ≤ cs.length) (h1 : (cellsOf v).all one = true) : put ro (h ++ [⟨t, cs⟩]) b o n v = some (h ++ [⟨t, splice cs o (cellsOf v)⟩]) := by
  subst hb
  unfold put
  rw [if_pos hro, get_last rfl]
  simp only [Option.bind_some]
  rw [if_pos ⟨hn, by omega, h1⟩]
  simp
theorem box_go {h : Heap} {t : TypeId} {v : Value} (h1 : (cellsOf v).all one = true) : boxV h t v = some (.pointer (some ⟨h.length, 0, none⟩), h ++ [⟨t, cellsOf v⟩]) := by unfold boxV; rw [if_pos h1]
theorem cellsOf_agg (cs : List Value) : cellsOf (.agg ⟨cs⟩) = cs := rfl
theorem cellsOf_int (k : IntKind) (n : Int) : cellsOf (.int k n) = [.int k n] := rfl
theorem cellsOf_bool (b : Bool) : cellsOf (.bool b) = [.bool b] := rfl
theorem cellsOf_flt (k : FloatKind) (n : Nat) : cellsOf (.float k n) = [.float k n] := rfl
theorem cellsOf_cpx (k : FloatKind) (n m : Nat) : cellsOf (.complex k n m) = [.complex k n m] := rfl
theorem cellsOf_str (b : ByteArray) : cellsOf (.string b) = [.string b] := rfl
theorem cellsOf_slc (a : Option Addr) (n c : Nat) : cellsOf (.slice a n c) = [.slice a n c] := rfl
theorem cellsOf_ptr (a : Option Addr) : cellsOf (.pointer a) = [.pointer a] := rfl
theorem cellsOf_fn (f : Fn) (a b : Array Value) : cellsOf (.func f a b) = [.func f a b] := rfl
theorem cellsOf_nilFn : cellsOf .nilFunc = [.nilFunc] := rfl
theorem one_int (k : IntKind) (n : Int) : one (.int k n) = true := rfl
theorem one_bool (b : Bool) : one (.bool b) = true := rfl
theorem one_flt (k : FloatKind) (n : Nat) : one (.float k n) = true := rfl
theorem one_cpx (k : FloatKind) (n m : Nat) : one (.complex k n m) = true := rfl
theorem one_str (b : ByteArray) : one (.string b) = true := rfl
theorem one_slc (a : Option Addr) (n c : Nat) : one (.slice a n c) = true := rfl
theorem one_ptr (a : Option Addr) : one (.pointer a) = true := rfl
theorem one_fn (f : Fn) (a b : Array Value) : one (.func f a b) = true := rfl
theorem splice_set {cs : List Value} {o : Nat} {v : Value} (h : o < cs.length) : splice cs o [v] = cs.set o v := by
  unfold splice
  rw [List.set_eq_take_append_cons_drop, if_pos h]
  simp
theorem splice_all {cs vs : List Value} (h : cs.length = vs.length) : splice cs 0 vs = vs := by unfold splice; simp [h]
theorem splice_cons {cs vs : List Value} {o : Nat} {v : Value} (h : o + (v :: vs).length ≤ cs.length) : splice cs o (v :: vs) = splice (cs.set o v) (o + 1) vs := by
  simp only [List.length_cons] at h
  unfold splice
  refine List.ext_getElem? fun j => ?_
  simp only [List.getElem?_append, List.length_append, List.length_take, List.length_set, List.length_cons, List.getElem?_take, List.getElem?_drop, List.getElem?_set]
  rcases Nat.lt_trichotomy j o with q | q | q
  · simp [show j < min o cs.length by omega, show j < min (o + 1) cs.length by omega, show j < o by omega, show j < o + 1 by omega, show ¬ o = j by omega, show j < min o cs.length + (vs.length + 1) by omega, show j < min (o + 1) cs.length + vs.length by omega]
  · subst q
    simp [show ¬ j < min j cs.length by omega, show j < min (j + 1) cs.length by omega, show j < min j cs.length + (vs.length + 1) by omega, show j < min (j + 1) cs.length + vs.length by omega, show min j cs.length = j by omega, show j < cs.length by omega]
  · by_cases w : j < o + 1 + vs.length
    · obtain ⟨m, rfl⟩ : ∃ m, j = o + 1 + m := ⟨j - (o + 1), by omega⟩
      simp [show min o cs.length = o by omega, show min (o + 1) cs.length = o + 1 by omega, show ¬ o + 1 + m < o by omega, show ¬ o + 1 + m < o + 1 by omega, show o + 1 + m < o + (vs.length + 1) by omega, show o + 1 + m < o + 1 + vs.length by omega, show o + 1 + m - o = m + 1 by omega]
    · simp [show min o cs.length = o by omega, show min (o + 1) cs.length = o + 1 by omega, show ¬ j < o by omega, show ¬ j < o + 1 by omega, show ¬ j < o + (vs.length + 1) by omega, show ¬ j < o + 1 + vs.length by omega]
      rw [if_neg (by omega)]
      congr 1; omega
theorem splice_nil {cs : List Value} {o : Nat} : splice cs o [] = cs := by unfold splice; simp
/-- A slice's cell, so many cells from its beginning. -/
def ea (x : Value) (c : Nat) : Value := match x with | .slice (some ⟨b, o, none⟩) _ _ => .pointer (some ⟨b, o + c, none⟩) | _ => undef
def bOf (x : Value) : Nat := match x with | .slice (some ⟨b, _, none⟩) _ _ => b | _ => 0
/-- A number of a list. -/
def nth (l : List Int) (i : Nat) : Int := l.getD i 0
/-- A slice of 'n' elements of 'k' cells, all of them whole numbers, in a block from 'lo' on and below 'hi'. -/
def IS (lo hi k : Nat) (h : Heap) (x : Value) (n : Nat) (l : List Int) : Prop :=
  l.length = n * k ∧ ((n = 0 ∧ x = .slice none 0 0) ∨ ∃ b o cap Bk, x = .slice (some ⟨b, o, none⟩) n cap ∧ lo ≤ b ∧ b < hi ∧ h[b]? = some Bk ∧ o + n * k ≤ Bk.cells.length ∧ ∀ j, j < n * k → Bk.cells[o + j]? = some (.int .i64 (nth l j)))
section is
variable {lo hi k n : Nat} {h : Heap} {x : Value} {l : List Int}
theorem IS.frame {h' : Heap} (s : IS lo hi k h x n l) (hh : ∀ b, lo ≤ b → b < hi → h'[b]? = h[b]?) : IS lo hi k h' x n l := by
  refine ⟨s.1, s.2.imp id fun ⟨b, o, cap, Bk, h1, h2, h3, h4, h5⟩ => ⟨b, o, cap, Bk, h1, h2, h3, by rw [hh b h2 h3]; exact h4, h5⟩⟩
theorem IS.pre {h' : Heap} (s : IS lo hi k h x n l) (hh : h'.take h.length = h) : IS lo hi k h' x n l := by
  refine ⟨s.1, s.2.imp id fun ⟨b, o, cap, Bk, h1, h2, h3, h4, h5⟩ => ⟨b, o, cap, Bk, h1, h2, h3, ?_, h5⟩⟩
  have hb : b < h.length := by
    rcases Nat.lt_or_ge b h.length with q | q
    · exact q
    · rw [List.getElem?_eq_none q] at h4; cases h4
  have := congrArg (fun l => l[b]?) hh
  simp only [List.getElem?_take_of_lt hb] at this
  rw [this]; exact h4
theorem IS.len {t e : TypeId} (s : IS lo hi k h x n l) (hu : P.underlying t = some (.slice e)) (h' : Heap) : ablt P ro .len [t] [x] h' = some (.int .i64 n, h') := by
  rcases s.2 with ⟨rfl, rfl⟩ | ⟨b, o, cap, Bk, rfl, _⟩ <;> exact len_slc hu
theorem IS.iad {t e : TypeId} (s : IS lo hi k h x n l) (hu : P.underlying t = some (.slice e)) (hs : szT P e = some k) (kk : IntKind) {i : Int} (h0 : 0 ≤ i) (h1 : i < n) : iadr P t x (.int kk i) = some (ea x (i.toNat * k)) := by
  rcases s.2 with ⟨rfl, rfl⟩ | ⟨b, o, cap, Bk, rfl, _⟩
  · omega
  · exact iadr_slc hu hs h0 h1
theorem IS.fad {s f q ty m : Nat} (hI : IS lo hi k h x n l) (hf : fieldOf P s f = some (q, ty, m)) (hm : m ≠ 0) (c : Nat) (hn : 0 < n) : fadr P s (ea x c) f = some (ea x (c + q)) := by
  rcases hI.2 with ⟨rfl, rfl⟩ | ⟨b, o, cap, Bk, rfl, _⟩
  · omega
  · simp only [ea, fadr_of hf hm, Nat.add_assoc]
theorem IS.ld1 {t : TypeId} (s : IS lo hi k h x n l) (hs : szT P t = some 1) (ha : aggT P t = false) {c : Nat} (hc : c < n * k) : ld P h t (ea x c) = some (.int .i64 (nth l c)) := by
  rcases s.2 with ⟨rfl, rfl⟩ | ⟨b, o, cap, Bk, rfl, h1, h2, h3, h4, h5⟩
  · omega
  · simp only [ea, ld_sc hs ha, cell, h3, Option.bind_some]; exact h5 c hc
/-- So many numbers as the cells of a struct. -/
def ints (l : List Int) (c m : Nat) : List Value := (List.range m).map fun j => .int .i64 (nth l (c + j))
theorem IS.ldm {t m : Nat} (s : IS lo hi k h x n l) (hs : szT P t = some m) (ha : aggT P t = true) {c : Nat} (hn : 0 < n) (hc : c + m ≤ n * k) : ld P h t (ea x c) = some (.agg ⟨ints l c m⟩) := by
  rcases s.2 with ⟨rfl, rfl⟩ | ⟨b, o, cap, Bk, rfl, h1, h2, h3, h4, h5⟩
  · omega
  · simp only [ea, ld_agg hs ha, cells, h3, Option.bind_some]
    rw [if_pos (by omega)]
    congr 3
    refine List.ext_getElem? fun j => ?_
    simp only [ints, List.getElem?_map, List.getElem?_take, List.getElem?_drop, List.getElem?_range']
    rcases Nat.lt_or_ge j m with q | q
    · rw [if_pos q, List.getElem?_range q, Nat.add_assoc, h5 (c + j) (by omega)]; rfl
    · rw [if_neg (by omega), List.getElem?_eq_none (by simpa using q)]; rfl
theorem IS.skip (s : IS lo hi k h x n l) (t : TypeId) (c : Nat) (g : Heap) (C : Blk) (hn : 0 < n) (hg : bOf x < g.length) : ld P (g ++ [C]) t (ea x c) = ld P g t (ea x c) := by
  rcases s.2 with ⟨rfl, rfl⟩ | ⟨b, o, cap, Bk, rfl, _⟩
  · omega
  · have hb : b < g.length := hg
    simp only [ea, ld, get_skip hb]
theorem IS.bof (s : IS lo hi k h x n l) (hn : 0 < n) : lo ≤ bOf x ∧ bOf x < hi ∧ bOf x < h.length := by
  rcases s.2 with ⟨rfl, rfl⟩ | ⟨b, o, cap, Bk, rfl, h1, h2, h3, _⟩
  · omega
  · refine ⟨h1, h2, ?_⟩
    rcases Nat.lt_or_ge b h.length with q | q
    · exact q
    · rw [List.getElem?_eq_none q] at h3; cases h3
theorem ints_1 (l : List Int) (c : Nat) : ints l c 1 = [.int .i64 (nth l c)] := rfl
theorem ints_2 (l : List Int) (c : Nat) : ints l c 2 = [.int .i64 (nth l c), .int .i64 (nth l (c + 1))] := rfl
theorem ints_3 (l : List Int) (c : Nat) : ints l c 3 = [.int .i64 (nth l c), .int .i64 (nth l (c + 1)), .int .i64 (nth l (c + 2))] := rfl
theorem ints_4 (l : List Int) (c : Nat) : ints l c 4 = [.int .i64 (nth l c), .int .i64 (nth l (c + 1)), .int .i64 (nth l (c + 2)), .int .i64 (nth l (c + 3))] := rfl
theorem ints_5 (l : List Int) (c : Nat) : ints l c 5 = [.int .i64 (nth l c), .int .i64 (nth l (c + 1)), .int .i64 (nth l (c + 2)), .int .i64 (nth l (c + 3)), .int .i64 (nth l (c + 4))] := rfl
theorem ints_6 (l : List Int) (c : Nat) : ints l c 6 = [.int .i64 (nth l c), .int .i64 (nth l (c + 1)), .int .i64 (nth l (c + 2)), .int .i64 (nth l (c + 3)), .int .i64 (nth l (c + 4)), .int .i64 (nth l (c + 5))] := rfl
theorem ints_7 (l : List Int) (c : Nat) : ints l c 7 = [.int .i64 (nth l c), .int .i64 (nth l (c + 1)), .int .i64 (nth l (c + 2)), .int .i64 (nth l (c + 3)), .int .i64 (nth l (c + 4)), .int .i64 (nth l (c + 5)), .int .i64 (nth l (c + 6))] := rfl
theorem ints_8 (l : List Int) (c : Nat) : ints l c 8 = [.int .i64 (nth l c), .int .i64 (nth l (c + 1)), .int .i64 (nth l (c + 2)), .int .i64 (nth l (c + 3)), .int .i64 (nth l (c + 4)), .int .i64 (nth l (c + 5)), .int .i64 (nth l (c + 6)), .int .i64 (nth l (c + 7))] := rfl
end is
end Go.Proofs.Yteignhphimfmkaa.Sim
