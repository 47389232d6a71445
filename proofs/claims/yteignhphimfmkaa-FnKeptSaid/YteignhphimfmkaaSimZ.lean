/- Slices that grow by append, and values built of parts. Lemmas only; no condition. -/
import Derived.Test.YteignhphimfmkaaSimY
set_option linter.unusedSimpArgs false
set_option linter.unusedVariables false
namespace Go.Proofs.Yteignhphimfmkaa.Sim
open Go Go.RowKit

variable {P : Program} {ro : Nat} {B : Base} {X : Ext}
theorem bldS_nil {h : Heap} {t e s : Nat} {z : Value} (he : elemT P t = some e) (hs : szT P e = some s) (hz : zeroT P e = some z) : bldS P h t 0 [] = some (.slice (some ⟨h.length, 0, none⟩) 0 0, h ++ [⟨e, []⟩]) := by
  simp only [bldS, he, hs, hz, Option.bind_some]
  rw [if_pos ⟨by omega, rfl⟩]
  rfl
theorem bldS_one {h : Heap} {t e s : Nat} {z v : Value} (he : elemT P t = some e) (hs : szT P e = some s) (hz : zeroT P e = some z) (hzl : (cellsOf z).length = s) (hs' : s ≤ 16777216) (hl : (cellsOf v).length = s) (h1 : (cellsOf v).all one = true) : bldS P h t 1 [(0, v)] = some (.slice (some ⟨h.length, 0, none⟩) 1 1, h ++ [⟨e, cellsOf v⟩]) := by
  have e1 : (List.replicate 1 (cellsOf z)).flatten = cellsOf z := by simp
  simp only [bldS, he, hs, hz, Option.bind_some, e1]
  rw [if_pos ⟨by omega, by simp only [List.all_cons, List.all_nil, Bool.and_true]; exact h1⟩]
  simp only [lay, Nat.zero_mul, Nat.zero_add, hl, ne_eq, not_true_eq_false, false_or]
  rw [if_neg (by omega), splice_all (by omega)]
  rfl
/-- A slice that may grow: it has a block of its own. -/
def GS (lo t k : Nat) (h : Heap) (x : Value) (n : Nat) (l : List Int) : Prop :=
  l.length = n * k ∧ ∃ b cap, x = .slice (some ⟨b, 0, none⟩) n cap ∧ lo ≤ b ∧ h[b]? = some ⟨t, vints l⟩ ∧ (n = 0 → cap = 0)
theorem lt_of_some {h : Heap} {b : Nat} {C : Blk} (hb : h[b]? = some C) : b < h.length := by
  rcases Nat.lt_or_ge b h.length with q | q
  · exact q
  · rw [List.getElem?_eq_none q] at hb; cases hb
theorem nth_vints {l : List Int} {j : Nat} (hj : j < l.length) : (vints l)[j]? = some (.int .i64 (nth l j)) := by
  simp [vints, nth, hj]
theorem GS.is {lo t k n : Nat} {h : Heap} {x : Value} {l : List Int} (g : GS lo t k h x n l) : IS lo h.length k h x n l := by
  obtain ⟨hl, b, cap, rfl, hb, hg, _⟩ := g
  exact ⟨hl, .inr ⟨b, 0, cap, _, rfl, hb, lt_of_some hg, hg, by simp only [vints_len]; omega, fun j hj => by rw [Nat.zero_add]; exact nth_vints (by omega)⟩⟩
theorem GS.frame {lo t k n : Nat} {h h' : Heap} {x : Value} {l : List Int} (g : GS lo t k h x n l) (hh : h'[bOf x]? = h[bOf x]?) : GS lo t k h' x n l := by
  obtain ⟨hl, b, cap, rfl, hb, hg, hc⟩ := g
  exact ⟨hl, b, cap, rfl, hb, by rw [show h'[b]? = h[b]? from hh]; exact hg, hc⟩
theorem GS.bof {lo t k n : Nat} {h : Heap} {x : Value} {l : List Int} (g : GS lo t k h x n l) : lo ≤ bOf x ∧ bOf x < h.length := by
  obtain ⟨hl, b, cap, rfl, hb, hg, hc⟩ := g
  exact ⟨hb, lt_of_some hg⟩
theorem GS.flat {lo t k n : Nat} {h : Heap} {x : Value} {l : List Int} (g : GS lo t k h x n l) : flat x = false ∧ cellsOf x = [x] ∧ one x = true := by
  obtain ⟨hl, b, cap, rfl, hb, hg, hc⟩ := g
  exact ⟨rfl, rfl, rfl⟩
theorem GS.len {lo t k n : Nat} {h : Heap} {x : Value} {l : List Int} (g : GS lo t k h x n l) {T e : TypeId} (hu : P.underlying T = some (.slice e)) (h' : Heap) : ablt P ro .len [T] [x] h' = some (.int .i64 n, h') := by
  obtain ⟨hl, b, cap, rfl, hb, hg, hc⟩ := g
  exact len_slc hu
theorem gs_new {lo t k : Nat} (h : Heap) (hlo : lo ≤ h.length) : GS lo t k (h ++ [⟨t, []⟩]) (.slice (some ⟨h.length, 0, none⟩) 0 0) 0 [] := ⟨by simp, h.length, 0, rfl, hlo, by simp; rfl, fun _ => rfl⟩
/-- What an append of a new element leaves. -/
def capOf (x : Value) : Nat := match x with | .slice _ _ c => c | _ => 0
def apd (h : Heap) (x : Value) (n t : Nat) (l v : List Int) : Heap := (if capOf x = n then h else (h.set (bOf x) ⟨t, []⟩)) ++ [⟨t, vints (l ++ v)⟩]
theorem apd_len (h : Heap) (x : Value) (n t : Nat) (l v : List Int) : (apd h x n t l v).length = h.length + 1 := by
  unfold apd; split <;> simp
theorem apd_get {h : Heap} {x : Value} {n t : Nat} {l v : List Int} {b : Nat} (hb : b < h.length) (hne : b ≠ bOf x) : (apd h x n t l v)[b]? = h[b]? := by
  unfold apd
  split
  · exact List.getElem?_append_left hb
  · rw [List.getElem?_append_left (by simpa using hb), List.getElem?_set, if_neg (fun e => hne e.symm)]
theorem vints_app (l v : List Int) : vints (l ++ v) = vints l ++ vints v := List.map_append ..
theorem ablt_app {lo T e k by_ n m : Nat} {z : Value} {h : Heap} {x : Value} {l v : List Int} (he : elemT P T = some e) (hs : szT P e = some k) (hb : byT P e = some by_) (hz : zeroT P e = some z) (hk : 0 < k) (g : GS lo e k h x n l) (hro : ro ≤ lo) (hm : h[m]? = some ⟨e, vints v⟩) (hv : v.length = k) (hn : (n + 1) * by_ ≤ 140737488355328) (hn' : n ≤ 4611686018427387904) :
    ablt P ro .append [T, T] [x, .slice (some ⟨m, 0, none⟩) 1 1] h = some (.slice (some ⟨h.length, 0, none⟩) (n + 1) (n + 2), apd h x n e l v) := by
  obtain ⟨hl, b, cap, rfl, hlo, hg, hc⟩ := g
  have r1 : rowOf h (.slice (some ⟨b, 0, none⟩) n cap) k = some (vints l) := by
    simp only [rowOf, hg, Option.bind_some]
    rw [if_pos (by simp only [vints_len]; omega)]
    rw [List.drop_zero, List.take_of_length_le (by simp only [vints_len]; omega)]
  have r2 : newsOf h (.slice (some ⟨m, 0, none⟩) 1 1) k = some (vints v) := by
    simp only [newsOf, rowOf, hm, Option.bind_some]
    rw [if_pos (by simp only [vints_len]; omega)]
    rw [List.drop_zero, List.take_of_length_le (by simp only [vints_len]; omega)]
  have hlen : (vints v).length = 1 * k := by simp only [vints_len]; omega
  simp only [ablt, true_or, if_true, app, he, hs, hb, hz, Option.bind_some, r1, r2, lenV, Option.isSome_some, not_true_eq_false, or_false]
  rw [if_neg (by omega), if_neg (by omega), if_neg (by
    rw [Classical.not_not]
    exact ⟨hn, by omega, vints_one v, hlen⟩)]
  by_cases hcn : cap = n
  · rw [if_pos hcn]
    have e1 : apd h (.slice (some ⟨b, 0, none⟩) n cap) n e l v = h ++ [⟨e, vints (l ++ v)⟩] := by unfold apd; rw [if_pos (show capOf (.slice (some ⟨b, 0, none⟩) n cap) = n from hcn)]
    rw [e1, vints_app]
  · have hn0 : n ≠ 0 := fun e => hcn (by rw [hc e, e])
    rw [if_neg hcn, if_pos ⟨by omega, trivial, by omega, by rw [show h[b]? = some ⟨e, vints l⟩ from hg]; simp only [Option.map_some, vints_len, hl]⟩]
    have e1 : apd h (.slice (some ⟨b, 0, none⟩) n cap) n e l v = h.set b ⟨e, []⟩ ++ [⟨e, vints (l ++ v)⟩] := by unfold apd; rw [if_neg (show ¬ capOf (.slice (some ⟨b, 0, none⟩) n cap) = n from hcn)]; rfl
    rw [e1, vints_app]
theorem gs_apd {lo e k n : Nat} {h : Heap} {x : Value} {l v : List Int} (hl : l.length = n * k) (hv : v.length = k) (hlo : lo ≤ h.length) : GS lo e k (apd h x n e l v) (.slice (some ⟨h.length, 0, none⟩) (n + 1) (n + 2)) (n + 1) (l ++ v) := by
  refine ⟨by simp only [List.length_append, hl, hv, Nat.succ_mul], h.length, n + 2, rfl, hlo, ?_, by omega⟩
  unfold apd
  split
  · simp
  · rw [List.getElem?_append_right (by simp)]; simp
theorem Pfx.only {h0 h h' : Heap} {b : Nat} (p : Pfx h0 h) (o : Only b h h') (hb : h0.length ≤ b) : Pfx h0 h' := by
  have hl := p.len
  refine List.ext_getElem? fun j => ?_
  rw [List.getElem?_take]
  by_cases q : j < h0.length
  · rw [if_pos q, o.2 j (by omega)]; exact p.get q
  · rw [if_neg q, List.getElem?_eq_none (by omega)]
theorem Pfx.sto {h0 h : Heap} {x : Value} {c : Nat} {v : Value} (p : Pfx h0 h) (hb : h0.length ≤ bOf x) : Pfx h0 (sto h x c v) := p.only (only_sto _ _ _ _) hb
theorem Pfx.apd {h0 h : Heap} {x : Value} {n t : Nat} {l v : List Int} (p : Pfx h0 h) (hb : h0.length ≤ bOf x) : Pfx h0 (apd h x n t l v) := by
  have hl := p.len
  refine List.ext_getElem? fun j => ?_
  rw [List.getElem?_take]
  by_cases q : j < h0.length
  · rw [if_pos q, apd_get (by omega) (by omega)]; exact p.get q
  · rw [if_neg q, List.getElem?_eq_none (by omega)]
theorem sto_get {h : Heap} {x : Value} {c : Nat} {v : Value} {b : Nat} (hb : b ≠ bOf x) : (sto h x c v)[b]? = h[b]? := (only_sto h x c v).2 b hb
theorem sto_len {h : Heap} {x : Value} {c : Nat} {v : Value} : (sto h x c v).length = h.length := (only_sto h x c v).1
/-- A slice that may grow, or none. -/
def GN (lo t k : Nat) (h : Heap) (x : Value) (n : Nat) (l : List Int) : Prop := GS lo t k h x n l ∨ (n = 0 ∧ l = [] ∧ x = .slice none 0 0)
theorem GN.is {lo t k n : Nat} {h : Heap} {x : Value} {l : List Int} (g : GN lo t k h x n l) : IS lo h.length k h x n l := by
  rcases g with g | ⟨rfl, rfl, rfl⟩
  · exact g.is
  · exact ⟨by simp, .inl ⟨rfl, rfl⟩⟩
theorem GN.flat {lo t k n : Nat} {h : Heap} {x : Value} {l : List Int} (g : GN lo t k h x n l) : Sim.flat x = false ∧ cellsOf x = [x] ∧ one x = true := by
  rcases g with g | ⟨rfl, rfl, rfl⟩
  · exact g.flat
  · exact ⟨rfl, rfl, rfl⟩
theorem GN.len1 {lo t k n : Nat} {h : Heap} {x : Value} {l : List Int} (g : GN lo t k h x n l) : l.length = n * k := by
  rcases g with g | ⟨rfl, rfl, rfl⟩
  · exact g.1
  · simp
theorem GN.len {lo t k n : Nat} {h : Heap} {x : Value} {l : List Int} (g : GN lo t k h x n l) {T e : TypeId} (hu : P.underlying T = some (.slice e)) (h' : Heap) : ablt P ro .len [T] [x] h' = some (.int .i64 n, h') := by
  rcases g with g | ⟨rfl, rfl, rfl⟩
  · exact g.len hu h'
  · exact len_slc hu
/-- The slice's own block, if it has one. -/
def Own (x : Value) (b : Nat) : Prop := x = .slice none 0 0 ∨ bOf x = b
theorem GN.frame {lo t k n : Nat} {h h' : Heap} {x : Value} {l : List Int} (g : GN lo t k h x n l) (hh : ∀ b, lo ≤ b → b < h.length → b = bOf x → h'[b]? = h[b]?) : GN lo t k h' x n l := by
  rcases g with g | g
  · exact .inl (g.frame (hh _ g.bof.1 g.bof.2 rfl))
  · exact .inr g
theorem ablt_appN {lo T e k by_ n m : Nat} {z : Value} {h : Heap} {x : Value} {l v : List Int} (he : elemT P T = some e) (hs : szT P e = some k) (hb : byT P e = some by_) (hz : zeroT P e = some z) (hk : 0 < k) (g : GN lo e k h x n l) (hro : ro ≤ lo) (hm : h[m]? = some ⟨e, vints v⟩) (hv : v.length = k) (hn : (n + 1) * by_ ≤ 140737488355328) (hn' : n ≤ 4611686018427387904) :
    ablt P ro .append [T, T] [x, .slice (some ⟨m, 0, none⟩) 1 1] h = some (.slice (some ⟨h.length, 0, none⟩) (n + 1) (n + 2), apd h x n e l v) := by
  rcases g with g | ⟨rfl, rfl, rfl⟩
  · exact ablt_app he hs hb hz hk g hro hm hv hn hn'
  · have r2 : newsOf h (.slice (some ⟨m, 0, none⟩) 1 1) k = some (vints v) := by
      simp only [newsOf, rowOf, hm, Option.bind_some]
      rw [if_pos (by simp only [vints_len]; omega)]
      rw [List.drop_zero, List.take_of_length_le (by simp only [vints_len]; omega)]
    have hlen : (vints v).length = 1 * k := by simp only [vints_len]; omega
    simp only [ablt, true_or, if_true, app, he, hs, hb, hz, Option.bind_some, rowOf, r2, lenV, Option.isSome_some, not_true_eq_false, or_false]
    rw [if_neg (by omega), if_neg (by omega), if_neg (by
      rw [Classical.not_not]
      exact ⟨by omega, by omega, vints_one v, hlen⟩)]
    have e1 : apd h (.slice none 0 0) 0 e [] v = h ++ [⟨e, vints ([] ++ v)⟩] := by unfold apd; rw [if_pos (show capOf (.slice none 0 0) = 0 from rfl)]
    rw [e1]; rfl
theorem apd_getN {lo e k n : Nat} {h : Heap} {x : Value} {l v : List Int} (g : GN lo e k h x n l) {b : Nat} (hb : b < h.length) (hne : x = .slice none 0 0 ∨ b ≠ bOf x) : (apd h x n e l v)[b]? = h[b]? := by
  rcases hne with rfl | hne
  · rcases g with ⟨_, _, _, h1, _⟩ | ⟨rfl, rfl, _⟩
    · cases h1
    · unfold apd; rw [if_pos (show capOf (.slice none 0 0) = 0 from rfl)]; exact List.getElem?_append_left hb
  · exact apd_get hb hne
end Go.Proofs.Yteignhphimfmkaa.Sim
