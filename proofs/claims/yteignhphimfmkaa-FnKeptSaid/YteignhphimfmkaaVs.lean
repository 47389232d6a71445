/- Slices of cells of whatever kind, in the form in which simp runs them; slices that grow. Lemmas only; no condition. -/
import Derived.Test.YteignhphimfmkaaSimZ
set_option linter.unusedSimpArgs false
set_option linter.unusedVariables false
namespace Go.Proofs.Yteignhphimfmkaa.Sim
open Go Go.RowKit

variable {P : Program} {ro : Nat} {B : Base} {X : Ext}
/-- A cell of a list. -/
def vth (L : List Value) (j : Nat) : Value := L.getD j undef
theorem vth_get {L : List Value} {j : Nat} (h : j < L.length) : L[j]? = some (vth L j) := by
  simp [vth, h]
theorem vth_eq {L : List Value} {j : Nat} (h : j < L.length) : vth L j = L[j] := by simp [vth, h]
theorem vth_vints {l : List Int} {j : Nat} (h : j < l.length) : vth (vints l) j = .int .i64 (nth l j) := by
  have := nth_vints h
  rw [vth_get (by rw [vints_len]; exact h)] at this
  exact Option.some.inj this
theorem vth_append_left {L M : List Value} {j : Nat} (h : j < L.length) : vth (L ++ M) j = vth L j := by
  simp [vth, List.getElem?_append_left h]
theorem vth_append_right {L M : List Value} {j : Nat} (h : L.length ≤ j) : vth (L ++ M) j = vth M (j - L.length) := by
  simp [vth, List.getElem?_append_right h]
theorem vth_set {L : List Value} {i j : Nat} {v : Value} (hi : i < L.length) : vth (L.set i v) j = if i = j then v else vth L j := by
  simp only [vth, List.getD_eq_getElem?_getD, List.getElem?_set]
  by_cases e : i = j
  · subst e; simp [hi]
  · simp [e]
/-- So many cells of a list. -/
def vals (L : List Value) (c m : Nat) : List Value := (List.range m).map fun j => vth L (c + j)
theorem vals_1 (L : List Value) (c : Nat) : vals L c 1 = [vth L c] := rfl
theorem vals_2 (L : List Value) (c : Nat) : vals L c 2 = [vth L c, vth L (c + 1)] := rfl
theorem vals_3 (L : List Value) (c : Nat) : vals L c 3 = [vth L c, vth L (c + 1), vth L (c + 2)] := rfl
theorem vals_4 (L : List Value) (c : Nat) : vals L c 4 = [vth L c, vth L (c + 1), vth L (c + 2), vth L (c + 3)] := rfl
theorem vals_drop (L : List Value) (c m : Nat) (h : c + m ≤ L.length) : (L.drop c).take m = vals L c m := by
  refine List.ext_getElem? fun j => ?_
  simp only [vals, List.getElem?_map, List.getElem?_take, List.getElem?_drop]
  rcases Nat.lt_or_ge j m with q | q
  · rw [if_pos q, List.getElem?_range q, vth_get (by omega)]; rfl
  · rw [if_neg (by omega), List.getElem?_eq_none (by simpa using q)]; rfl
/-- A slice of 'n' elements of 'k' cells, in a block from 'lo' on and below 'hi'. -/
def VS (lo hi k : Nat) (h : Heap) (x : Value) (n : Nat) (L : List Value) : Prop :=
  L.length = n * k ∧ ((n = 0 ∧ x = .slice none 0 0) ∨ ∃ b o cap Bk, x = .slice (some ⟨b, o, none⟩) n cap ∧ lo ≤ b ∧ b < hi ∧ h[b]? = some Bk ∧ o + n * k ≤ Bk.cells.length ∧ ∀ j, j < n * k → Bk.cells[o + j]? = some (vth L j))
theorem IS.vs {lo hi k n : Nat} {h : Heap} {x : Value} {l : List Int} (s : IS lo hi k h x n l) : VS lo hi k h x n (vints l) := by
  refine ⟨by rw [vints_len]; exact s.1, s.2.imp id fun ⟨b, o, cap, Bk, h1, h2, h3, h4, h5, h6⟩ => ⟨b, o, cap, Bk, h1, h2, h3, h4, h5, fun j hj => by rw [h6 j hj, vth_vints (by rw [s.1]; exact hj)]⟩⟩
theorem VS.is {lo hi k n : Nat} {h : Heap} {x : Value} {l : List Int} (s : VS lo hi k h x n (vints l)) : IS lo hi k h x n l := by
  have h0 : l.length = n * k := by rw [← s.1, vints_len]
  refine ⟨h0, s.2.imp id fun ⟨b, o, cap, Bk, h1, h2, h3, h4, h5, h6⟩ => ⟨b, o, cap, Bk, h1, h2, h3, h4, h5, fun j hj => by rw [h6 j hj, vth_vints (by rw [h0]; exact hj)]⟩⟩
section vs
variable {lo hi k n : Nat} {h : Heap} {x : Value} {L : List Value}
theorem VS.frame {h' : Heap} (s : VS lo hi k h x n L) (hh : ∀ b, lo ≤ b → b < hi → h'[b]? = h[b]?) : VS lo hi k h' x n L :=
  ⟨s.1, s.2.imp id fun ⟨b, o, cap, Bk, h1, h2, h3, h4, h5⟩ => ⟨b, o, cap, Bk, h1, h2, h3, by rw [hh b h2 h3]; exact h4, h5⟩⟩
theorem VS.frb {h' : Heap} (s : VS lo hi k h x n L) (hh : h'[bOf x]? = h[bOf x]?) : VS lo hi k h' x n L := by
  refine ⟨s.1, s.2.imp id fun ⟨b, o, cap, Bk, h1, h2, h3, h4, h5⟩ => ⟨b, o, cap, Bk, h1, h2, h3, ?_, h5⟩⟩
  subst h1
  exact (show h'[b]? = h[b]? from hh).trans h4
theorem VS.pre {h' : Heap} (s : VS lo hi k h x n L) (hh : Pfx h h') : VS lo hi k h' x n L :=
  ⟨s.1, s.2.imp id fun ⟨b, o, cap, Bk, h1, h2, h3, h4, h5⟩ => ⟨b, o, cap, Bk, h1, h2, h3, by rw [hh.get (lt_of_some h4)]; exact h4, h5⟩⟩
theorem VS.rng {lo' hi' : Nat} {h' : Heap} (s : VS lo hi k h x n L) (r : Rng lo' hi' h h') (hd : hi ≤ lo' ∨ hi' ≤ lo) : VS lo hi k h' x n L := s.frame fun b h1 h2 => r.2 b (by omega)
theorem VS.wide {lo' hi' : Nat} (s : VS lo hi k h x n L) (h1 : lo' ≤ lo) (h2 : hi ≤ hi') : VS lo' hi' k h x n L :=
  ⟨s.1, s.2.imp id fun ⟨b, o, cap, Bk, h3, h4, h5, h6⟩ => ⟨b, o, cap, Bk, h3, by omega, by omega, h6⟩⟩
theorem VS.len {t e : TypeId} (s : VS lo hi k h x n L) (hu : P.underlying t = some (.slice e)) (h' : Heap) : ablt P ro .len [t] [x] h' = some (.int .i64 n, h') := by
  rcases s.2 with ⟨rfl, rfl⟩ | ⟨b, o, cap, Bk, rfl, _⟩ <;> exact len_slc hu
theorem VS.iad {t e : TypeId} (s : VS lo hi k h x n L) (hu : P.underlying t = some (.slice e)) (hs : szT P e = some k) (kk : IntKind) {i : Int} (h0 : 0 ≤ i) (h1 : i < n) : iadr P t x (.int kk i) = some (ea x (i.toNat * k)) := by
  rcases s.2 with ⟨rfl, rfl⟩ | ⟨b, o, cap, Bk, rfl, _⟩
  · omega
  · exact iadr_slc hu hs h0 h1
theorem VS.fad {s f q ty m : Nat} (hI : VS lo hi k h x n L) (hf : fieldOf P s f = some (q, ty, m)) (hm : m ≠ 0) (c : Nat) (hn : 0 < n) : fadr P s (ea x c) f = some (ea x (c + q)) := by
  rcases hI.2 with ⟨rfl, rfl⟩ | ⟨b, o, cap, Bk, rfl, _⟩
  · omega
  · simp only [ea, fadr_of hf hm, Nat.add_assoc]
theorem VS.ld1 {t : TypeId} (s : VS lo hi k h x n L) (hs : szT P t = some 1) (ha : aggT P t = false) {c : Nat} (hc : c < n * k) : ld P h t (ea x c) = some (vth L c) := by
  rcases s.2 with ⟨rfl, rfl⟩ | ⟨b, o, cap, Bk, rfl, h1, h2, h3, h4, h5⟩
  · omega
  · simp only [ea, ld_sc hs ha, cell, h3, Option.bind_some]; exact h5 c hc
theorem VS.ldm {t m : Nat} (s : VS lo hi k h x n L) (hs : szT P t = some m) (ha : aggT P t = true) {c : Nat} (hn : 0 < n) (hc : c + m ≤ n * k) : ld P h t (ea x c) = some (.agg ⟨vals L c m⟩) := by
  rcases s.2 with ⟨rfl, rfl⟩ | ⟨b, o, cap, Bk, rfl, h1, h2, h3, h4, h5⟩
  · omega
  · simp only [ea, ld_agg hs ha, cells, h3, Option.bind_some]
    rw [if_pos (by omega)]
    congr 3
    refine List.ext_getElem? fun j => ?_
    simp only [vals, List.getElem?_map, List.getElem?_take, List.getElem?_drop]
    rcases Nat.lt_or_ge j m with q | q
    · rw [if_pos q, List.getElem?_range q, Nat.add_assoc, h5 (c + j) (by omega)]; rfl
    · rw [if_neg (by omega), List.getElem?_eq_none (by simpa using q)]; rfl
theorem VS.skip (s : VS lo hi k h x n L) (t : TypeId) (c : Nat) (g : Heap) (C : Blk) (hn : 0 < n) (hg : bOf x < g.length) : ld P (g ++ [C]) t (ea x c) = ld P g t (ea x c) := by
  rcases s.2 with ⟨rfl, rfl⟩ | ⟨b, o, cap, Bk, rfl, _⟩
  · omega
  · have hb : b < g.length := hg
    simp only [ea, ld, get_skip hb]
theorem VS.bof (s : VS lo hi k h x n L) (hn : 0 < n) : lo ≤ bOf x ∧ bOf x < hi ∧ bOf x < h.length := by
  rcases s.2 with ⟨rfl, rfl⟩ | ⟨b, o, cap, Bk, rfl, h1, h2, h3, _⟩
  · omega
  · exact ⟨h1, h2, lt_of_some h3⟩
theorem VS.lt (s : VS lo hi k h x n L) : x = .slice none 0 0 ∨ (lo ≤ bOf x ∧ bOf x < hi ∧ bOf x < h.length) := by
  rcases s.2 with ⟨rfl, rfl⟩ | ⟨b, o, cap, Bk, rfl, h1, h2, h3, _⟩
  · exact .inl rfl
  · exact .inr ⟨h1, h2, lt_of_some h3⟩
theorem VS.shape (s : VS lo hi k h x n L) : Sim.flat x = false ∧ cellsOf x = [x] ∧ one x = true := by
  rcases s.2 with ⟨rfl, rfl⟩ | ⟨b, o, cap, Bk, rfl, _⟩ <;> exact ⟨rfl, rfl, rfl⟩
theorem VS.lenV (s : VS lo hi k h x n L) : lenV x = n := by
  rcases s.2 with ⟨rfl, rfl⟩ | ⟨b, o, cap, Bk, rfl, _⟩ <;> rfl
theorem VS.row (s : VS lo hi k h x n L) : rowOf h x k = some L := by
  rcases s.2 with ⟨rfl, rfl⟩ | ⟨b, o, cap, Bk, rfl, h1, h2, h3, h4, h5⟩
  · have := s.1
    rw [Nat.zero_mul] at this
    rw [List.length_eq_zero_iff.1 this]; rfl
  · simp only [rowOf, h3, Option.bind_some]
    rw [if_pos h4]
    congr 1
    refine List.ext_getElem? fun j => ?_
    rw [List.getElem?_take, List.getElem?_drop]
    by_cases q : j < n * k
    · rw [if_pos q, h5 j q, vth_get (by rw [s.1]; exact q)]
    · rw [if_neg q, List.getElem?_eq_none (by rw [s.1]; omega)]
/-- A store to one cell. -/
theorem VS.sto (s : VS lo hi k h x n L) {c : Nat} (hc : c < n * k) (v : Value) : VS lo hi k (sto h x c v) x n (L.set c v) := by
  refine ⟨by rw [List.length_set]; exact s.1, ?_⟩
  rcases s.2 with ⟨rfl, rfl⟩ | ⟨b, o, cap, Bk, rfl, h1, h2, h3, h4, h5⟩
  · omega
  · refine .inr ⟨b, o, cap, ⟨Bk.ty, Bk.cells.set (o + c) v⟩, rfl, h1, h2, ?_, by simpa using h4, fun j hj => ?_⟩
    · simp only [Sim.sto, h3]
      rw [List.getElem?_set_self (lt_of_some h3)]
    · simp only [List.getElem?_set]
      by_cases e : c = j
      · subst e
        rw [if_pos rfl, if_pos (by omega), vth_set (by rw [s.1]; exact hc), if_pos rfl]
      · rw [if_neg (by omega), h5 j hj, vth_set (by rw [s.1]; exact hc), if_neg e]
theorem VS.stv {t : TypeId} {c : Nat} {v : Value} (s : VS lo hi k h x n L) (hs : szT P t = some 1) (hro : ro ≤ lo) (hv : cellsOf v = [v]) (h1 : one v = true) (hc : c < n * k) : stv P ro h t (ea x c) v = some (Sim.sto h x c v) := by
  rcases s.2 with ⟨rfl, rfl⟩ | ⟨b, o, cap, Bk, rfl, h2, h3, h4, h5, h6⟩
  · omega
  · simp only [ea, stv_put hs, put, Sim.sto, h4, Option.bind_some]
    rw [if_pos (by omega), hv, if_pos ⟨rfl, by simp only [List.length_cons, List.length_nil]; omega, by simp [h1]⟩]
    rw [splice_set (by omega)]
theorem VS.rsto (s : VS lo hi k h x n L) (hn : 0 < n) (c : Nat) (v : Value) : Rng lo hi h (Sim.sto h x c v) := (only_sto h x c v).rng (s.bof hn).1 (s.bof hn).2.1
end vs

/-! ### Slices that grow -/
/-- A slice that may grow: it has a block of its own. -/
def VG (lo t k : Nat) (h : Heap) (x : Value) (n : Nat) (L : List Value) : Prop :=
  L.length = n * k ∧ ∃ b cap, x = .slice (some ⟨b, 0, none⟩) n cap ∧ lo ≤ b ∧ h[b]? = some ⟨t, L⟩ ∧ (n = 0 → cap = 0)
/-- .., or nil. -/
def VN (lo t k : Nat) (h : Heap) (x : Value) (n : Nat) (L : List Value) : Prop := VG lo t k h x n L ∨ (n = 0 ∧ L = [] ∧ x = .slice none 0 0)
section vg
variable {lo t k n : Nat} {h h' : Heap} {x : Value} {L : List Value}
theorem VG.bof (g : VG lo t k h x n L) : lo ≤ bOf x ∧ bOf x < h.length := by
  obtain ⟨hl, b, cap, rfl, hb, hg, hc⟩ := g
  exact ⟨hb, lt_of_some hg⟩
theorem VG.vs (g : VG lo t k h x n L) : VS (bOf x) (bOf x + 1) k h x n L := by
  obtain ⟨hl, b, cap, rfl, hb, hg, _⟩ := g
  exact ⟨hl, .inr ⟨b, 0, cap, _, rfl, Nat.le_refl _, Nat.lt_succ_self _, hg, by show 0 + n * k ≤ L.length; omega, fun j hj => by rw [Nat.zero_add]; exact vth_get (show j < L.length by omega)⟩⟩
theorem VG.vsl (g : VG lo t k h x n L) : VS lo h.length k h x n L := g.vs.wide g.bof.1 g.bof.2
theorem VG.frame (g : VG lo t k h x n L) (hh : h'[bOf x]? = h[bOf x]?) : VG lo t k h' x n L := by
  obtain ⟨hl, b, cap, rfl, hb, hg, hc⟩ := g
  exact ⟨hl, b, cap, rfl, hb, by rw [show h'[b]? = h[b]? from hh]; exact hg, hc⟩
theorem VG.pre (g : VG lo t k h x n L) (p : Pfx h h') : VG lo t k h' x n L := g.frame (p.get g.bof.2)
theorem VG.sto (g : VG lo t k h x n L) {c : Nat} (hc : c < n * k) (v : Value) : VG lo t k (Sim.sto h x c v) x n (L.set c v) := by
  obtain ⟨hl, b, cap, rfl, hb, hg, h0⟩ := g
  refine ⟨by rw [List.length_set]; exact hl, b, cap, rfl, hb, ?_, h0⟩
  simp only [Sim.sto, hg, Nat.zero_add]
  rw [List.getElem?_set_self (lt_of_some hg)]
theorem VG.low {lo' : Nat} (g : VG lo t k h x n L) (hl : lo' ≤ lo) : VG lo' t k h x n L := by
  obtain ⟨h1, b, cap, h2, h3, h4⟩ := g
  exact ⟨h1, b, cap, h2, by omega, h4⟩
theorem VN.vs (g : VN lo t k h x n L) : VS lo h.length k h x n L := by
  rcases g with g | ⟨rfl, rfl, rfl⟩
  · exact g.vsl
  · exact ⟨by simp, .inl ⟨rfl, rfl⟩⟩
theorem VN.frame (g : VN lo t k h x n L) (hh : x ≠ .slice none 0 0 → h'[bOf x]? = h[bOf x]?) : VN lo t k h' x n L := by
  rcases g with g | g
  · exact .inl (g.frame (hh (by obtain ⟨_, b, cap, rfl, _⟩ := g; simp)))
  · exact .inr g
theorem VN.pre (g : VN lo t k h x n L) (p : Pfx h h') : VN lo t k h' x n L := by
  rcases g with g | g
  · exact .inl (g.pre p)
  · exact .inr g
theorem vg_new {lo t k : Nat} (h : Heap) (hlo : lo ≤ h.length) : VG lo t k (h ++ [⟨t, []⟩]) (.slice (some ⟨h.length, 0, none⟩) 0 0) 0 [] := ⟨by simp, h.length, 0, rfl, hlo, by simp, fun _ => rfl⟩
theorem vg_lit {lo t k n : Nat} (h : Heap) (hlo : lo ≤ h.length) {L : List Value} (hl : L.length = n * k) : VG lo t k (h ++ [⟨t, L⟩]) (.slice (some ⟨h.length, 0, none⟩) n n) n L := ⟨hl, h.length, n, rfl, hlo, by simp, fun e => e⟩
theorem vn_nil {lo t k : Nat} (h : Heap) : VN lo t k h (.slice none 0 0) 0 [] := .inr ⟨rfl, rfl, rfl⟩
/-- What an append leaves. -/
def apv (h : Heap) (x : Value) (n t : Nat) (L : List Value) : Heap := (if capOf x = n then h else (h.set (bOf x) ⟨t, []⟩)) ++ [⟨t, L⟩]
theorem apv_len (h : Heap) (x : Value) (n t : Nat) (L : List Value) : (apv h x n t L).length = h.length + 1 := by
  unfold apv; split <;> simp
theorem apv_get {h : Heap} {x : Value} {n t : Nat} {L : List Value} {b : Nat} (hb : b < h.length) (hne : b ≠ bOf x) : (apv h x n t L)[b]? = h[b]? := by
  unfold apv
  split
  · exact List.getElem?_append_left hb
  · rw [List.getElem?_append_left (by simpa using hb), List.getElem?_set, if_neg (fun e => hne e.symm)]
theorem apv_last {h : Heap} {x : Value} {n t : Nat} {L : List Value} : (apv h x n t L)[h.length]? = some ⟨t, L⟩ := by
  unfold apv
  split
  · simp
  · rw [List.getElem?_append_right (by simp)]; simp
theorem apv_getN (g : VN lo t k h x n L) {M : List Value} {b : Nat} (hb : b < h.length) (hne : x = .slice none 0 0 ∨ b ≠ bOf x) : (apv h x n t M)[b]? = h[b]? := by
  rcases hne with rfl | hne
  · rcases g with ⟨_, _, _, h1, _⟩ | ⟨rfl, rfl, _⟩
    · cases h1
    · unfold apv; rw [if_pos (show capOf (.slice none 0 0) = 0 from rfl)]; exact List.getElem?_append_left hb
  · exact apv_get hb hne
theorem vg_apv {m : Nat} {M : List Value} (hM : M.length = m * k) (hm : 0 < m) (hlo : lo ≤ h.length) : VG lo t k (apv h x n t M) (.slice (some ⟨h.length, 0, none⟩) m (m + 1)) m M :=
  ⟨hM, h.length, m + 1, rfl, hlo, apv_last, by omega⟩
theorem Pfx.apv {h0 : Heap} {M : List Value} (p : Pfx h0 h) (g : VN lo t k h x n L) (hb : h0.length ≤ lo) : Pfx h0 (apv h x n t M) := by
  have hl := p.len
  refine List.ext_getElem? fun j => ?_
  rw [List.getElem?_take]
  by_cases q : j < h0.length
  · rw [if_pos q]
    have : (Sim.apv h x n t M)[j]? = h[j]? := by
      rcases g with g | ⟨rfl, rfl, rfl⟩
      · exact apv_get (by omega) (by have := g.bof.1; omega)
      · unfold Sim.apv; rw [if_pos (show capOf (.slice none 0 0) = 0 from rfl)]; exact List.getElem?_append_left (by omega)
    rw [this]; exact p.get q
  · rw [if_neg q, List.getElem?_eq_none (by omega)]
/-- append of a slice, or of a text, to one that may grow. -/
theorem ablt_apv {T u e by_ m : Nat} {z y : Value} {M : List Value} (he : elemT P T = some e) (hs : szT P e = some k) (hb : byT P e = some by_) (hz : zeroT P e = some z) (hk : 0 < k) (hu : u = T ∨ strT P u = true) (g : VN lo e k h x n L) (hro : ro ≤ lo)
    (hy : newsOf h y k = some M) (hyl : Sim.lenV y = m) (hm : M.length = m * k) (hm0 : 0 < m) (h1 : M.all one = true) (hn : (n + m) * by_ ≤ 140737488355328) (hn' : n + m ≤ 4611686018427387904) :
    ablt P ro .append [T, u] [x, y] h = some (.slice (some ⟨h.length, 0, none⟩) (n + m) (n + m + 1), apv h x n e (L ++ M)) := by
  rcases g with ⟨hl, b, cap, rfl, hlo, hg, hc⟩ | ⟨rfl, rfl, rfl⟩
  · have r1 : rowOf h (.slice (some ⟨b, 0, none⟩) n cap) k = some L := by
      simp only [rowOf, hg, Option.bind_some]
      rw [if_pos (show 0 + n * k ≤ L.length by omega), List.drop_zero, List.take_of_length_le (show L.length ≤ n * k by omega)]
    have ex : lenV (.slice (some ⟨b, 0, none⟩) n cap) = n := rfl
    simp only [ablt, if_pos hu, app, he, hs, hb, hz, Option.bind_some, r1, hy, hyl, ex, Option.isSome_some, not_true_eq_false, or_false]
    rw [if_neg (by omega), if_neg (by omega), if_neg (by rw [Classical.not_not]; exact ⟨hn, by omega, h1, hm⟩)]
    by_cases hcn : cap = n
    · rw [if_pos hcn]
      have e1 : apv h (.slice (some ⟨b, 0, none⟩) n cap) n e (L ++ M) = h ++ [⟨e, L ++ M⟩] := by unfold apv; rw [if_pos (show capOf (.slice (some ⟨b, 0, none⟩) n cap) = n from hcn)]
      rw [e1]
    · have hn0 : n ≠ 0 := fun e => hcn (by rw [hc e, e])
      rw [if_neg hcn, if_pos ⟨by omega, trivial, by omega, by rw [show h[b]? = some ⟨e, L⟩ from hg]; simp only [Option.map_some, hl]⟩]
      have e1 : apv h (.slice (some ⟨b, 0, none⟩) n cap) n e (L ++ M) = h.set b ⟨e, []⟩ ++ [⟨e, L ++ M⟩] := by unfold apv; rw [if_neg (show ¬ capOf (.slice (some ⟨b, 0, none⟩) n cap) = n from hcn)]; rfl
      rw [e1]
  · have ex : lenV (.slice none 0 0) = 0 := rfl
    simp only [ablt, if_pos hu, app, he, hs, hb, hz, Option.bind_some, rowOf, hy, hyl, ex, Option.isSome_some, not_true_eq_false, or_false]
    rw [if_neg (by omega), if_neg (by omega), if_neg (by rw [Classical.not_not]; exact ⟨hn, by omega, h1, hm⟩)]
    have e1 : apv h (.slice none 0 0) 0 e ([] ++ M) = h ++ [⟨e, [] ++ M⟩] := by unfold apv; rw [if_pos (show capOf (.slice none 0 0) = 0 from rfl)]
    rw [e1, Nat.zero_add]; rfl
/-- append of nothing. -/
theorem ablt_ap0 {T u e by_ : Nat} {z y : Value} {old M : List Value} (he : elemT P T = some e) (hs : szT P e = some k) (hb : byT P e = some by_) (hz : zeroT P e = some z) (hk : 0 < k) (hu : u = T ∨ strT P u = true) (hx : rowOf h x k = some old)
    (hy : newsOf h y k = some M) (hyl : Sim.lenV y = 0) : ablt P ro .append [T, u] [x, y] h = some (x, h) := by
  simp only [ablt, if_pos hu, app, he, hs, hb, hz, Option.bind_some, hx, hy, hyl, Option.isSome_some, not_true_eq_false, or_false]
  rw [if_neg (by omega), if_pos trivial]
theorem VS.news {lo' hi' : Nat} {y : Value} {m : Nat} {M : List Value} (s : VS lo' hi' k h y m M) : newsOf h y k = some M ∧ Sim.lenV y = m := by
  refine ⟨?_, s.lenV⟩
  have := s.row
  rcases s.2 with ⟨rfl, rfl⟩ | ⟨b, o, cap, Bk, rfl, _⟩ <;> exact this
theorem news_one {e m c : Nat} {v : Value} (hm : h[m]? = some ⟨e, [v]⟩) : newsOf h (.slice (some ⟨m, 0, none⟩) 1 c) 1 = some [v] := by
  simp only [newsOf, rowOf, hm, Option.bind_some]
  rw [if_pos (by simp)]; simp
theorem news_blk {e m j c : Nat} {M : List Value} (hm : h[m]? = some ⟨e, M⟩) (hl : M.length = j * k) : newsOf h (.slice (some ⟨m, 0, none⟩) j c) k = some M := by
  simp only [newsOf, rowOf, hm, Option.bind_some]
  rw [if_pos (show 0 + j * k ≤ M.length by omega), List.drop_zero, List.take_of_length_le (show M.length ≤ j * k by omega)]
/-- append of one element of one cell. -/
theorem ablt_ap1 {lo n e e' T by_ m c : Nat} {h : Heap} {x z v : Value} {L : List Value} (he : elemT P T = some e) (hs : szT P e = some 1) (hb : byT P e = some by_) (hz : zeroT P e = some z) (g : VN lo e 1 h x n L) (hro : ro ≤ lo)
    (hm : h[m]? = some ⟨e', [v]⟩) (h1 : one v = true) (hn : (n + 1) * by_ ≤ 140737488355328) (hn' : n + 1 ≤ 4611686018427387904) :
    ablt P ro .append [T, T] [x, .slice (some ⟨m, 0, none⟩) 1 c] h = some (.slice (some ⟨h.length, 0, none⟩) (n + 1) (n + 1 + 1), apv h x n e (L ++ [v])) :=
  ablt_apv he hs hb hz (by decide) (.inl rfl) g hro (m := 1) (news_blk (j := 1) hm rfl) rfl rfl (by decide) (by simp [h1]) hn hn'
end vg
theorem box_one {x : Value} (hx : cellsOf x = [x]) (h1 : one x = true) (g : Heap) (t : TypeId) : boxV g t x = some (.pointer (some ⟨g.length, 0, none⟩), g ++ [⟨t, [x]⟩]) := by
  rw [box_go (by rw [hx]; simp [h1]), hx]
theorem cellb {h : Heap} {b o : Nat} {t : TypeId} {cs : List Value} (hb : h[b]? = some ⟨t, cs⟩) : cell h b o = cs[o]? := by simp only [cell, hb, Option.bind_some]
/-- A loop whose ends meet again. -/
theorem loop_cut {c : Code} {Q : Ex → Env → Heap → Prop} {e : Env} {h : Heap} (M : Ex → Env → Heap → Prop) (hl : LoopP P ro X c M e h) (k : ∀ x e h, M x e h → Q x e h) : LoopP P ro X c Q e h := W_mono hl k
theorem loop_exit {c : Code} {Q : Ex → Env → Heap → Prop} {e : Env} {h : Heap} (id : Nat) (M : Env → Heap → Prop) (hl : LoopP P ro X c (fun x e h => x = .exit id ∧ M e h) e h) (k : ∀ e h, M e h → Q (.exit id) e h) : LoopP P ro X c Q e h := W_mono hl fun x e h ⟨hx, hm⟩ => by rw [hx]; exact k e h hm
theorem nth_take {l : List Int} {k j : Nat} (h : j < k) : nth (l.take k) j = nth l j := by
  simp only [nth, List.getD_eq_getElem?_getD, List.getElem?_take, if_pos h]
theorem take_all {l : List Int} {k : Nat} (hk : k < l.length) (p : Int → Bool) : (l.take (k + 1)).all p = ((l.take k).all p && p (nth l k)) := by
  rw [List.take_succ_eq_append_getElem hk, List.all_append]
  simp [nth, hk]
end Go.Proofs.Yteignhphimfmkaa.Sim
