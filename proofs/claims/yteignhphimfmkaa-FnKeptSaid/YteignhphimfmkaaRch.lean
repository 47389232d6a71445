
/- Rows of frames; the frames that bytes begin with: the reference's. Lemmas only; no condition. -/
import Derived.Test.YteignhphimfmkaaRcg
set_option linter.unusedSimpArgs false
set_option linter.unusedVariables false
set_option maxRecDepth 8000
namespace Go.Proofs.Yteignhphimfmkaa.Sim
open Go Go.RowKit
variable {ro : Nat} {X : Ext}
/-- append of one element of 'k' cells, made on the spot. -/
theorem accK {P : Program} {lo n k e T by_ : Nat} {h : Heap} {x z : Value} {L M : List Value} (he : elemT P T = some e) (hs : szT P e = some k) (hb : byT P e = some by_) (hz : zeroT P e = some z) (hk : 0 < k) (g : VN lo e k h x n L) (hro : ro ≤ lo) (hlo : lo ≤ h.length)
    (hM : M.length = k) (h1 : M.all one = true) (hn : (n + 1) * by_ ≤ 140737488355328) (hn' : n + 1 ≤ 4611686018427387904) :
    ∃ H, ablt P ro .append [T, T] [x, .slice (some ⟨h.length, 0, none⟩) 1 1] (h ++ [⟨e, M⟩]) = some (.slice (some ⟨h.length + 1, 0, none⟩) (n + 1) (n + 1 + 1), H) ∧ VG lo e k H (.slice (some ⟨h.length + 1, 0, none⟩) (n + 1) (n + 1 + 1)) (n + 1) (L ++ M) ∧ Old lo x h H ∧ H.length = h.length + 2 := by
  have p1 := (Pfx.refl h).snoc (C := ⟨e, M⟩)
  have q1 : (h ++ [(⟨e, M⟩ : Blk)]).length = h.length + 1 := by simp
  have g1 := g.pre p1
  have hll : L.length = n * k := by
    rcases g with g | ⟨rfl, rfl, _⟩
    · exact g.1
    · simp
  have ap := ablt_apv (ro := ro) he hs hb hz hk (.inl rfl) g1 hro (y := .slice (some ⟨h.length, 0, none⟩) 1 1) (M := M) (m := 1) (news_blk (j := 1) (get_last rfl) (by omega)) rfl (by omega) (by decide) h1 hn hn'
  rw [q1] at ap
  refine ⟨_, ap, ?_, ⟨fun h0 hp hl => Pfx.apv (hp.trans p1) g1 hl, fun b hb hne => ?_, ?_⟩, ?_⟩
  · have := vg_apv (lo := lo) (t := e) (k := k) (h := h ++ [(⟨e, M⟩ : Blk)]) (x := x) (n := n) (m := n + 1) (M := L ++ M) (by rw [List.length_append, hll, hM, Nat.add_mul, Nat.one_mul]) (by omega) (by omega)
    rw [q1] at this
    exact this
  · rw [apv_getN g1 (by omega) hne]; exact get_skip hb
  · rw [apv_len, q1]; omega
  · rw [apv_len, q1]
/-- Frames in a row: an index and numbers each; the numbers of each in another block, and none in the block 'bx'. -/
structure NF (lo hi : Nat) (h : Heap) (bx n m : Nat) (L : List Value) (ix : Nat → Int) (zs : Nat → List Value) : Prop where
  len : L.length = m * 2
  idx : ∀ j, j < m → vth L (j * 2) = .int .i64 (ix j)
  row : ∀ j, j < m → VS (bOf (vth L (j * 2 + 1))) (bOf (vth L (j * 2 + 1)) + 1) 1 h (vth L (j * 2 + 1)) n (zs j)
  rng : ∀ j, j < m → lo ≤ bOf (vth L (j * 2 + 1)) ∧ bOf (vth L (j * 2 + 1)) < hi
  out : ∀ j, j < m → bOf (vth L (j * 2 + 1)) ≠ bx
  sep : ∀ i j, i ≠ j → i < m → j < m → bOf (vth L (i * 2 + 1)) ≠ bOf (vth L (j * 2 + 1))
section nf
variable {lo hi bx n m : Nat} {h : Heap} {L : List Value} {ix : Nat → Int} {zs : Nat → List Value}
theorem NF.nil : NF lo hi h bx n 0 [] ix zs := ⟨rfl, fun j hj => by omega, fun j hj => by omega, fun j hj => by omega, fun j hj => by omega, fun i j _ hi => by omega⟩
theorem NF.frame {h' : Heap} (g : NF lo hi h bx n m L ix zs) (hh : ∀ b, lo ≤ b → b < hi → b ≠ bx → h'[b]? = h[b]?) : NF lo hi h' bx n m L ix zs :=
  ⟨g.len, g.idx, fun i hi => (g.row i hi).frame fun b h1 h2 => by
    obtain rfl : b = bOf (vth L (i * 2 + 1)) := by omega
    exact hh _ (g.rng i hi).1 (g.rng i hi).2 (g.out i hi), g.rng, g.out, g.sep⟩
theorem NF.wide {lo' hi' : Nat} (g : NF lo hi h bx n m L ix zs) (h1 : lo' ≤ lo) (h2 : hi ≤ hi') : NF lo' hi' h bx n m L ix zs :=
  ⟨g.len, g.idx, g.row, fun i hi => by have := g.rng i hi; omega, g.out, g.sep⟩
theorem NF.pre {h' : Heap} (g : NF lo hi h bx n m L ix zs) (p : Pfx h h') : NF lo hi h' bx n m L ix zs :=
  ⟨g.len, g.idx, fun i hi => (g.row i hi).pre p, g.rng, g.out, g.sep⟩
theorem NF.push {h' : Heap} {bx' hi' : Nat} {y : Value} (g : NF lo hi h bx n m L ix zs) (hh : ∀ b, lo ≤ b → b < hi → b ≠ bx → h'[b]? = h[b]?) (hy : VS (bOf y) (bOf y + 1) 1 h' y n (zs m)) (hb : hi ≤ bOf y) (hlo : lo ≤ hi) (hb' : bOf y < hi') (hbx : bOf y ≠ bx') (hi1 : hi ≤ bx') (hi2 : hi ≤ hi') :
    NF lo hi' h' bx' n (m + 1) (L ++ [.int .i64 (ix m), y]) ix zs := by
  have hl := g.len
  have old : ∀ i, i < m * 2 → vth (L ++ [.int .i64 (ix m), y]) i = vth L i := fun i hi => vth_append_left (by omega)
  have new0 : vth (L ++ [.int .i64 (ix m), y]) (m * 2) = .int .i64 (ix m) := by rw [vth_append_right (by omega), hl, Nat.sub_self]; rfl
  have new1 : vth (L ++ [.int .i64 (ix m), y]) (m * 2 + 1) = y := by rw [vth_append_right (by omega), hl, show m * 2 + 1 - m * 2 = 1 by omega]; rfl
  refine ⟨by simp [hl]; omega, fun j hj => ?_, fun j hj => ?_, fun j hj => ?_, fun j hj => ?_, fun i j hij hi hj => ?_⟩
  · by_cases q : j = m
    · subst q; exact new0
    · rw [old _ (by omega)]; exact g.idx j (by omega)
  · by_cases q : j = m
    · subst q; rw [new1]; exact hy
    · rw [old _ (by omega)]; exact (g.frame hh).row j (by omega)
  · by_cases q : j = m
    · subst q; rw [new1]; omega
    · rw [old _ (by omega)]; have := g.rng j (by omega); omega
  · by_cases q : j = m
    · subst q; rw [new1]; exact hbx
    · rw [old _ (by omega)]; have := g.rng j (by omega); omega
  · by_cases q : i = m
    · subst q
      rw [new1, old _ (by omega)]
      have := g.rng j (by omega); omega
    · by_cases q' : j = m
      · subst q'
        rw [new1, old _ (by omega)]
        have := g.rng i (by omega); omega
      · rw [old _ (by omega), old _ (by omega)]
        exact g.sep i j hij (by omega) (by omega)
end nf
/-- Where the frames lie, and which. -/
def posN (l : List UInt8) (j : Nat) : Nat := 5 + j * (6 + 8 * elN l)
def ixN (l : List UInt8) (j : Nat) : Int := wd l (posN l j)
def zsN (l : List UInt8) (j : Nat) : List Value := (atZ l (posN l j) (elN l)).map cpx
def lastN (l : List UInt8) (j : Nat) : Int := if j = 0 then -1 else ixN l (j - 1)
def okJ (l : List UInt8) (j : Nat) : Bool := atOk l (posN l j) (elN l) && decide (lastN l j < ixN l j)
theorem posN_succ (l : List UInt8) (j : Nat) : posN l (j + 1) = posN l j + (6 + 8 * elN l) := by
  unfold posN
  rw [Nat.add_mul]
  omega
theorem posN_le {l : List UInt8} {j : Nat} (hn : elN l ≤ 16) (hj : j ≤ 64) : posN l j ≤ 10000 := by
  unfold posN
  have : j * (6 + 8 * elN l) ≤ 64 * 134 := Nat.mul_le_mul hj (by omega)
  omega
theorem atOk_len {l : List UInt8} {a n : Nat} (h : atOk l a n = true) : a + (6 + 8 * n) ≤ l.length := by
  simp only [atOk, Bool.and_eq_true, decide_eq_true_eq] at h
  exact h.1.1
/-- How many frames there are. -/
def Cnt (l : List UInt8) (m : Nat) : Prop := m ≤ 64 ∧ (∀ j, j < m → okJ l j = true) ∧ (m = 64 ∨ okJ l m = false)
theorem Cnt.uniq {l : List UInt8} {m m' : Nat} (a : Cnt l m) (b : Cnt l m') : m = m' := by
  rcases Nat.lt_trichotomy m m' with q | q | q
  · have := b.2.1 m q
    rcases a.2.2 with w | w
    · have := b.1; omega
    · rw [this] at w; cases w
  · exact q
  · have := a.2.1 m' q
    rcases b.2.2 with w | w
    · have := a.1; omega
    · rw [this] at w; cases w
/-- A record's frames in memory. -/
def FrS (lo : Nat) (h : Heap) (x : Value) (n m : Nat) (L : List Value) (ix : Nat → Int) (zs : Nat → List Value) : Prop := VN lo 41 2 h x m L ∧ NF lo h.length h (bOf x) n m L ix zs
/-- What l10Recover returns. -/
def RcS (l : List UInt8) (h h' : Heap) (r : Value) : Prop :=
  Pfx h h' ∧ ((hdrOk l = false ∧ ∃ i y, r = .tuple ⟨[.agg ⟨[.int .i64 i, y]⟩, .int .i64 0, .bool false]⟩ ∧ one y = true ∧ cellsOf y = [y]) ∨
    (hdrOk l = true ∧ ∃ m x L, Cnt l m ∧ r = .tuple ⟨[.agg ⟨[.int .i64 (elN l), x]⟩, .int .i64 (posN l m), .bool true]⟩ ∧ FrS h.length h' x (elN l) m L (ixN l) (zsN l)))
end Go.Proofs.Yteignhphimfmkaa.Sim
