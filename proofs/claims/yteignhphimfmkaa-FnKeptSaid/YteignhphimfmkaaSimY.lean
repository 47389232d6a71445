/- New slices of whole numbers: made, filled, and stores of whole structs. Lemmas only; no condition. -/
import Derived.Test.YteignhphimfmkaaSimV
set_option linter.unusedSimpArgs false
set_option linter.unusedVariables false
namespace Go.Proofs.Yteignhphimfmkaa.Sim
open Go Go.RowKit

variable {P : Program} {ro : Nat} {B : Base} {X : Ext}
def vints (l : List Int) : List Value := l.map (.int .i64)
theorem vints_nil : vints [] = [] := rfl
theorem vints_cons (a : Int) (l : List Int) : vints (a :: l) = .int .i64 a :: vints l := rfl
theorem vints_len (l : List Int) : (vints l).length = l.length := List.length_map ..
theorem vints_one (l : List Int) : (vints l).all one = true := by induction l <;> simp_all [vints, one_int]
/-- Stores of so many numbers, one after another. -/
def stos (h : Heap) (x : Value) (c : Nat) : List Int → Heap
  | [] => h
  | v :: r => stos (sto h x c (.int .i64 v)) x (c + 1) r
/-- A list whose numbers from a place on are others. -/
def sets (l : List Int) (c : Nat) : List Int → List Int
  | [] => l
  | v :: r => sets (l.set c v) (c + 1) r
theorem IS.stos {lo hi k n : Nat} {x : Value} : ∀ {vs : List Int} {h : Heap} {l : List Int} {c : Nat}, IS lo hi k h x n l → c + vs.length ≤ n * k → IS lo hi k (stos h x c vs) x n (sets l c vs)
  | [], _, _, _, s, _ => s
  | v :: r, h, l, c, s, hc => by
    simp only [List.length_cons] at hc
    exact IS.stos (c := c + 1) (s.sto (c := c) (by omega) v) (by omega)
theorem only_stos (x : Value) : ∀ (vs : List Int) (h : Heap) (c : Nat), Only (bOf x) h (stos h x c vs)
  | [], h, _ => .refl _ h
  | v :: r, h, c => (only_sto h x c _).trans (only_stos x r _ _)
theorem stos_eq {b o n cap : Nat} : ∀ (vs : List Int) {h : Heap} {c : Nat} {Bk : Blk}, h[b]? = some Bk → o + c + vs.length ≤ Bk.cells.length → stos h (.slice (some ⟨b, o, none⟩) n cap) c vs = h.set b ⟨Bk.ty, splice Bk.cells (o + c) (vints vs)⟩
  | [], h, c, Bk, hb, hl => by
    have hlt : b < h.length := by
      rcases Nat.lt_or_ge b h.length with q | q
      · exact q
      · rw [List.getElem?_eq_none q] at hb; cases hb
    have e : splice Bk.cells (o + c) [] = Bk.cells := by unfold splice; simp
    simp only [stos, vints_nil, e]
    rw [List.getElem?_eq_getElem hlt, Option.some.injEq] at hb
    have e2 : (⟨Bk.ty, Bk.cells⟩ : Blk) = h[b] := by rw [hb]
    rw [e2]
    exact (List.set_getElem_self hlt).symm
  | v :: r, h, c, Bk, hb, hl => by
    have hlt : b < h.length := by
      rcases Nat.lt_or_ge b h.length with q | q
      · exact q
      · rw [List.getElem?_eq_none q] at hb; cases hb
    simp only [List.length_cons] at hl
    have e : sto h (.slice (some ⟨b, o, none⟩) n cap) c (.int .i64 v) = h.set b ⟨Bk.ty, Bk.cells.set (o + c) (.int .i64 v)⟩ := by simp only [sto, hb]
    simp only [stos]
    rw [e, stos_eq r (Bk := ⟨Bk.ty, Bk.cells.set (o + c) (.int .i64 v)⟩) (by rw [List.getElem?_set_self hlt]) (by simp only [List.length_set]; omega)]
    rw [List.set_set, vints_cons, splice_cons (by simp only [List.length_cons, vints_len]; omega), Nat.add_assoc o c 1]
theorem stv_stos {lo hi k n m : Nat} {x : Value} {g : Heap} {t : TypeId} {c : Nat} {vs : List Int} (hs : szT P t = some m) (hro : ro ≤ lo) (s : OkS lo hi k n x g) (hm : m = vs.length) (hp : 0 < m) (hc : c + m ≤ n * k) : stv P ro g t (ea x c) (.agg ⟨vints vs⟩) = some (stos g x c vs) := by
  obtain ⟨l, s⟩ := s
  rcases s.2 with ⟨rfl, rfl⟩ | ⟨b, o, cap, Bk, rfl, h1, h2, h3, h4, h5⟩
  · omega
  · rw [stos_eq vs h3 (by omega)]
    simp only [ea, stv_put hs, put, h3, Option.bind_some, cellsOf_agg, vints_len]
    rw [if_pos (by omega), if_pos ⟨hm, by omega, vints_one vs⟩]
theorem OkS.stos {lo hi k n : Nat} {h : Heap} {x : Value} {c : Nat} {vs : List Int} (s : OkS lo hi k n x h) (hc : c + vs.length ≤ n * k) : OkS lo hi k n x (stos h x c vs) := by
  obtain ⟨l, s⟩ := s
  exact ⟨_, s.stos hc⟩
/-- A list whose first numbers are those of another one. -/
def cpy (m : Nat) (f l : List Int) : List Int := (List.range l.length).map fun j => if j < m then nth f j else nth l j
theorem cpy_len (m : Nat) (f l : List Int) : (cpy m f l).length = l.length := by simp [cpy]
theorem nth_cpy {m j : Nat} {f l : List Int} (hj : j < l.length) : nth (cpy m f l) j = if j < m then nth f j else nth l j := by
  simp only [cpy, nth, List.getD_eq_getElem?_getD, List.getElem?_map, List.getElem?_range hj, Option.map_some, Option.getD_some]
theorem cpy_zero (f l : List Int) : cpy 0 f l = l := nth_ext (cpy_len _ _ _) fun j hj => by rw [nth_cpy (by rw [cpy_len] at hj; exact hj), if_neg (by omega)]
theorem cpy_all {f l : List Int} (h : f.length = l.length) : cpy l.length f l = f := nth_ext (by rw [cpy_len, h]) fun j hj => by rw [cpy_len] at hj; rw [nth_cpy hj, if_pos hj]
theorem cpy_set {m : Nat} {f l : List Int} {v : Int} (hm : m < l.length) (hv : v = nth f m) : (cpy m f l).set m v = cpy (m + 1) f l := by
  subst hv
  refine nth_ext (by simp [cpy_len]) fun j hj => ?_
  rw [List.length_set, cpy_len] at hj
  rw [nth_set (by rw [cpy_len]; exact hm), nth_cpy hj, nth_cpy hj]
  by_cases e : m = j
  · subst e; rw [if_pos rfl, if_pos (by omega)]
  · rw [if_neg e]
    by_cases q : j < m
    · rw [if_pos q, if_pos (by omega)]
    · rw [if_neg q, if_neg (by omega)]
/-- A block of zeros. -/
def zblk (t : TypeId) (n : Nat) : Blk := ⟨t, vints (List.replicate n 0)⟩
theorem mk_go {t e : TypeId} {k by_ : Nat} {z : Value} {h : Heap} {k1 k2 : IntKind} {l : Int} (he : elemT P t = some e) (hs : szT P e = some k) (hb : byT P e = some by_) (hz : zeroT P e = some z) (hc : cellsOf z = vints (List.replicate k 0)) (hk : k ≠ 0) (h0 : 0 ≤ l) (h1 : by_ * l ≤ 140737488355328) (h2 : l ≤ 9223372036854775807) :
    mk P h t (.int k1 l) (.int k2 l) = some (.slice (some ⟨h.length, 0, none⟩) l.toNat l.toNat, h ++ [zblk e (l.toNat * k)]) := by
  simp only [mk, he, hs, hb, hz, Option.bind_some]
  rw [if_pos ⟨h0, trivial, h1, h2, hk⟩, hc]
  congr 4
  unfold zblk
  congr 2
  simp only [vints, List.map_replicate]
  induction l.toNat with
  | zero => simp
  | succ n ih => rw [List.replicate_succ, List.flatten_cons, ih, Nat.succ_mul, Nat.add_comm (n * k) k, List.replicate_append_replicate]
theorem IS.made (h : Heap) (t : TypeId) (n k : Nat) : IS h.length (h.length + 1) k (h ++ [zblk t (n * k)]) (.slice (some ⟨h.length, 0, none⟩) n n) n (List.replicate (n * k) 0) := by
  refine ⟨by simp, .inr ⟨h.length, 0, n, zblk t (n * k), rfl, Nat.le_refl _, by omega, by simp, by simp [zblk, vints_len], fun j hj => ?_⟩⟩
  simp [zblk, vints, nth, hj]
end Go.Proofs.Yteignhphimfmkaa.Sim
