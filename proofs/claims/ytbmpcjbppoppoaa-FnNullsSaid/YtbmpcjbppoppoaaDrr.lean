
/- Places, drawn: whether places are good. Lemmas only; no condition. -/
import Derived.Test.YtbmpcjbppoppoaaDrw
import Derived.Test.YtbmpcjbppoppoaaSimXq
import Derived.Test.YtbmpcjbppoppoaaDrx
set_option linter.unusedSimpArgs false
set_option linter.unusedVariables false
set_option maxRecDepth 8000
namespace Go.Proofs.Ytbmpcjbppoppoaa.Sim
open Go Go.RowKit
variable {ro lo hi : Nat} {X : Ext} {h : Heap} {x : Value} {n : Nat} {l : List Int}
/-- A number that is a coordinate. -/
def cdB (u : Int) : Bool := decide (-4096 ≤ u) && decide (u ≤ 4096)
def plB (l : List Int) (i : Nat) : Bool := cdB (nth l (i * 2)) && cdB (nth l (i * 2 + 1))
def samB (l : List Int) (i k : Nat) : Bool := decide (nth l (k * 2) = nth l (i * 2)) && decide (nth l (k * 2 + 1) = nth l (i * 2 + 1))
/-- Places that are valid. -/
structure goodP (n : Nat) (l : List Int) : Prop where
  n1 : 1 ≤ n
  n16 : n ≤ 16
  pl : ∀ i, i < n → plB l i = true
  df : ∀ i k, i < n → k < i → samB l i k = false
end Go.Proofs.Ytbmpcjbppoppoaa.Sim

/- Places, drawn. Lemmas only; no condition. -/
set_option linter.unusedSimpArgs false
set_option linter.unusedVariables false
set_option maxRecDepth 8000
namespace Go.Proofs.Ytbmpcjbppoppoaa.Sim
open Go Go.RowKit
variable {ro lo hi b A : Nat} {X : Ext} {h : Heap} {x y : Value} {cd : List UInt8}
/-- The operations of a region. -/
def findR (i : Nat) : Code → Option (Array Oper)
  | .seq a b => match findR i a with | some r => some r | none => findR i b
  | .cond _ a b => match findR i a with | some r => some r | none => findR i b
  | .block _ c => findR i c
  | .loop c => findR i c
  | .region j ops _ => if j = i then some ops else none
  | _ => none
theorem all_one_ints (l : List Int) : (vints l).all one = true := by simp [vints, List.all_eq_true, one, Value.oneCell']
theorem ren_new (H : Heap) (pl : List Nat) (i j o len cap : Nat) (hj : pl.getD i 0 = j) : Ren (fun b => if b < H.length then b else H.length + pl.getD (b - H.length) 0) (.slice (some ⟨H.length + i, o, none⟩) len cap) (.slice (some ⟨H.length + j, o, none⟩) len cap) :=
  .slc _ _ _ _ _ (by show _ = if H.length + i < H.length then _ else _; rw [if_neg (by omega), Nat.add_sub_cancel_left, hj])
theorem ren_old (H : Heap) (pl : List Nat) (i o len cap : Nat) (hi : i < H.length) : Ren (fun b => if b < H.length then b else H.length + pl.getD (b - H.length) 0) (.slice (some ⟨i, o, none⟩) len cap) (.slice (some ⟨i, o, none⟩) len cap) :=
  .slc _ _ _ _ _ (by show _ = if i < H.length then _ else _; rw [if_pos hi])
theorem equ_go {P : Program} {H t1 t2 : Heap} {e e1 e2 : Env} {T : TypeId} (m : Nat) (pl sl : List Nat) (L1 L2 : List (List Int)) (hro : ro ≤ H.length) (h1 : t1 = L1.map fun cs => ⟨T, vints cs⟩) (h2 : t2 = L2.map fun cs => ⟨T, vints cs⟩) (hm1 : L1.length = m) (hm2 : L2.length = m)
    (hto : ∀ k, k < m → pl.getD k 0 < m ∧ sl.getD (pl.getD k 0) 0 = k) (hof : ∀ k, k < m → sl.getD k 0 < m ∧ pl.getD (sl.getD k 0) 0 = k) (hb : L1 = (List.range m).map fun k => L2.getD (pl.getD k 0) [])
    (h0 : ∀ t, t ≠ 35 → t ≠ 36 → t ≠ 37 → t ≠ 38 → t ≠ 39 → t ≠ 40 → t ≠ 8 → e1 t = e t ∧ e2 t = e t)
    (q35 : Ren (fun b => if b < H.length then b else H.length + pl.getD (b - H.length) 0) (e1 35) (e2 35))
    (q36 : Ren (fun b => if b < H.length then b else H.length + pl.getD (b - H.length) 0) (e1 36) (e2 36))
    (q37 : Ren (fun b => if b < H.length then b else H.length + pl.getD (b - H.length) 0) (e1 37) (e2 37))
    (q38 : Ren (fun b => if b < H.length then b else H.length + pl.getD (b - H.length) 0) (e1 38) (e2 38))
    (q39 : Ren (fun b => if b < H.length then b else H.length + pl.getD (b - H.length) 0) (e1 39) (e2 39))
    (q40 : Ren (fun b => if b < H.length then b else H.length + pl.getD (b - H.length) 0) (e1 40) (e2 40))
    (q8 : Ren (fun b => if b < H.length then b else H.length + pl.getD (b - H.length) 0) (e1 8) (e2 8)) : Equ P ro e H (e1, H ++ t1) (e2, H ++ t2) := by
  have l1 : t1.length = m := by rw [h1, List.length_map, hm1]
  have l2 : t2.length = m := by rw [h2, List.length_map, hm2]
  refine Swap.equ (N := 0) (π := fun k => pl.getD k 0) (σ := fun k => sl.getD k 0) ⟨by omega, by rw [l1]; exact hto, by rw [l1]; exact hof, ?_, fun t => ?_⟩ hro
  · intro k A hk hA
    rw [l1] at hk
    have hj := (hto k hk).1
    have e1' : L1[k]? = some (L2.getD (pl.getD k 0) []) := by rw [hb]; simp [hk]
    rw [h1, List.getElem?_map, e1'] at hA
    cases hA
    refine ⟨⟨T, vints (L2.getD (pl.getD k 0) [])⟩, ?_, rfl, Rens.ints _⟩
    rw [h2, List.getElem?_map, List.getElem?_eq_getElem (by omega)]
    have hj2 : pl.getD k 0 < L2.length := by omega
    simp only [Option.map_some, List.getD_eq_getElem?_getD (l := L2), List.getElem?_eq_getElem hj2, Option.getD_some]
  · by_cases n1 : t = 35
    · rw [n1]; exact .inr q35
    by_cases n2 : t = 36
    · rw [n2]; exact .inr q36
    by_cases n3 : t = 37
    · rw [n3]; exact .inr q37
    by_cases n4 : t = 38
    · rw [n4]; exact .inr q38
    by_cases n5 : t = 39
    · rw [n5]; exact .inr q39
    by_cases n6 : t = 40
    · rw [n6]; exact .inr q40
    by_cases n7 : t = 8
    · rw [n7]; exact .inr q8
    exact .inl (h0 t n1 n2 n3 n4 n5 n6 n7)
end Go.Proofs.Ytbmpcjbppoppoaa.Sim

/- Valid places, drawn. Lemmas only; no condition. -/
set_option linter.unusedSimpArgs false
set_option linter.unusedVariables false
set_option maxRecDepth 8000
namespace Go.Proofs.Ytbmpcjbppoppoaa.Sim
open Go Go.RowKit
variable {ro lo hi b A : Nat} {X : Ext} {h : Heap} {x y : Value} {cd : List UInt8}
/-- What drawn places are. -/
def RPl (lo hi b A : Nat) (x : Value) (cd : List UInt8) (h : Heap) (q : Value × Heap) : Prop :=
  ∃ (n yb yc : Nat) (l : List Int), q.1 = .slice (some ⟨yb, 0, none⟩) n yc ∧ h.length ≤ yb ∧ q.2[yb]? = some ⟨65, vints l⟩ ∧ l.length = n * 2 ∧ goodP n l ∧ (∀ j, -512 ≤ nth l j ∧ nth l j ≤ 512) ∧ Dst b h q.2 ∧ SRC lo hi b (A + 100) x cd q.2
theorem is_blk {H : Heap} {db dc n : Nat} {t : TypeId} {l : List Int} (hb : H[db]? = some ⟨t, vints l⟩) (hl : l.length = n * 2) : IS db (db + 1) 2 H (.slice (some ⟨db, 0, none⟩) n dc) n l :=
  ⟨hl, .inr ⟨db, 0, dc, _, rfl, Nat.le_refl _, Nat.lt_succ_self _, hb, by show 0 + n * 2 ≤ (vints l).length; simp [vints, hl], fun j hj => by rw [Nat.zero_add]; simp only [vints, List.getElem?_map, nth, List.getD_eq_getElem?_getD]; rw [List.getElem?_eq_getElem (by omega)]; rfl⟩⟩
theorem nth_two {l : List Int} {u v : Int} (hl : ∀ j, -512 ≤ nth l j ∧ nth l j ≤ 512) (hu : -512 ≤ u ∧ u ≤ 512) (hv : -512 ≤ v ∧ v ≤ 512) (j : Nat) : -512 ≤ nth (l ++ [u, v]) j ∧ nth (l ++ [u, v]) j ≤ 512 := by
  rcases Nat.lt_or_ge j l.length with q | q
  · have : nth (l ++ [u, v]) j = nth l j := by simp only [nth, List.getD_eq_getElem?_getD, List.getElem?_append_left q]
    rw [this]; exact hl j
  · have : nth (l ++ [u, v]) j = nth [u, v] (j - l.length) := by simp only [nth, List.getD_eq_getElem?_getD, List.getElem?_append_right q]
    rw [this]
    generalize j - l.length = m
    rcases m with _ | _ | m
    · exact hu
    · exact hv
    · simp [nth]
theorem good_one {u v : Int} (hu : -512 ≤ u ∧ u ≤ 512) (hv : -512 ≤ v ∧ v ≤ 512) : goodP 1 [u, v] := by
  refine ⟨by omega, by omega, fun i hi => ?_, fun i k hi hk => by omega⟩
  have : i = 0 := by omega
  subst this
  simp [plB, cdB, nth]
  omega
end Go.Proofs.Ytbmpcjbppoppoaa.Sim

/- Valid places and directions of a law, drawn. Lemmas only; no condition. -/
set_option linter.unusedSimpArgs false
set_option linter.unusedVariables false
set_option maxRecDepth 8000
namespace Go.Proofs.Ytbmpcjbppoppoaa.Sim
open Go Go.RowKit
variable {ro lo hi b A n : Nat} {X X' : Ext} {h : Heap} {x : Value} {cd : List UInt8}
structure PI where
  lo : Nat
  hi : Nat
  b : Nat
  A : Nat
  x : Value
  cd : List UInt8
def prePl (ro : Nat) (i : PI) (args : List Value) (h : Heap) : Prop := args = [.pointer (some ⟨i.b, 0, none⟩)] ∧ SRC i.lo i.hi i.b i.A i.x i.cd h ∧ ro ≤ i.b ∧ i.hi ≤ i.b ∧ i.A ≤ 1152921504600000000 ∧ i.cd.length ≤ 1099511627776
def rPl (i : PI) (args : List Value) (h : Heap) (q : Value × Heap) : Prop := RPl i.lo i.hi i.b i.A i.x i.cd h q
theorem Dst.pfx {h0 h1 h2 : Heap} {b : Nat} (p : Pfx h0 h1) (d : Dst b h1 h2) (hb : h0.length ≤ b) : Pfx h0 h2 := by
  refine List.ext_getElem? fun j => ?_
  rw [List.getElem?_take]
  have l1 := p.len
  by_cases q : j < h0.length
  · rw [if_pos q, d.2 j (by omega) (by omega)]; exact p.get q
  · rw [if_neg q, List.getElem?_eq_none (by omega)]
/-- Valid places, as a law draws them. -/
def Places (h : Heap) (r : Value) (h' : Heap) : Prop := ∃ (n yb yc : Nat) (l : List Int), r = .slice (some ⟨yb, 0, none⟩) n yc ∧ h.length ≤ yb ∧ h'[yb]? = some ⟨65, vints l⟩ ∧ l.length = n * 2 ∧ goodP n l ∧ (∀ j, -512 ≤ nth l j ∧ nth l j ≤ 512) ∧ Pfx h h'
end Go.Proofs.Ytbmpcjbppoppoaa.Sim
