/- How values and heaps of the abstract machine stand for values and memory of the model, and that operations on numbers keep this. Lemmas only; no condition. -/
import Derived.Test.YteignhphimfmkaaSimA
namespace Go.Proofs.Yteignhphimfmkaa.Sim
open Go Go.RowKit

structure Loc where
  g : Nat
  s : Nat
  n : Nat
  ty : TypeId

mutual
inductive VR (P : Program) (ro : Nat) (ρ : List Loc) : Value → Value → Prop
  | bool (b : Bool) : VR P ro ρ (.bool b) (.bool b)
  | int (k : IntKind) (n : Int) : VR P ro ρ (.int k n) (.int k n)
  | str (s : ByteArray) : VR P ro ρ (.string s) (.string s)
  | flt (k : FloatKind) (b b' : Nat) (h : cf k b' = b) : VR P ro ρ (.float k b) (.float k b')
  | cpx (k : FloatKind) (a b a' b' : Nat) (h : cf k a' = a) (h' : cf k b' = b) : VR P ro ρ (.complex k a b) (.complex k a' b')
  | pnil : VR P ro ρ (.pointer none) (.pointer none)
  | ptr (b o : Nat) (L : Loc) (h : ρ[b]? = some L) : VR P ro ρ (.pointer (some ⟨b, o, none⟩)) (.pointer (some ⟨L.g, L.s + o, none⟩))
  | snil : VR P ro ρ (.slice none 0 0) (.slice none 0 0)
  | slc (b o : Nat) (L : Loc) (len cap cap' : Nat) (h : ρ[b]? = some L) (h1 : len ≤ cap') (h2 : cap = len → cap' = len)
      (h3 : ro ≤ b → ∀ sz, szT P L.ty = some sz → o + cap' * sz ≤ L.n) : VR P ro ρ (.slice (some ⟨b, o, none⟩) len cap) (.slice (some ⟨L.g, L.s + o, none⟩) len cap')
  | slz (b o cap : Nat) (a : Addr) (L : Loc) (h : ρ[b]? = some L) : VR P ro ρ (.slice (some ⟨b, o, none⟩) 0 cap) (.slice (some a) 0 0)
  | fn (f : Fn) (xs ys xs' ys' : List Value) (h : VRs P ro ρ xs xs') (h' : VRs P ro ρ ys ys') : VR P ro ρ (.func f ⟨xs⟩ ⟨ys⟩) (.func f ⟨xs'⟩ ⟨ys'⟩)
  | nilFn : VR P ro ρ .nilFunc .nilFunc
  | nilIface : VR P ro ρ .nilIface .nilIface
  | opq (b : Option Nat) : VR P ro ρ (.map b) (.map b)
  | agg (xs ys : List Value) (h : VRs P ro ρ xs ys) : VR P ro ρ (.agg ⟨xs⟩) (.agg ⟨ys⟩)
  | tup (xs ys : List Value) (h : VRs P ro ρ xs ys) : VR P ro ρ (.tuple ⟨xs⟩) (.tuple ⟨ys⟩)
inductive VRs (P : Program) (ro : Nat) (ρ : List Loc) : List Value → List Value → Prop
  | nil : VRs P ro ρ [] []
  | cons (x y : Value) (xs ys : List Value) (h : VR P ro ρ x y) (t : VRs P ro ρ xs ys) : VRs P ro ρ (x :: xs) (y :: ys)
end

def Pre (ρ ρ' : List Loc) : Prop := ∃ t, ρ' = ρ ++ t
theorem Pre.refl (ρ : List Loc) : Pre ρ ρ := ⟨[], by simp⟩
theorem Pre.trans {a b c : List Loc} (h : Pre a b) (k : Pre b c) : Pre a c := by
  obtain ⟨t, rfl⟩ := h; obtain ⟨u, rfl⟩ := k; exact ⟨t ++ u, by simp⟩
theorem Pre.get {a b : List Loc} (h : Pre a b) {i : Nat} {L : Loc} (hi : a[i]? = some L) : b[i]? = some L := by
  obtain ⟨t, rfl⟩ := h
  have : i < a.length := by
    rcases Nat.lt_or_ge i a.length with h | h
    · exact h
    · rw [List.getElem?_eq_none h] at hi; cases hi
  rw [List.getElem?_append_left this]; exact hi

mutual
theorem VR.mono {P : Program} {ro : Nat} {ρ ρ' : List Loc} (hp : Pre ρ ρ') : ∀ {v v' : Value}, VR P ro ρ v v' → VR P ro ρ' v v'
  | _, _, .bool b => .bool b
  | _, _, .int k n => .int k n
  | _, _, .str s => .str s
  | _, _, .flt k b b' h => .flt k b b' h
  | _, _, .cpx k a b a' b' h h' => .cpx k a b a' b' h h'
  | _, _, .pnil => .pnil
  | _, _, .ptr b o L h => .ptr b o L (hp.get h)
  | _, _, .snil => .snil
  | _, _, .slc b o L len cap cap' h h1 h2 h3 => .slc b o L len cap cap' (hp.get h) h1 h2 h3
  | _, _, .slz b o cap a L h => .slz b o cap a L (hp.get h)
  | _, _, .fn f xs ys xs' ys' h h' => .fn f xs ys xs' ys' (VRs.mono hp h) (VRs.mono hp h')
  | _, _, .nilFn => .nilFn
  | _, _, .nilIface => .nilIface
  | _, _, .opq b => .opq b
  | _, _, .agg xs ys h => .agg xs ys (VRs.mono hp h)
  | _, _, .tup xs ys h => .tup xs ys (VRs.mono hp h)
theorem VRs.mono {P : Program} {ro : Nat} {ρ ρ' : List Loc} (hp : Pre ρ ρ') : ∀ {v v' : List Value}, VRs P ro ρ v v' → VRs P ro ρ' v v'
  | _, _, .nil => .nil
  | _, _, .cons x y xs ys h t => .cons x y xs ys (VR.mono hp h) (VRs.mono hp t)
end

mutual
/-- What stands for a value that names old blocks alone names old blocks alone. -/
theorem VR.back {P : Program} {ro : Nat} {ρ ρ' : List Loc} (hp : Pre ρ ρ') : ∀ {v x y : Value}, VR P ro ρ v x → VR P ro ρ' v y → VR P ro ρ v y
  | _, _, _, .bool b, .bool _ => .bool b
  | _, _, _, .int k n, .int _ _ => .int k n
  | _, _, _, .str s, .str _ => .str s
  | _, _, _, .flt k b b' h, .flt _ _ b'' h' => .flt k b b'' h'
  | _, _, _, .cpx k a b a' b' h h', .cpx _ _ _ a'' b'' g g' => .cpx k a b a'' b'' g g'
  | _, _, _, .pnil, .pnil => .pnil
  | _, _, _, .ptr b o L h, .ptr _ _ L' h' => by
    have := hp.get h; rw [h'] at this; cases this; exact .ptr b o L h
  | _, _, _, .snil, .snil => .snil
  | _, _, _, .slc b o L len cap cap' h h1 h2 h3, .slc _ _ L' _ _ c2 g g1 g2 g3 => by
    have := hp.get h; rw [g] at this; cases this; exact .slc b o L len cap c2 h g1 g2 g3
  | _, _, _, .slc b o L _ cap cap' h h1 h2 h3, .slz _ _ _ a _ _ => .slz b o cap a L h
  | _, _, _, .slz b o cap a L h, .slz _ _ _ a' _ _ => .slz b o cap a' L h
  | _, _, _, .slz b o cap a L h, .slc _ _ L' _ _ c2 g g1 g2 g3 => by
    have := hp.get h; rw [g] at this; cases this; exact .slc b o L 0 cap c2 h g1 g2 g3
  | _, _, _, .fn f xs ys xs' ys' h h', .fn _ _ _ xs'' ys'' g g' => .fn f xs ys xs'' ys'' (VRs.back hp h g) (VRs.back hp h' g')
  | _, _, _, .nilFn, .nilFn => .nilFn
  | _, _, _, .nilIface, .nilIface => .nilIface
  | _, _, _, .opq _, .opq b => .opq b
  | _, _, _, .agg xs ys h, .agg _ ys' g => .agg xs ys' (VRs.back hp h g)
  | _, _, _, .tup xs ys h, .tup _ ys' g => .tup xs ys' (VRs.back hp h g)
theorem VRs.back {P : Program} {ro : Nat} {ρ ρ' : List Loc} (hp : Pre ρ ρ') : ∀ {v x y : List Value}, VRs P ro ρ v x → VRs P ro ρ' v y → VRs P ro ρ v y
  | _, _, _, .nil, .nil => .nil
  | _, _, _, .cons x y xs ys h t, .cons _ y' _ ys' h' t' => .cons x y' xs ys' (VR.back hp h h') (VRs.back hp t t')
end

theorem VRs.len {P : Program} {ro : Nat} {ρ : List Loc} : ∀ {xs ys : List Value}, VRs P ro ρ xs ys → xs.length = ys.length
  | _, _, .nil => rfl
  | _, _, .cons _ _ _ _ _ t => by simp [VRs.len t]
theorem VRs.get {P : Program} {ro : Nat} {ρ : List Loc} : ∀ {xs ys : List Value}, VRs P ro ρ xs ys → ∀ {i : Nat} {v : Value}, xs[i]? = some v → ∃ v', ys[i]? = some v' ∧ VR P ro ρ v v'
  | _, _, .nil, _, _, h => by simp at h
  | _, _, .cons x y xs ys h t, 0, v, hi => by simp at hi; subst hi; exact ⟨y, rfl, h⟩
  | _, _, .cons x y xs ys h t, i + 1, v, hi => by simp at hi; obtain ⟨v', h1, h2⟩ := VRs.get t hi; exact ⟨v', by simpa using h1, h2⟩
theorem VRs.append {P : Program} {ro : Nat} {ρ : List Loc} : ∀ {xs ys us vs : List Value}, VRs P ro ρ xs ys → VRs P ro ρ us vs → VRs P ro ρ (xs ++ us) (ys ++ vs)
  | _, _, _, _, .nil, k => by simpa using k
  | _, _, _, _, .cons x y xs ys h t, k => by simpa using VRs.cons x y _ _ h (VRs.append t k)
theorem VRs.of_get {P : Program} {ro : Nat} {ρ : List Loc} : ∀ {xs ys : List Value}, xs.length = ys.length → (∀ (i : Nat) (v v' : Value), xs[i]? = some v → ys[i]? = some v' → VR P ro ρ v v') → VRs P ro ρ xs ys
  | [], [], _, _ => .nil
  | x :: xs, y :: ys, hl, h => .cons x y xs ys (h 0 x y rfl rfl) (VRs.of_get (by simpa using hl) fun i v v' hv hv' => h (i + 1) v v' (by simpa using hv) (by simpa using hv'))
  | [], _ :: _, hl, _ => by simp at hl
  | _ :: _, [], hl, _ => by simp at hl
theorem VRs.take {P : Program} {ro : Nat} {ρ : List Loc} : ∀ {xs ys : List Value} (n : Nat), VRs P ro ρ xs ys → VRs P ro ρ (xs.take n) (ys.take n)
  | _, _, 0, _ => by simpa using VRs.nil
  | _, _, _ + 1, .nil => by simpa using VRs.nil
  | _, _, n + 1, .cons x y xs ys h t => by simpa using VRs.cons x y _ _ h (VRs.take n t)
theorem VRs.drop {P : Program} {ro : Nat} {ρ : List Loc} : ∀ {xs ys : List Value} (n : Nat), VRs P ro ρ xs ys → VRs P ro ρ (xs.drop n) (ys.drop n)
  | _, _, 0, h => by simpa using h
  | _, _, _ + 1, .nil => by simpa using VRs.nil
  | _, _, n + 1, .cons x y xs ys h t => by simpa using VRs.drop n t
theorem VRs.splice {P : Program} {ro : Nat} {ρ : List Loc} {xs ys us vs : List Value} (o : Nat) (h : VRs P ro ρ xs ys) (k : VRs P ro ρ us vs) : VRs P ro ρ (splice xs o us) (Sim.splice ys o vs) := by
  unfold Sim.splice
  rw [k.len]
  exact ((h.take o).append k).append (h.drop _)
theorem VR.cells {P : Program} {ro : Nat} {ρ : List Loc} {x y : Value} (h : VR P ro ρ x y) : VRs P ro ρ (cellsOf x) (cellsOf y) := by
  cases h
  case agg xs ys h => exact h
  case opq b => exact .cons _ _ _ _ (.opq b) .nil
  all_goals exact .cons _ _ _ _ (by constructor <;> assumption) .nil
theorem VR.one {P : Program} {ro : Nat} {ρ : List Loc} {x y : Value} (h : VR P ro ρ x y) : Sim.one y = Sim.one x := by
  cases h <;> rfl
theorem VRs.one {P : Program} {ro : Nat} {ρ : List Loc} : ∀ {xs ys : List Value}, VRs P ro ρ xs ys → ys.all Sim.one = xs.all Sim.one
  | _, _, .nil => rfl
  | _, _, .cons x y xs ys h t => by simp only [List.all_cons, h.one, VRs.one t]

/-- What lies below a place, and does not change. -/
structure Base where
  n : Nat
  m : Nat
  H : Nat → Option Obj
  le : m ≤ n
def baseOf (w : World) : Base := ⟨w.heap.size, w.heap.size, fun k => w.heap[k]?, Nat.le_refl _⟩
/-- Another place, the same below. -/
def Base.up (B : Base) (w : World) (h : B.n ≤ w.heap.size) : Base := ⟨w.heap.size, B.m, B.H, Nat.le_trans B.le h⟩
/-- Heap and memory. -/
structure SR (P : Program) (ro : Nat) (B : Base) (ρ : List Loc) (h : Heap) (w : World) : Prop where
  len : ρ.length = h.length
  ty : ∀ (b : Nat) (L : Loc) (Bk : Blk), ρ[b]? = some L → h[b]? = some Bk → ro ≤ b → L.ty = Bk.ty
  blk : ∀ (b : Nat) (L : Loc) (Bk : Blk), ρ[b]? = some L → h[b]? = some Bk → Bk.cells ≠ [] → ∃ C ty fr, w.heap[L.g]? = some (.cells C ty fr) ∧
    (∀ (i : Nat) (v : Value), Bk.cells[i]? = some v → ∃ v', C[L.s + i]? = some v' ∧ VR P ro ρ v v' ∧ Sim.one v' = true) ∧
    (ro ≤ b → L.ty = Bk.ty ∧ ty = Bk.ty ∧ fr = (0, 0) ∧ B.n ≤ L.g ∧ L.s = 0 ∧ L.n = C.size)
  apart : ∀ (b b' : Nat) (L L' : Loc) (Bk Bk' : Blk), b ≠ b' → ro ≤ b → ρ[b]? = some L → ρ[b']? = some L' → h[b]? = some Bk → h[b']? = some Bk' → Bk.cells ≠ [] → Bk'.cells ≠ [] → L.g ≠ L'.g
  glob : ∀ k, k < B.m → w.heap[k]? = B.H k

/-- The same blocks are there. -/
theorem SR.same {P : Program} {ro : Nat} {B : Base} {ρ : List Loc} {h : Heap} {w w' : World} (s : SR P ro B ρ h w)
    (hw : ∀ (b : Nat) (L : Loc) (Bk : Blk), ρ[b]? = some L → h[b]? = some Bk → Bk.cells ≠ [] → w'.heap[L.g]? = w.heap[L.g]?) (hb : ∀ k, k < B.m → w'.heap[k]? = w.heap[k]?) : SR P ro B ρ h w' :=
  ⟨s.len, s.ty, fun b L Bk h1 h2 h3 => by rw [hw b L Bk h1 h2 h3]; exact s.blk b L Bk h1 h2 h3, s.apart, fun k hk => (hb k hk).trans (s.glob k hk)⟩
theorem SR.lt {P : Program} {ro : Nat} {B : Base} {ρ : List Loc} {h : Heap} {w : World} (s : SR P ro B ρ h w) {b : Nat} {L : Loc} {Bk : Blk} (h1 : ρ[b]? = some L) (h2 : h[b]? = some Bk) (h3 : Bk.cells ≠ []) : L.g < w.heap.size := by
  obtain ⟨C, ty, fr, hc, _⟩ := s.blk b L Bk h1 h2 h3
  rcases Nat.lt_or_ge L.g w.heap.size with h | h
  · exact h
  · rw [Array.getElem?_eq_none h] at hc; cases hc
theorem SR.below {P : Program} {ro : Nat} {B : Base} {ρ : List Loc} {h : Heap} {w w' : World} (s : SR P ro B ρ h w) (hB : B.n ≤ w.heap.size) (hb : Below w.heap.size w w') : SR P ro B ρ h w' :=
  s.same (fun _ _ _ h1 h2 h3 => hb.block _ (s.lt h1 h2 h3)) fun k hk => hb.block k (by have := B.le; omega)
theorem SR.drew {P : Program} {ro : Nat} {B : Base} {ρ : List Loc} {h : Heap} {w : World} (s : SR P ro B ρ h w) : SR P ro B ρ h w.drew := s.same (fun _ _ _ _ _ _ => rfl) fun _ _ => rfl

theorem getElem?_snoc {α : Type} (l : List α) (x : α) (i : Nat) : (l ++ [x])[i]? = if i < l.length then l[i]? else if i = l.length then some x else none := by
  rcases Nat.lt_trichotomy i l.length with h | h | h
  · rw [List.getElem?_append_left h, if_pos h]
  · subst h; rw [List.getElem?_append_right (Nat.le_refl _)]; simp
  · rw [List.getElem?_append_right (by omega), if_neg (by omega), if_neg (by omega), List.getElem?_eq_none (by simp; omega)]

theorem ty_snoc {ro : Nat} {ρ : List Loc} {h : Heap} {g s n : Nat} {ty : TypeId} {cs : List Value} (hl : ρ.length = h.length) (ht : ∀ (b : Nat) (L : Loc) (Bk : Blk), ρ[b]? = some L → h[b]? = some Bk → ro ≤ b → L.ty = Bk.ty) :
    ∀ (b : Nat) (L : Loc) (Bk : Blk), (ρ ++ [⟨g, s, n, ty⟩])[b]? = some L → (h ++ [⟨ty, cs⟩])[b]? = some Bk → ro ≤ b → L.ty = Bk.ty := by
  intro b L Bk h1 h2 hro
  rw [getElem?_snoc] at h1 h2
  split at h1
  · rw [if_pos (by omega)] at h2; exact ht b L Bk h1 h2 hro
  · split at h1
    · rw [if_neg (by omega), if_pos (by omega)] at h2; cases h1; cases h2; rfl
    · cases h1
/-- A new block. -/
theorem SR.push {P : Program} {ro : Nat} {B : Base} {ρ : List Loc} {h : Heap} {w w' : World} (s : SR P ro B ρ h w) (hB : B.n ≤ w.heap.size) (C : Array Value) (ty : TypeId) (cs : List Value)
    (hw : w'.heap = w.heap.push (.cells C ty (0, 0))) (hc : ∀ (i : Nat) (v : Value), cs[i]? = some v → ∃ v', C[i]? = some v' ∧ VR P ro ρ v v' ∧ Sim.one v' = true) :
    SR P ro B (ρ ++ [⟨w.heap.size, 0, C.size, ty⟩]) (h ++ [⟨ty, cs⟩]) w' := by
  have hp : Pre ρ (ρ ++ [(⟨w.heap.size, 0, C.size, ty⟩ : Loc)]) := ⟨_, rfl⟩
  have hlen := s.len
  refine ⟨by simp [hlen], ty_snoc s.len s.ty, ?_, ?_, fun k hk => by rw [hw, Array.getElem?_push, if_neg (by have := B.le; omega)]; exact s.glob k hk⟩
  · intro b L Bk h1 h2 h3
    rw [getElem?_snoc] at h1 h2
    split at h1
    · rename_i hb
      rw [if_pos (by omega)] at h2
      obtain ⟨C', ty', fr, k1, k2, k3⟩ := s.blk b L Bk h1 h2 h3
      refine ⟨C', ty', fr, ?_, fun i v hv => ?_, k3⟩
      · rw [hw, Array.getElem?_push, if_neg (by have := s.lt h1 h2 h3; omega)]; exact k1
      · obtain ⟨v', q1, q2, q3⟩ := k2 i v hv
        exact ⟨v', q1, q2.mono hp, q3⟩
    · split at h1
      · rename_i hb
        cases h1
        rw [if_neg (by omega), if_pos (by omega)] at h2
        cases h2
        refine ⟨C, ty, (0, 0), by rw [hw, Array.getElem?_push]; simp, fun i v hv => ?_, fun _ => ⟨rfl, rfl, rfl, hB, rfl, rfl⟩⟩
        obtain ⟨v', q1, q2, q3⟩ := hc i v hv
        exact ⟨v', by simpa using q1, q2.mono hp, q3⟩
      · cases h1
  · intro b b' L L' Bk Bk' hne hro h1 h1' h2 h2' h3 h3'
    rw [getElem?_snoc] at h1 h1' h2 h2'
    split at h1
    · rename_i hb
      rw [if_pos (by omega)] at h2
      split at h1'
      · rename_i hb'
        rw [if_pos (by omega)] at h2'
        exact s.apart b b' L L' Bk Bk' hne hro h1 h1' h2 h2' h3 h3'
      · split at h1'
        · cases h1'
          have := s.lt h1 h2 h3
          simp only
          omega
        · cases h1'
    · split at h1
      · rename_i hb
        cases h1
        split at h1'
        · rename_i hb'
          rw [if_pos (by omega)] at h2'
          have := s.lt h1' h2' h3'
          simp only
          omega
        · split at h1'
          · omega
          · cases h1'
      · cases h1
end Go.Proofs.Yteignhphimfmkaa.Sim
