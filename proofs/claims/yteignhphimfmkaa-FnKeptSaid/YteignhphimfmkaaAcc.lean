/- Appends, as a walk meets them; bits of whole numbers. Lemmas only; no condition. -/
import Derived.Test.YteignhphimfmkaaStr
set_option linter.unusedSimpArgs false
set_option linter.unusedVariables false
namespace Go.Proofs.Yteignhphimfmkaa.Sim
open Go Go.RowKit

variable {P : Program} {ro : Nat} {B : Base} {X : Ext}
/-- What is left as it was. -/
def Old (lo : Nat) (x : Value) (h H : Heap) : Prop := (∀ h0, Pfx h0 h → h0.length ≤ lo → Pfx h0 H) ∧ (∀ b, b < h.length → (x = .slice none 0 0 ∨ b ≠ bOf x) → H[b]? = h[b]?) ∧ h.length ≤ H.length
/-- append of one element of one cell, made on the spot. -/
theorem acc1 {lo n e T by_ : Nat} {h : Heap} {x z v : Value} {L : List Value} (he : elemT P T = some e) (hs : szT P e = some 1) (hb : byT P e = some by_) (hz : zeroT P e = some z) (g : VN lo e 1 h x n L) (hro : ro ≤ lo) (hlo : lo ≤ h.length)
    (h1 : one v = true) (hn : (n + 1) * by_ ≤ 140737488355328) (hn' : n + 1 ≤ 4611686018427387904) :
    ∃ H, ablt P ro .append [T, T] [x, .slice (some ⟨h.length, 0, none⟩) 1 1] (h ++ [⟨e, [v]⟩]) = some (.slice (some ⟨h.length + 1, 0, none⟩) (n + 1) (n + 1 + 1), H) ∧ VG lo e 1 H (.slice (some ⟨h.length + 1, 0, none⟩) (n + 1) (n + 1 + 1)) (n + 1) (L ++ [v]) ∧ Old lo x h H ∧ H.length = h.length + 2 := by
  have p1 := (Pfx.refl h).snoc (C := ⟨e, [v]⟩)
  have q1 : (h ++ [(⟨e, [v]⟩ : Blk)]).length = h.length + 1 := by simp
  have g1 := g.pre p1
  have hll : L.length = n * 1 := by
    rcases g with g | ⟨rfl, rfl, _⟩
    · exact g.1
    · rfl
  have ap := ablt_ap1 (ro := ro) (c := 1) he hs hb hz g1 hro (m := h.length) (e' := e) (v := v) (get_last rfl) h1 hn hn'
  rw [q1] at ap
  refine ⟨_, ap, ?_, ⟨fun h0 hp hl => Pfx.apv (hp.trans p1) g1 hl, fun b hb hne => ?_, ?_⟩, ?_⟩
  · have := vg_apv (lo := lo) (t := e) (k := 1) (h := h ++ [(⟨e, [v]⟩ : Blk)]) (x := x) (n := n) (m := n + 1) (M := L ++ [v]) (by simp [hll]) (by omega) (by omega)
    rw [q1] at this
    exact this
  · rw [apv_getN g1 (by omega) hne]; exact get_skip hb
  · rw [apv_len, q1]; omega
  · rw [apv_len, q1]
/-- append of a slice, or of a text. -/
theorem accS {lo n m k e T u by_ : Nat} {h : Heap} {x y z : Value} {L M : List Value} (he : elemT P T = some e) (hs : szT P e = some k) (hb : byT P e = some by_) (hz : zeroT P e = some z) (hk : 0 < k) (hu : u = T ∨ strT P u = true) (g : VN lo e k h x n L) (hro : ro ≤ lo) (hlo : lo ≤ h.length)
    (hy : newsOf h y k = some M) (hyl : Sim.lenV y = m) (hm : M.length = m * k) (h1 : M.all one = true) (hn : (n + m) * by_ ≤ 140737488355328) (hn' : n + m ≤ 4611686018427387904) :
    ∃ r H, ablt P ro .append [T, u] [x, y] h = some (r, H) ∧ VN lo e k H r (n + m) (L ++ M) ∧ Old lo x h H ∧ (r = x ∨ h.length ≤ bOf r) ∧ (VG lo e k h x n L → VG lo e k H r (n + m) (L ++ M)) := by
  have hll : L.length = n * k := by
    rcases g with g | ⟨rfl, rfl, _⟩
    · exact g.1
    · simp
  rcases Nat.eq_zero_or_pos m with h0 | h0
  · subst h0
    rw [Nat.zero_mul] at hm
    rw [List.length_eq_zero_iff.1 hm, List.append_nil, Nat.add_zero]
    exact ⟨x, h, ablt_ap0 he hs hb hz hk hu g.vs.row hy hyl, g, ⟨fun _ p _ => p, fun _ _ _ => rfl, Nat.le_refl _⟩, .inl rfl, fun q => q⟩
  · have vg := vg_apv (lo := lo) (t := e) (k := k) (h := h) (x := x) (n := n) (m := n + m) (M := L ++ M) (by simp only [List.length_append, hll, hm, Nat.add_mul]) (by omega) hlo
    refine ⟨_, _, ablt_apv he hs hb hz hk hu g hro hy hyl hm h0 h1 hn hn', .inl vg, ⟨fun _ p hl => Pfx.apv p g hl, fun b hb hne => apv_getN g hb hne, ?_⟩, .inr (Nat.le_refl _), fun _ => vg⟩
    rw [apv_len]; omega
/-! ### Bits -/
section bits
variable {t : TypeId} {a b : Int}
theorem bv_nat (n : Nat) (h : n < 18446744073709551616) : (BitVec.ofInt 64 (n : Int)).toNat = n := by
  rw [BitVec.toNat_ofInt]
  omega
theorem bin_shl8 (h0 : 0 ≤ a) (h1 : a ≤ 1099511627776) : abin P .shl t (.int .i64 a) (.int .u64 8) = some (.int .i64 (a * 256)) := by
  rw [bin_shl t .i64 a 8 .u64 (by omega)]
  have : (2 : Int) ^ (min (8 : Int).toNat IntKind.i64.bits) = 256 := by rfl
  rw [this, wrap_int (by omega) (by omega)]
theorem bin_shr8 : abin P .shr t (.int .i64 a) (.int .u64 8) = some (.int .i64 (a / 256)) := by
  rw [bin_shr t .i64 a 8 .u64 (by omega)]
  have : (2 : Int) ^ (min (8 : Int).toNat IntKind.i64.bits) = 256 := by rfl
  rw [this, Int.fdiv_eq_ediv_of_nonneg _ (by omega)]
theorem bin_or8 (h0 : 0 ≤ a) (h1 : a ≤ 1099511627776) (h2 : 0 ≤ b) (h3 : b ≤ 255) : abin P .or t (.int .i64 (a * 256)) (.int .i64 b) = some (.int .i64 (a * 256 + b)) := by
  rw [bin_or]
  obtain ⟨m, rfl⟩ : ∃ m : Nat, a = m := ⟨a.toNat, by omega⟩
  obtain ⟨q, rfl⟩ : ∃ q : Nat, b = q := ⟨b.toNat, by omega⟩
  have e : (BitVec.ofInt IntKind.i64.bits ((m : Int) * 256) ||| BitVec.ofInt IntKind.i64.bits (q : Int)).toNat = m * 256 + q := by
    show (BitVec.ofInt 64 ((m : Int) * 256) ||| BitVec.ofInt 64 (q : Int)).toNat = m * 256 + q
    rw [BitVec.toNat_or, show ((m : Int) * 256) = ((m * 256 : Nat) : Int) by omega, bv_nat _ (by omega), bv_nat _ (by omega)]
    rw [show m * 256 = 2 ^ 8 * m by omega, ← Nat.two_pow_add_eq_or_of_lt (by omega)]
  rw [e, wrap_int (by omega) (by omega), show ((m * 256 + q : Nat) : Int) = (m : Int) * 256 + q by omega]
theorem bin_and255 (h0 : 0 ≤ a) (h1 : a ≤ 1099511627776) : abin P .and t (.int .i64 a) (.int .i64 255) = some (.int .i64 (a % 256)) := by
  rw [bin_and]
  obtain ⟨m, rfl⟩ : ∃ m : Nat, a = m := ⟨a.toNat, by omega⟩
  have e : (BitVec.ofInt IntKind.i64.bits (m : Int) &&& BitVec.ofInt IntKind.i64.bits (255 : Int)).toNat = m % 256 := by
    show (BitVec.ofInt 64 (m : Int) &&& BitVec.ofInt 64 ((255 : Nat) : Int)).toNat = m % 256
    rw [BitVec.toNat_and, bv_nat _ (by omega), bv_nat _ (by omega)]
    exact Nat.and_two_pow_sub_one_eq_mod m 8
  rw [e, wrap_int (by omega) (by omega)]
  congr 2
theorem bin_shrK {k : Nat} (hk : k ≤ 7) (hb : b = 8 * (k : Int)) : abin P .shr t (.int .i64 a) (.int .u64 b) = some (.int .i64 (a / 256 ^ k)) := by
  subst hb
  rw [bin_shr t .i64 a _ .u64 (by omega)]
  have : (2 : Int) ^ (min (8 * (k : Int)).toNat IntKind.i64.bits) = 256 ^ k := by
    rw [show min (8 * (k : Int)).toNat IntKind.i64.bits = 8 * k by show min _ 64 = _; omega, Int.pow_mul]
    rfl
  rw [this, Int.fdiv_eq_ediv_of_nonneg _ (Int.pow_nonneg (by decide))]
end bits
/-- Bytes as cells. -/
def u8v (b : UInt8) : Value := .int .u8 b.toNat
theorem bytesOf_u8 : ∀ (l : List UInt8), bytesOf (l.map u8v) = some l
  | [] => rfl
  | b :: r => by
    simp only [List.map_cons, bytesOf, u8v, byteOf', Option.bind_some]
    rw [bytesOf_u8 r]
    simp
theorem one_u8 (l : List UInt8) : (l.map u8v).all one = true := by
  rw [List.all_eq_true]
  intro v hv
  obtain ⟨b, _, rfl⟩ := List.mem_map.1 hv
  rfl
theorem conv_bytes {h : Heap} {s d e : TypeId} {x : Value} {lo hi n : Nat} {l : List UInt8} (h1 : P.underlying s = some (.slice e)) (h2 : P.underlying d = some .string) (h3 : byteT P e = true) (g : VS lo hi 1 h x n (l.map u8v)) : aconv P h s d x = some (.string ⟨⟨l⟩⟩) := conv_str h1 h2 h3 g.row (bytesOf_u8 l)
theorem putb {h : Heap} {b o n : Nat} {t : TypeId} {cs : List Value} {v : Value} (hb : h[b]? = some ⟨t, cs⟩) (hro : ro ≤ b) (hn : n = (cellsOf v).length) (ho : o + n ≤ cs.length) (h1 : (cellsOf v).all one = true) : put ro h b o n v = some (h.set b ⟨t, splice cs o (cellsOf v)⟩) := by
  unfold put
  rw [if_pos hro, hb]
  simp only [Option.bind_some]
  rw [if_pos ⟨hn, by omega, h1⟩]
theorem cellsb {h : Heap} {b o n : Nat} {t : TypeId} {cs : List Value} (hb : h[b]? = some ⟨t, cs⟩) (hn : o + n ≤ cs.length) : cells h b o n = some (.agg ⟨(cs.drop o).take n⟩) := by
  simp only [cells, hb, Option.bind_some]
  rw [if_pos hn]
theorem cells_set {h : Heap} {b o n : Nat} {C : Blk} (hb : b < h.length) (hn : o + n ≤ C.cells.length) : cells (h.set b C) b o n = some (.agg ⟨(C.cells.drop o).take n⟩) := by
  simp only [cells, List.getElem?_set_self hb, Option.bind_some]
  rw [if_pos hn]
theorem cell_set {h : Heap} {b o : Nat} {C : Blk} (hb : b < h.length) : cell (h.set b C) b o = C.cells[o]? := by
  simp only [cell, List.getElem?_set_self hb, Option.bind_some]
theorem put2 {h : Heap} {b : Nat} {t : TypeId} {u v a c : Value} (hb : h[b]? = some ⟨t, [u, v]⟩) (hro : ro ≤ b) (h1 : one a = true) (h2 : one c = true) : put ro h b 0 2 (.agg ⟨[a, c]⟩) = some (h.set b ⟨t, [a, c]⟩) := by
  exact putb (n := 2) (v := .agg ⟨[a, c]⟩) hb hro rfl (Nat.le_refl _) (by simp [cellsOf, h1, h2])
theorem Pfx.set {h0 h : Heap} {b : Nat} {C : Blk} (p : Pfx h0 h) (hb : h0.length ≤ b) : Pfx h0 (h.set b C) := by
  have hl := p.len
  refine List.ext_getElem? fun j => ?_
  rw [List.getElem?_take]
  by_cases q : j < h0.length
  · rw [if_pos q, List.getElem?_set, if_neg (by omega)]; exact p.get q
  · rw [if_neg q, List.getElem?_eq_none (by omega)]
theorem set_get {h : Heap} {b c : Nat} {C : Blk} (hb : c ≠ b) : (h.set b C)[c]? = h[c]? := by rw [List.getElem?_set, if_neg (fun e => hb e.symm)]
theorem set_at {h : Heap} {b : Nat} {C : Blk} (hb : b < h.length) : (h.set b C)[b]? = some C := List.getElem?_set_self hb
theorem loop_step {c : Code} {Q : Ex → Env → Heap → Prop} {e : Env} {h : Heap} : LoopP P ro X c Q e h = W P ro X c (thenQ (fun e h => LoopP P ro X c Q e h) Q) e h := propext W_loop
end Go.Proofs.Yteignhphimfmkaa.Sim
