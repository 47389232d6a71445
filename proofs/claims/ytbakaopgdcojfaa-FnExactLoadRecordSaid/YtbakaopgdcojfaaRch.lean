/- Rows of frames; the frames that bytes begin with: the reference's. Lemmas only; no condition. -/
import Derived.Test.YtbakaopgdcojfaaRcg
set_option linter.unusedSimpArgs false
set_option linter.unusedVariables false
set_option maxRecDepth 8000
namespace Go.Proofs.Ytbakaopgdcojfaa.Sim
open Go Go.RowKit
variable {ro : Nat} {X : Ext}
/-- append of one element of 'k' cells, made on the spot. -/
theorem accK {P : Program} {lo n k e T by_ : Nat} {h : Heap} {x z : Value} {L M : List Value} (he : elemT P T = some e) (hs : szT P e = some k) (hb : byT P e = some by_) (hz : zeroT P e = some z) (hk : 0 < k) (g : VN lo e k h x n L) (hro : ro ≤ lo) (hlo : lo ≤ h.length)
    (hM : M.length = k) (h1 : M.all one = true) (hn : (n + 1) * by_ ≤ 140737488355328) (hn' : n + 1 ≤ 4611686018427387904) :
    ∃ H, ablt P ro .append [T, T] [x, .slice (some ⟨h.length, 0, none⟩) 1 1] (h ++ [⟨e, M⟩]) = some (.slice (some ⟨h.length + 1, 0, none⟩) (n + 1) (n + 1 + 1), H) ∧ VG lo e k H (.slice (some ⟨h.length + 1, 0, none⟩) (n + 1) (n + 1 + 1)) (n + 1) (L ++ M) ∧ Old lo x h H ∧ H.length = h.length + 2 := by
  have p1 := (Pfx.refl h).snoc (C := ⟨e, M⟩)
  have q1 : (h ++ [(⟨e, M⟩ : Blk)]).length = h.length + 1 := by simp
  have g1 := g.pre p1
  have hll : L.length = n * k := by
    rcases g with g | ⟨rfl, rfl, _⟩
    · exact g.1
    · simp
  have ap := ablt_apv (ro := ro) he hs hb hz hk (.inl rfl) g1 hro (y := .slice (some ⟨h.length, 0, none⟩) 1 1) (M := M) (m := 1) (news_blk (j := 1) (get_last rfl) (by omega)) rfl (by omega) (by decide) h1 hn hn'
  rw [q1] at ap
  refine ⟨_, ap, ?_, ⟨fun h0 hp hl => Pfx.apv (hp.trans p1) g1 hl, fun b hb hne => ?_, ?_⟩, ?_⟩
  · have := vg_apv (lo := lo) (t := e) (k := k) (h := h ++ [(⟨e, M⟩ : Blk)]) (x := x) (n := n) (m := n + 1) (M := L ++ M) (by rw [List.length_append, hll, hM, Nat.add_mul, Nat.one_mul]) (by omega) (by omega)
    rw [q1] at this
    exact this
  · rw [apv_getN g1 (by omega) hne]; exact get_skip hb
  · rw [apv_len, q1]; omega
  · rw [apv_len, q1]
/-- Frames in a row: an index and numbers each; the numbers of each in another block, and none in the block 'bx'. -/
structure NF (lo hi : Nat) (h : Heap) (bx n m : Nat) (L : List Value) (ix : Nat → Int) (zs : Nat → List Value) : Prop where
  len : L.length = m * 2
  idx : ∀ j, j < m → vth L (j * 2) = .int .i64 (ix j)
  row : ∀ j, j < m → VS (bOf (vth L (j * 2 + 1))) (bOf (vth L (j * 2 + 1)) + 1) 1 h (vth L (j * 2 + 1)) n (zs j)
  rng : ∀ j, j < m → lo ≤ bOf (vth L (j * 2 + 1)) ∧ bOf (vth L (j * 2 + 1)) < hi
  out : ∀ j, j < m → bOf (vth L (j * 2 + 1)) ≠ bx
  sep : ∀ i j, i ≠ j → i < m → j < m → bOf (vth L (i * 2 + 1)) ≠ bOf (vth L (j * 2 + 1))
section nf
variable {lo hi bx n m : Nat} {h : Heap} {L : List Value} {ix : Nat → Int} {zs : Nat → List Value}
theorem NF.nil : NF lo hi h bx n 0 [] ix zs := ⟨rfl, fun j hj => by omega, fun j hj => by omega, fun j hj => by omega, fun j hj => by omega, fun i j _ hi => by omega⟩
theorem NF.frame {h' : Heap} (g : NF lo hi h bx n m L ix zs) (hh : ∀ b, lo ≤ b → b < hi → b ≠ bx → h'[b]? = h[b]?) : NF lo hi h' bx n m L ix zs :=
  ⟨g.len, g.idx, fun i hi => (g.row i hi).frame fun b h1 h2 => by
    obtain rfl : b = bOf (vth L (i * 2 + 1)) := by omega
    exact hh _ (g.rng i hi).1 (g.rng i hi).2 (g.out i hi), g.rng, g.out, g.sep⟩
theorem NF.wide {lo' hi' : Nat} (g : NF lo hi h bx n m L ix zs) (h1 : lo' ≤ lo) (h2 : hi ≤ hi') : NF lo' hi' h bx n m L ix zs :=
  ⟨g.len, g.idx, g.row, fun i hi => by have := g.rng i hi; omega, g.out, g.sep⟩
theorem NF.pre {h' : Heap} (g : NF lo hi h bx n m L ix zs) (p : Pfx h h') : NF lo hi h' bx n m L ix zs :=
  ⟨g.len, g.idx, fun i hi => (g.row i hi).pre p, g.rng, g.out, g.sep⟩
theorem NF.push {h' : Heap} {bx' hi' : Nat} {y : Value} (g : NF lo hi h bx n m L ix zs) (hh : ∀ b, lo ≤ b → b < hi → b ≠ bx → h'[b]? = h[b]?) (hy : VS (bOf y) (bOf y + 1) 1 h' y n (zs m)) (hb : hi ≤ bOf y) (hlo : lo ≤ hi) (hb' : bOf y < hi') (hbx : bOf y ≠ bx') (hi1 : hi ≤ bx') (hi2 : hi ≤ hi') :
    NF lo hi' h' bx' n (m + 1) (L ++ [.int .i64 (ix m), y]) ix zs := by
  have hl := g.len
  have old : ∀ i, i < m * 2 → vth (L ++ [.int .i64 (ix m), y]) i = vth L i := fun i hi => vth_append_left (by omega)
  have new0 : vth (L ++ [.int .i64 (ix m), y]) (m * 2) = .int .i64 (ix m) := by rw [vth_append_right (by omega), hl, Nat.sub_self]; rfl
  have new1 : vth (L ++ [.int .i64 (ix m), y]) (m * 2 + 1) = y := by rw [vth_append_right (by omega), hl, show m * 2 + 1 - m * 2 = 1 by omega]; rfl
  refine ⟨by simp [hl]; omega, fun j hj => ?_, fun j hj => ?_, fun j hj => ?_, fun j hj => ?_, fun i j hij hi hj => ?_⟩
  · by_cases q : j = m
    · subst q; exact new0
    · rw [old _ (by omega)]; exact g.idx j (by omega)
  · by_cases q : j = m
    · subst q; rw [new1]; exact hy
    · rw [old _ (by omega)]; exact (g.frame hh).row j (by omega)
  · by_cases q : j = m
    · subst q; rw [new1]; omega
    · rw [old _ (by omega)]; have := g.rng j (by omega); omega
  · by_cases q : j = m
    · subst q; rw [new1]; exact hbx
    · rw [old _ (by omega)]; have := g.rng j (by omega); omega
  · by_cases q : i = m
    · subst q
      rw [new1, old _ (by omega)]
      have := g.rng j (by omega); omega
    · by_cases q' : j = m
      · subst q'
        rw [new1, old _ (by omega)]
        have := g.rng i (by omega); omega
      · rw [old _ (by omega), old _ (by omega)]
        exact g.sep i j hij (by omega) (by omega)
end nf
/-- Where the frames lie, and which. -/
def posN (l : List UInt8) (j : Nat) : Nat := 5 + j * (6 + 8 * elN l)
def ixN (l : List UInt8) (j : Nat) : Int := wd l (posN l j)
def zsN (l : List UInt8) (j : Nat) : List Value := (atZ l (posN l j) (elN l)).map cpx
def lastN (l : List UInt8) (j : Nat) : Int := if j = 0 then -1 else ixN l (j - 1)
def okJ (l : List UInt8) (j : Nat) : Bool := atOk l (posN l j) (elN l) && decide (lastN l j < ixN l j)
theorem posN_succ (l : List UInt8) (j : Nat) : posN l (j + 1) = posN l j + (6 + 8 * elN l) := by
  unfold posN
  rw [Nat.add_mul]
  omega
theorem posN_le {l : List UInt8} {j : Nat} (hn : elN l ≤ 16) (hj : j ≤ 64) : posN l j ≤ 10000 := by
  unfold posN
  have : j * (6 + 8 * elN l) ≤ 64 * 134 := Nat.mul_le_mul hj (by omega)
  omega
theorem atOk_len {l : List UInt8} {a n : Nat} (h : atOk l a n = true) : a + (6 + 8 * n) ≤ l.length := by
  simp only [atOk, Bool.and_eq_true, decide_eq_true_eq] at h
  exact h.1.1
/-- How many frames there are. -/
def Cnt (l : List UInt8) (m : Nat) : Prop := m ≤ 64 ∧ (∀ j, j < m → okJ l j = true) ∧ (m = 64 ∨ okJ l m = false)
theorem Cnt.uniq {l : List UInt8} {m m' : Nat} (a : Cnt l m) (b : Cnt l m') : m = m' := by
  rcases Nat.lt_trichotomy m m' with q | q | q
  · have := b.2.1 m q
    rcases a.2.2 with w | w
    · have := b.1; omega
    · rw [this] at w; cases w
  · exact q
  · have := a.2.1 m' q
    rcases b.2.2 with w | w
    · have := a.1; omega
    · rw [this] at w; cases w
/-- A record's frames in memory. -/
def FrS (lo : Nat) (h : Heap) (x : Value) (n m : Nat) (L : List Value) (ix : Nat → Int) (zs : Nat → List Value) : Prop := VN lo 50 2 h x m L ∧ NF lo h.length h (bOf x) n m L ix zs
/-- What l10Recover returns. -/
def RcS (l : List UInt8) (h h' : Heap) (r : Value) : Prop :=
  Pfx h h' ∧ ((hdrOk l = false ∧ ∃ i y, r = .tuple ⟨[.agg ⟨[.int .i64 i, y]⟩, .int .i64 0, .bool false]⟩ ∧ one y = true ∧ cellsOf y = [y]) ∨
    (hdrOk l = true ∧ ∃ m x L, Cnt l m ∧ r = .tuple ⟨[.agg ⟨[.int .i64 (elN l), x]⟩, .int .i64 (posN l m), .bool true]⟩ ∧ FrS h.length h' x (elN l) m L (ixN l) (zsN l)))
set_option maxHeartbeats 4000000 in
theorem l10Recover_c (hX : XB X) {l : List UInt8} {h : Heap} (hl : l.length ≤ 1048576) (hro : ro ≤ h.length) :
    CallR Try.prog ro X 95 [.string ⟨⟨l⟩⟩] h (fun r h' => RcS l h h' r) := by
  refine callR_of (hX.n _ rfl) Try.func95 rfl (by kernel_rfl) (Nat.le_of_ble_eq_true rfl) ?_
  (repeat' first | simp -dsimp (disch := first | omega | assumption | (refine OkS.sto ?_ (by omega); first | assumption | (refine OkS.sto ?_ (by omega); first | assumption | (refine OkS.sto ?_ (by omega); first | assumption | (refine OkS.sto ?_ (by omega); first | assumption | (refine OkS.sto ?_ (by omega); first | assumption | (refine OkS.sto ?_ (by omega); first | assumption)))))) | exact Pfx.refl _ | (apply Pfx.snoc; repeat (first | exact Pfx.refl _ | assumption | apply Pfx.snoc)) | with_unfolding_all exact of_eq_true (eq_true rfl) | (simp only [List.length_append, List.length_cons, List.length_nil]; omega)) only [↓wpre0, ↓wpre1, ↓reduceIte, Int.reduceToNat, Nat.reduceAdd, Nat.reduceMul, Nat.reduceEqDiff, wpost0, wpost1, wpost2, wpost3, wpost4, ite_self, ite_true, ite_false, if_true, if_false, tze74, xbls72_0, xbls72_1, xbld74_0_1, xst74, un_not, xld74, xfad74_1, xld72, xlen72, bin_lss, tze50, xst50, xfad50_0, xld2, bin_leq, xld50, xst72, bin_add, fr95, wrap_int, wrap_u8, iteP_yes, iteP_no, cf_eq (l10Open_c hX.n _ _)] | refine iteP_two (fun hc hd => ?_) (fun hc hd => ?_) | refine iteP_intro (fun hc => ?_) (fun hc => ?_))
  all_goals first
    | (refine ⟨(Pfx.refl h).snoc.snoc.snoc, .inl ⟨?_, _, _, rfl, rfl, rfl⟩⟩
       simp_all [hdrOk, opn]
       done)
    | skip
  rename_i hh
  have hOk : hdrOk l = true := by simp_all [hdrOk, opn]
  obtain ⟨e1, n1, n2, n3, n4⟩ := hdrOk_n hOk
  have e2 : opn ⟨⟨l⟩⟩ = (elN l : Int) := by rw [← e1]; simp_all [opn]
  refine loop_exit 0 (fun e2 h2 => ∃ m x L, Cnt l m ∧ Pfx (h ++ [(⟨74, [.int .i64 0, .slice none 0 0]⟩ : Blk)]) h2 ∧ h2[h.length + 2]? = some ⟨74, [.int .i64 (elN l), x]⟩ ∧ e2 2 = .pointer (some ⟨h.length, 0, none⟩) ∧ e2 7 = .pointer (some ⟨h.length + 2, 0, none⟩) ∧ e2 8 = .int .i64 (posN l m) ∧ bOf x ≠ h.length + 2 ∧ FrS (h.length + 1) h2 x (elN l) m L (ixN l) (zsN l)) ?_ ?_
  · refine loop_rounds (fun k e h' => ∃ (j : Nat) (x : Value) (L : List Value), k = 64 - j ∧ j ≤ 64 ∧ (∀ i, i < j → okJ l i = true) ∧ Pfx (h ++ [(⟨74, [.int .i64 0, .slice none 0 0]⟩ : Blk)]) h' ∧ h.length + 3 ≤ h'.length ∧ h'[h.length + 2]? = some ⟨74, [.int .i64 (elN l), x]⟩ ∧ e 0 = .string ⟨⟨l⟩⟩ ∧ e 2 = .pointer (some ⟨h.length, 0, none⟩) ∧ e 5 = .int .i64 (elN l) ∧ e 7 = .pointer (some ⟨h.length + 2, 0, none⟩) ∧ e 8 = .int .i64 (posN l j) ∧ e 9 = .int .i64 (lastN l j) ∧ bOf x ≠ h.length + 2 ∧ VG (h.length + 1) 50 2 h' x j L ∧ NF (h.length + 3) h'.length h' (bOf x) (elN l) j L (ixN l) (zsN l)) _ ⟨0, .slice (some ⟨h.length + 1, 0, none⟩) 0 0, [], rfl, ?_⟩ ?_
    · simp only [updO_at, updO_not, entry_at, List.getD_cons_zero, List.getD_cons_succ, ↓reduceIte, Nat.reduceEqDiff, true_and, and_true]
      refine ⟨by omega, fun i hi => by omega, (Pfx.refl _).snoc.snoc, by simp, by rw [e2]; simp, by rw [e2], by simp, by simp [posN], rfl, ?_, ?_, NF.nil⟩
      · show h.length + 1 ≠ h.length + 2
        omega
      · exact ⟨rfl, h.length + 1, 0, rfl, Nat.le_refl _, by simp, fun _ => rfl⟩
    · rintro k e h' ⟨j, x, L, hk, hle, hok, hp, hlen, hb8, g0, g2, g5, g7, g8, g9, hbo, hV, hN⟩
      have hx := hV.vs.shape
      have c81 : cell h' (h.length + 2) 1 = some x := cellb hb8
      have hpj := posN_le (l := l) n2 hle
      by_cases hin : j < 64
      · (repeat' first | simp -dsimp (disch := first | omega | assumption | (refine OkS.sto ?_ (by omega); first | assumption | (refine OkS.sto ?_ (by omega); first | assumption | (refine OkS.sto ?_ (by omega); first | assumption | (refine OkS.sto ?_ (by omega); first | assumption | (refine OkS.sto ?_ (by omega); first | assumption | (refine OkS.sto ?_ (by omega); first | assumption)))))) | exact Pfx.refl _ | (apply Pfx.snoc; repeat (first | exact Pfx.refl _ | assumption | apply Pfx.snoc)) | with_unfolding_all exact of_eq_true (eq_true rfl) | (simp only [List.length_append, List.length_cons, List.length_nil]; omega)) only [↓wpre0, ↓wpre1, ↓reduceIte, Int.reduceToNat, Nat.reduceAdd, Nat.reduceMul, Nat.reduceEqDiff, wpost0, wpost1, wpost2, wpost3, wpost4, ite_self, ite_true, ite_false, if_true, if_false, tze74, xbls72_0, xbls72_1, xbld74_0_1, xst74, un_not, xld74, xfad74_1, xld72, xlen72, bin_lss, tze50, xst50, xfad50_0, xld2, bin_leq, xld50, xst72, bin_add, fr95, wrap_int, wrap_u8, iteP_yes, iteP_no, g0, g2, g5, g7, g8, g9, c81, hV.vs.len Try.underlying72] | refine iteP_two (fun hc hd => ?_) (fun hc hd => ?_) | refine iteP_intro (fun hc => ?_) (fun hc => ?_))
        refine cf_rel (l10At_c (ro := ro) hX n1 n2 (by omega) (by omega) (by omega)) (fun q => by cases q) ?_
        rintro r h2 ⟨p2, idx, y, rfl, y1, y2, hy⟩
        have l2 := p2.len
        obtain ⟨H3, hH3⟩ : ∃ H3, H3 = h2 ++ [(⟨50, [.int .i64 idx, y]⟩ : Blk)] := ⟨_, rfl⟩
        have p3 : Pfx h2 H3 := by rw [hH3]; exact (Pfx.refl h2).snoc
        have l3 : H3.length = h2.length + 1 := by rw [hH3]; simp
        have b10 : H3[h2.length]? = some ⟨50, [.int .i64 idx, y]⟩ := by rw [hH3]; exact get_last rfl
        have b7 : H3[h.length + 2]? = some ⟨74, [.int .i64 (elN l), x]⟩ := by rw [(p2.trans p3).get (by omega)]; exact hb8
        have d10 : cell H3 h2.length 0 = some (.int .i64 idx) := cellb b10
        have d7 : cell H3 (h.length + 2) 1 = some x := cellb b7
        have k10 : cells H3 h2.length 0 2 = some (.agg ⟨[.int .i64 idx, y]⟩) := cellsb b10 (by simp)
        have V3 := hV.pre (p2.trans p3)
        have N3 := hN.pre (p2.trans p3)
        obtain ⟨H, ap, vg, old, hH⟩ := accK (P := Try.prog) (ro := ro) (T := 72) (M := [.int .i64 idx, y]) tel72 tsz50 tby50 tze50 (by decide) (.inl V3) (by omega) (by omega) rfl (by simp only [List.all_cons, List.all_nil, y2, Bool.and_true]; rfl) (by omega) (by omega)
        have hbd : bldS Try.prog H3 72 1 [(0, .agg ⟨[.int .i64 idx, y]⟩)] = some (.slice (some ⟨H3.length, 0, none⟩) 1 1, H3 ++ [⟨50, [.int .i64 idx, y]⟩]) := bldS_one (v := .agg ⟨[.int .i64 idx, y]⟩) tel72 tsz50 tze50 rfl (by decide) rfl (by simp only [cellsOf, List.all_cons, List.all_nil, y2, Bool.and_true]; rfl)
        have b7H : H[h.length + 2]? = some ⟨74, [.int .i64 (elN l), x]⟩ := by
          rw [old.2.1 _ (by omega) (.inr (Ne.symm hbo))]; exact b7
        have hput1 : put ro H (h.length + 2) 1 1 (.slice (some ⟨H3.length + 1, 0, none⟩) (j + 1) (j + 1 + 1)) = some (H.set (h.length + 2) ⟨74, [.int .i64 (elN l), .slice (some ⟨H3.length + 1, 0, none⟩) (j + 1) (j + 1 + 1)]⟩) := by
          rw [putb (ro := ro) (n := 1) (v := .slice (some ⟨H3.length + 1, 0, none⟩) (j + 1) (j + 1 + 1)) b7H (by omega) rfl (Nat.le_refl 2) rfl]; rfl
        have b10H : H[h2.length]? = some ⟨50, [.int .i64 idx, y]⟩ := by
          rw [old.2.1 _ (by omega) (.inr (by have := hV.bof.2; omega))]; exact b10
        have d10H : ∀ C, cell (H.set (h.length + 2) C) h2.length 0 = some (.int .i64 idx) := fun C => by
          have q : (H.set (h.length + 2) C)[h2.length]? = some ⟨50, [.int .i64 idx, y]⟩ := (set_get (by omega)).trans b10H
          exact cellb q
        have d7b : ∀ C, cell (H3 ++ [C]) (h.length + 2) 1 = some x := fun C => (cell_skip (by omega)).trans d7
        have eqp : posN l j + (6 + 8 * elN l) = posN l (j + 1) := (posN_succ l j).symm
        have eqi : (posN l j : Int) + (6 + 8 * (elN l : Int)) = (posN l (j + 1) : Int) := by rw [← eqp]; omega
        have stop : okJ l j = false → ∃ m x L, Cnt l m ∧ Pfx (h ++ [(⟨74, [.int .i64 0, .slice none 0 0]⟩ : Blk)]) H3 ∧ H3[h.length + 2]? = some ⟨74, [.int .i64 (elN l), x]⟩ ∧ Value.int .i64 (posN l j) = .int .i64 (posN l m) ∧ bOf x ≠ h.length + 2 ∧ FrS (h.length + 1) H3 x (elN l) m L (ixN l) (zsN l) := fun q =>
          ⟨j, x, L, ⟨hle, hok, .inr q⟩, hp.trans (p2.trans p3), b7, rfl, hbo, .inl V3, N3.wide (by omega) (by omega)⟩
        (repeat' first | simp -dsimp (disch := first | omega | assumption | (refine OkS.sto ?_ (by omega); first | assumption | (refine OkS.sto ?_ (by omega); first | assumption | (refine OkS.sto ?_ (by omega); first | assumption | (refine OkS.sto ?_ (by omega); first | assumption | (refine OkS.sto ?_ (by omega); first | assumption | (refine OkS.sto ?_ (by omega); first | assumption)))))) | exact Pfx.refl _ | (apply Pfx.snoc; repeat (first | exact Pfx.refl _ | assumption | apply Pfx.snoc)) | with_unfolding_all exact of_eq_true (eq_true rfl) | (simp only [List.length_append, List.length_cons, List.length_nil]; omega)) only [↓wpre0, ↓wpre1, ↓reduceIte, Int.reduceToNat, Nat.reduceAdd, Nat.reduceMul, Nat.reduceEqDiff, wpost0, wpost1, wpost2, wpost3, wpost4, ite_self, ite_true, ite_false, if_true, if_false, tze74, xbls72_0, xbls72_1, xbld74_0_1, xst74, un_not, xld74, xfad74_1, xld72, xlen72, bin_lss, tze50, xst50, xfad50_0, xld2, bin_leq, xld50, xst72, bin_add, fr95, wrap_int, wrap_u8, iteP_yes, iteP_no, g0, g2, g5, g7, g8, g9, put_last2 (ro := ro) (h := h2) (t := 50) (u := .int .i64 0) (v := .slice none 0 0) (a := .int .i64 idx) (c := y) (by omega) rfl y2, ← hH3, d10, d7, d7b, k10, hbd, ap, hput1, d10H, eqi, cf_eq (l10Size_c hX.n (elN l : Int) (by omega) (by omega) _)] | refine iteP_two (fun hc hd => ?_) (fun hc hd => ?_) | refine iteP_intro (fun hc => ?_) (fun hc => ?_))
        · refine stop ?_
          have hat : atOk l (posN l j) (elN l) = true := by assumption
          have hi := (hy hat).1
          unfold okJ
          rw [decide_eq_false (by unfold ixN; omega), Bool.and_false]
        · have hat : atOk l (posN l j) (elN l) = true := by assumption
          obtain ⟨hi, vy⟩ := hy hat
          have hgt : ¬ idx ≤ lastN l j := by assumption
          have hyb := vy.bof
          have hxb := hV.bof
          replace hi : idx = ixN l j := hi
          subst hi
          refine ⟨_, by omega, j + 1, _, L ++ [.int .i64 (ixN l j), y], rfl, by omega, ?_, (old.1 _ (hp.trans (p2.trans p3)) (by simp)).set (by simp), by simp; omega, set_at (by omega), rfl, by simp [lastN], ?_, vg.frame (set_get ?_), ?_⟩
          · intro i hij
            rcases Nat.lt_or_ge i j with q | q
            · exact hok i q
            · obtain rfl : i = j := by omega
              unfold okJ
              rw [hat, decide_eq_true (by omega)]; rfl
          · show H3.length + 1 ≠ h.length + 2
            omega
          · show H3.length + 1 ≠ h.length + 2
            omega
          · refine N3.push (y := y) (fun b h1 h2 h4 => ?_) ?_ hyb.1 (by omega) (by rw [List.length_set]; omega) ?_ ?_ (by rw [List.length_set]; omega)
            · rw [set_get (by omega)]
              exact old.2.1 b (by omega) (.inr h4)
            · refine vy.vs.frb ?_
              rw [set_get (by omega), old.2.1 _ (by omega) (.inr (by omega))]
              exact p3.get hyb.2
            · show bOf y ≠ H3.length + 1
              omega
            · show h'.length ≤ H3.length + 1
              omega
        · refine stop ?_
          have hat : atOk l (posN l j) (elN l) = false := by assumption
          unfold okJ
          rw [hat, Bool.false_and]
      · have : j = 64 := by omega
        subst this
        (repeat' first | simp -dsimp (disch := first | omega | assumption | (refine OkS.sto ?_ (by omega); first | assumption | (refine OkS.sto ?_ (by omega); first | assumption | (refine OkS.sto ?_ (by omega); first | assumption | (refine OkS.sto ?_ (by omega); first | assumption | (refine OkS.sto ?_ (by omega); first | assumption | (refine OkS.sto ?_ (by omega); first | assumption)))))) | exact Pfx.refl _ | (apply Pfx.snoc; repeat (first | exact Pfx.refl _ | assumption | apply Pfx.snoc)) | with_unfolding_all exact of_eq_true (eq_true rfl) | (simp only [List.length_append, List.length_cons, List.length_nil]; omega)) only [↓wpre0, ↓wpre1, ↓reduceIte, Int.reduceToNat, Nat.reduceAdd, Nat.reduceMul, Nat.reduceEqDiff, wpost0, wpost1, wpost2, wpost3, wpost4, ite_self, ite_true, ite_false, if_true, if_false, tze74, xbls72_0, xbls72_1, xbld74_0_1, xst74, un_not, xld74, xfad74_1, xld72, xlen72, bin_lss, tze50, xst50, xfad50_0, xld2, bin_leq, xld50, xst72, bin_add, fr95, wrap_int, wrap_u8, iteP_yes, iteP_no, g0, g2, g5, g7, g8, g9, c81, hV.vs.len Try.underlying72] | refine iteP_two (fun hc hd => ?_) (fun hc hd => ?_) | refine iteP_intro (fun hc => ?_) (fun hc => ?_))
        exact ⟨64, x, L, ⟨Nat.le_refl _, hok, .inl rfl⟩, hp, hb8, rfl, hbo, .inl hV, hN.wide (by omega) (by omega)⟩
  · rintro e3 h2 ⟨m, x, L, hc2, hp, hb8, g2, g7, g8, hbo, hV, hN⟩
    have hx : flat x = false ∧ cellsOf x = [x] ∧ one x = true := hV.vs.shape
    have hl2 := hp.len
    have hl3 := lt_of_some hb8
    have hb4 : h2[h.length]? = some ⟨74, [.int .i64 0, .slice none 0 0]⟩ := by rw [hp.get (by simp)]; exact get_last rfl
    have hpy := put2 (ro := ro) (a := .int .i64 (elN l)) (c := x) hb4 hro rfl hx.2.2
    have hcl : cells h2 (h.length + 2) 0 2 = some (.agg ⟨[.int .i64 (elN l), x]⟩) := cellsb hb8 (by simp)
    (repeat' first | simp -dsimp (disch := first | omega | assumption | (refine OkS.sto ?_ (by omega); first | assumption | (refine OkS.sto ?_ (by omega); first | assumption | (refine OkS.sto ?_ (by omega); first | assumption | (refine OkS.sto ?_ (by omega); first | assumption | (refine OkS.sto ?_ (by omega); first | assumption | (refine OkS.sto ?_ (by omega); first | assumption)))))) | exact Pfx.refl _ | (apply Pfx.snoc; repeat (first | exact Pfx.refl _ | assumption | apply Pfx.snoc)) | with_unfolding_all exact of_eq_true (eq_true rfl) | (simp only [List.length_append, List.length_cons, List.length_nil]; omega)) only [↓wpre0, ↓wpre1, ↓reduceIte, Int.reduceToNat, Nat.reduceAdd, Nat.reduceMul, Nat.reduceEqDiff, wpost0, wpost1, wpost2, wpost3, wpost4, ite_self, ite_true, ite_false, if_true, if_false, tze74, xbls72_0, xbls72_1, xbld74_0_1, xst74, un_not, xld74, xfad74_1, xld72, xlen72, bin_lss, tze50, xst50, xfad50_0, xld2, bin_leq, xld50, xst72, bin_add, fr95, wrap_int, wrap_u8, iteP_yes, iteP_no, g2, g7, g8, hcl, hpy, cells_set] | refine iteP_two (fun hc hd => ?_) (fun hc hd => ?_) | refine iteP_intro (fun hc => ?_) (fun hc => ?_))
    refine ⟨((Pfx.refl h).snoc.trans hp).set (Nat.le_refl _), .inr ⟨hOk, m, x, L, hc2, rfl, ?_, ?_⟩⟩
    · rcases hV with g | g
      · exact .inl ((g.frame (set_get (by have := g.bof.1; omega))).low (by omega))
      · exact .inr g
    · exact (hN.frame fun b h1 h2 _ => set_get (by omega)).wide (by omega) (by simp)
end Go.Proofs.Ytbakaopgdcojfaa.Sim
