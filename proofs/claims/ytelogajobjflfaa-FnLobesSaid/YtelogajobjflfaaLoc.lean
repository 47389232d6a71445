/- Cuts of small numbers: lobes, the strong ones; how a cut is drawn. Lemmas only; no condition. -/
import Derived.Test.YtelogajobjflfaaLob
set_option linter.unusedSimpArgs false
set_option linter.unusedVariables false
set_option maxRecDepth 8000
namespace Go.Proofs.Ytelogajobjflfaa.Sim
open Go Go.RowKit
variable {ro : Nat} {X : Ext} {lo hi : Nat} {x : Value} {h : Heap} {L : List Nat}
/-- A slice's beginning. -/
theorem vs_cut {P : Program} {T e lo hi n q : Nat} {kk : IntKind} {h : Heap} {x : Value} {L : List Value} (hu : P.underlying T = some (.slice e)) (hs : szT P e = some 1) (g : VS lo hi 1 h x n L) (ht : ro ≤ bOf x → (h[bOf x]?).map Blk.ty = some e) (hq : q ≤ n) : ∃ y, slc P ro h T x none (some (.int kk q)) none = some y ∧ VS lo hi 1 h y q (L.take q) := by
  rcases g with ⟨hl, ⟨rfl, rfl⟩ | ⟨b, o, cap, Bk, rfl, h1, h2, h3, h4, h5⟩⟩
  · obtain rfl : q = 0 := by omega
    refine ⟨.slice none 0 0, ?_, ⟨by simp, .inl ⟨rfl, rfl⟩⟩⟩
    simp only [slc, hu, bnd, hs, Option.bind_some]
    rw [if_pos (by simp)]
  · refine ⟨.slice (some ⟨b, o, none⟩) q (if q = n ∧ cap = n then q else q + 1), ?_, ⟨by rw [List.length_take]; omega, .inr ⟨b, o, _, Bk, rfl, h1, h2, h3, by omega, fun j hj => ?_⟩⟩⟩
    · have ht' : ro ≤ b → (h[b]?).map Blk.ty = some e := ht
      have e : ((q : Int) = (n : Int)) = (q = n) := propext ⟨fun h => by omega, fun h => by omega⟩
      simp only [slc, hu, bnd, hs, Option.bind_some]
      rw [if_pos ⟨Int.le_refl _, by omega, by omega, Int.le_refl _, ht', fun q => by simp at q⟩]
      simp [e]
    · rw [h5 j (by omega)]
      have : j < q := by omega
      simp [vth, List.getD_eq_getElem?_getD, List.getElem?_take, this]
theorem vg_cut {P : Program} {T e lo n q : Nat} {kk : IntKind} {h : Heap} {x : Value} {L : List Value} (hu : P.underlying T = some (.slice e)) (hs : szT P e = some 1) (g : VG lo e 1 h x n L) (hq : q ≤ n) : ∃ y, slc P ro h T x none (some (.int kk q)) none = some y ∧ VS lo h.length 1 h y q (L.take q) := by
  obtain ⟨hl, b, cap, rfl, hb, hg, hc⟩ := g
  refine ⟨.slice (some ⟨b, 0, none⟩) q (if q = n ∧ cap = n then q else q + 1), ?_, ⟨by rw [List.length_take]; omega, .inr ⟨b, 0, _, _, rfl, hb, lt_of_some hg, hg, by simp only; omega, fun j hj => ?_⟩⟩⟩
  · have e : ((q : Int) = (n : Int)) = (q = n) := propext ⟨fun h => by omega, fun h => by omega⟩
    simp only [slc, hu, bnd, hs, Option.bind_some, hg, Option.map_some]
    rw [if_pos ⟨Int.le_refl _, by omega, by omega, Int.le_refl _, fun _ => by simp, fun q => by simp at q⟩]
    simp [e]
  · rw [Nat.zero_add]
    have : j < q := by omega
    have hjl : j < L.length := by omega
    show L[j]? = _
    rw [vth_get hjl]
    simp [vth, List.getD_eq_getElem?_getD, List.getElem?_take, this]
def ltN (a b : Nat) : Bool := decide (a < b)
theorem lobf_r (hX : XN X) (hL : CL L) (a b : Nat) (H : Heap) : Ret Try.prog ro X 114 [.float .f32 (fS (cn L a)), .float .f32 (fS (cn L b))] H (.bool (ltN (cn L a) (cn L b))) := by
  refine ret_of (callR_of (hX _ rfl) Try.func114 rfl (by kernel_rfl) (Nat.le_of_ble_eq_true rfl) ?_)
  (repeat' first | simp -dsimp (disch := first | omega | assumption | (refine OkS.sto ?_ (by omega); first | assumption | (refine OkS.sto ?_ (by omega); first | assumption | (refine OkS.sto ?_ (by omega); first | assumption | (refine OkS.sto ?_ (by omega); first | assumption | (refine OkS.sto ?_ (by omega); first | assumption | (refine OkS.sto ?_ (by omega); first | assumption)))))) | exact Pfx.refl _ | (apply Pfx.snoc; repeat (first | exact Pfx.refl _ | assumption | apply Pfx.snoc)) | with_unfolding_all exact of_eq_true (eq_true rfl) | (simp only [List.length_append, List.length_cons, List.length_nil]; omega)) only [↓wpre0, ↓wpre1, ↓reduceIte, Int.reduceToNat, Nat.reduceAdd, Nat.reduceMul, Nat.reduceEqDiff, wpost0, wpost1, wpost2, wpost3, wpost4, ite_self, ite_true, ite_false, if_true, if_false, bin_flss, fr114, wrap_int, wrap_u8, iteP_yes, iteP_no, lt_cn hL, ltN] | refine iteP_two (fun hc hd => ?_) (fun hc hd => ?_) | refine iteP_intro (fun hc => ?_) (fun hc => ?_))
theorem Lobes_c (hX : XN X) (hC : CUT lo hi h x L) (h1 : 1 ≤ L.length) (hro : ro ≤ h.length) :
    CallR Try.prog ro X 22 [x] h (fun r h' => ∃ y, r = .tuple ⟨[y, .bool true]⟩ ∧ Pfx h h' ∧ VG h.length 2 1 h' y (runL ltN L).length (vints ((runL ltN L).map natI))) := by
  refine callR_of (hX _ rfl) Try.func22 rfl (by kernel_rfl) (Nat.le_of_ble_eq_true rfl) ?_
  (repeat' first | simp -dsimp (disch := first | omega | assumption | (refine OkS.sto ?_ (by omega); first | assumption | (refine OkS.sto ?_ (by omega); first | assumption | (refine OkS.sto ?_ (by omega); first | assumption | (refine OkS.sto ?_ (by omega); first | assumption | (refine OkS.sto ?_ (by omega); first | assumption | (refine OkS.sto ?_ (by omega); first | assumption)))))) | exact Pfx.refl _ | (apply Pfx.snoc; repeat (first | exact Pfx.refl _ | assumption | apply Pfx.snoc)) | with_unfolding_all exact of_eq_true (eq_true rfl) | (simp only [List.length_append, List.length_cons, List.length_nil]; omega)) only [↓wpre0, ↓wpre1, ↓reduceIte, Int.reduceToNat, Nat.reduceAdd, Nat.reduceMul, Nat.reduceEqDiff, wpost0, wpost1, wpost2, wpost3, wpost4, ite_self, ite_true, ite_false, if_true, if_false, un_not, fr22, wrap_int, wrap_u8, iteP_yes, iteP_no, isCut_r hX hC h1] | refine iteP_two (fun hc hd => ?_) (fun hc hd => ?_) | refine iteP_intro (fun hc => ?_) (fun hc => ?_))
  refine cf_rel (runs_c hX hC ltN _ hro (fun H a b => lobf_r hX hC.s a b H)) (fun q => by cases q) ?_
  rintro r h' ⟨hp, hY⟩
  have hnf : Sim.flat (.tuple ⟨[r, .bool true]⟩) = false := by obtain ⟨_, b, cap, rfl, _⟩ := hY; rfl
  (repeat' first | simp -dsimp (disch := first | omega | assumption | (refine OkS.sto ?_ (by omega); first | assumption | (refine OkS.sto ?_ (by omega); first | assumption | (refine OkS.sto ?_ (by omega); first | assumption | (refine OkS.sto ?_ (by omega); first | assumption | (refine OkS.sto ?_ (by omega); first | assumption | (refine OkS.sto ?_ (by omega); first | assumption)))))) | exact Pfx.refl _ | (apply Pfx.snoc; repeat (first | exact Pfx.refl _ | assumption | apply Pfx.snoc)) | with_unfolding_all exact of_eq_true (eq_true rfl) | (simp only [List.length_append, List.length_cons, List.length_nil]; omega)) only [↓wpre0, ↓wpre1, ↓reduceIte, Int.reduceToNat, Nat.reduceAdd, Nat.reduceMul, Nat.reduceEqDiff, wpost0, wpost1, wpost2, wpost3, wpost4, ite_self, ite_true, ite_false, if_true, if_false, un_not, fr22, wrap_int, wrap_u8, iteP_yes, iteP_no, endH_not hnf] | refine iteP_two (fun hc hd => ?_) (fun hc hd => ?_) | refine iteP_intro (fun hc => ?_) (fun hc => ?_))
  exact ⟨r, rfl, hp, hY⟩
theorem strf_r (hX : XN X) {H : Heap} {b : Nat} (hC : CUT lo hi H x L) (hb : H[b]? = some ⟨24, [x]⟩) {i j : Nat} (hi' : i < L.length) (hj : j < L.length) :
    ∃ c : Int, (c < 0 ↔ cn L j < cn L i) ∧ Ret Try.prog ro X 110 [.int .i64 i, .int .i64 j, .pointer (some ⟨b, 0, none⟩)] H (.int .i64 c) := by
  have hL := hC.s
  have hc : cell H b 0 = some x := cellb hb
  by_cases h1 : cn L j < cn L i
  · refine ⟨-1, by simp [h1], ?_⟩
    refine ret_of (callR_of (hX _ rfl) Try.func110 rfl (by kernel_rfl) (Nat.le_of_ble_eq_true rfl) ?_)
    (repeat' first | simp -dsimp (disch := first | omega | assumption | (refine OkS.sto ?_ (by omega); first | assumption | (refine OkS.sto ?_ (by omega); first | assumption | (refine OkS.sto ?_ (by omega); first | assumption | (refine OkS.sto ?_ (by omega); first | assumption | (refine OkS.sto ?_ (by omega); first | assumption | (refine OkS.sto ?_ (by omega); first | assumption)))))) | exact Pfx.refl _ | (apply Pfx.snoc; repeat (first | exact Pfx.refl _ | assumption | apply Pfx.snoc)) | with_unfolding_all exact of_eq_true (eq_true rfl) | (simp only [List.length_append, List.length_cons, List.length_nil]; omega)) only [↓wpre0, ↓wpre1, ↓reduceIte, Int.reduceToNat, Nat.reduceAdd, Nat.reduceMul, Nat.reduceEqDiff, wpost0, wpost1, wpost2, wpost3, wpost4, ite_self, ite_true, ite_false, if_true, if_false, xld24, xiad24, xld29, bin_fgtr, bin_flss, fr110, wrap_int, wrap_u8, iteP_yes, iteP_no, hc, hC.iad, hC.ld, lt_cn hL] | refine iteP_two (fun hc hd => ?_) (fun hc hd => ?_) | refine iteP_intro (fun hc => ?_) (fun hc => ?_))
  · by_cases h2 : cn L i < cn L j
    · refine ⟨1, by simp [h1], ?_⟩
      refine ret_of (callR_of (hX _ rfl) Try.func110 rfl (by kernel_rfl) (Nat.le_of_ble_eq_true rfl) ?_)
      (repeat' first | simp -dsimp (disch := first | omega | assumption | (refine OkS.sto ?_ (by omega); first | assumption | (refine OkS.sto ?_ (by omega); first | assumption | (refine OkS.sto ?_ (by omega); first | assumption | (refine OkS.sto ?_ (by omega); first | assumption | (refine OkS.sto ?_ (by omega); first | assumption | (refine OkS.sto ?_ (by omega); first | assumption)))))) | exact Pfx.refl _ | (apply Pfx.snoc; repeat (first | exact Pfx.refl _ | assumption | apply Pfx.snoc)) | with_unfolding_all exact of_eq_true (eq_true rfl) | (simp only [List.length_append, List.length_cons, List.length_nil]; omega)) only [↓wpre0, ↓wpre1, ↓reduceIte, Int.reduceToNat, Nat.reduceAdd, Nat.reduceMul, Nat.reduceEqDiff, wpost0, wpost1, wpost2, wpost3, wpost4, ite_self, ite_true, ite_false, if_true, if_false, xld24, xiad24, xld29, bin_fgtr, bin_flss, fr110, wrap_int, wrap_u8, iteP_yes, iteP_no, hc, hC.iad, hC.ld, lt_cn hL] | refine iteP_two (fun hc hd => ?_) (fun hc hd => ?_) | refine iteP_intro (fun hc => ?_) (fun hc => ?_))
    · refine ⟨0, by simp [h1], ?_⟩
      refine ret_of (callR_of (hX _ rfl) Try.func110 rfl (by kernel_rfl) (Nat.le_of_ble_eq_true rfl) ?_)
      (repeat' first | simp -dsimp (disch := first | omega | assumption | (refine OkS.sto ?_ (by omega); first | assumption | (refine OkS.sto ?_ (by omega); first | assumption | (refine OkS.sto ?_ (by omega); first | assumption | (refine OkS.sto ?_ (by omega); first | assumption | (refine OkS.sto ?_ (by omega); first | assumption | (refine OkS.sto ?_ (by omega); first | assumption)))))) | exact Pfx.refl _ | (apply Pfx.snoc; repeat (first | exact Pfx.refl _ | assumption | apply Pfx.snoc)) | with_unfolding_all exact of_eq_true (eq_true rfl) | (simp only [List.length_append, List.length_cons, List.length_nil]; omega)) only [↓wpre0, ↓wpre1, ↓reduceIte, Int.reduceToNat, Nat.reduceAdd, Nat.reduceMul, Nat.reduceEqDiff, wpost0, wpost1, wpost2, wpost3, wpost4, ite_self, ite_true, ite_false, if_true, if_false, xld24, xiad24, xld29, bin_fgtr, bin_flss, fr110, wrap_int, wrap_u8, iteP_yes, iteP_no, hc, hC.iad, hC.ld, lt_cn hL] | refine iteP_two (fun hc hd => ?_) (fun hc hd => ?_) | refine iteP_intro (fun hc => ?_) (fun hc => ?_))
/-- What strong lobes are. -/
def STR (L : List Nat) (m : Nat) (s : List Int) : Prop := s.length = min m (runL ltN L).length ∧ (∀ z ∈ s, ∃ i, i < L.length ∧ z = natI i) ∧ ∀ a ∈ runL ltN L, natI a ∉ s → ∀ z ∈ s, cn L a ≤ cn L z.toNat
theorem rnF_len {c : Nat → Nat} {far : Nat → Nat → Bool} {n : Nat} : ∀ (f i : Nat), (rnF c far n f i).length ≤ f
  | 0, _ => Nat.le_refl _
  | f + 1, i => by
    have := rnF_len (c := c) (far := far) (n := n) f (enR c i (n - (i + 1)) (i + 1))
    unfold rnF
    split
    · split
      · rw [List.length_cons]; omega
      · omega
    · simp
theorem runL_lt {far : Nat → Nat → Bool} {j : Nat} (h : j ∈ runL far L) : j < L.length := rnF_lt h
theorem str_of {m : Nat} {l s : List Int} (hp : l.Perm ((runL ltN L).map natI)) (hs : srtd (fun z => -(cn L z.toNat : Int)) l l.length) (hk : s.Perm (l.take m)) : STR L m s := by
  have hl : l.length = (runL ltN L).length := by rw [hp.length_eq, List.length_map]
  refine ⟨by rw [hk.length_eq, List.length_take, hl], fun z hz => ?_, fun a ha hn z hz => ?_⟩
  · have h1 : z ∈ l := List.mem_of_mem_take (hk.mem_iff.1 hz)
    have h2 := hp.mem_iff.1 h1
    obtain ⟨i, hi, rfl⟩ := List.mem_map.1 h2
    exact ⟨i, runL_lt hi, rfl⟩
  · have hs' := srtd_pair hs
    have := kept_top (key := fun z : Int => cn L z.toNat) (l := (runL ltN L).map natI) (l' := l) (s := s) (m := m) hp (hs'.imp fun {u v} q => by
      have q' : -(cn L u.toNat : Int) ≤ -(cn L v.toNat : Int) := q
      show cn L v.toNat ≤ cn L u.toNat
      omega) hk (List.mem_map.2 ⟨a, ha, rfl⟩) hn hz
    exact this
set_option maxHeartbeats 2000000 in
theorem Strong_c (hX : XN X) (hC : CUT lo hi h x L) (h1 : 1 ≤ L.length) (hro : ro ≤ h.length) (hlo : hi ≤ h.length) {m : Nat} (hm : m ≤ 129) :
    CallR Try.prog ro X 21 [x, .int .i64 m] h (fun r h' => ∃ y s, r = .tuple ⟨[y, .bool true]⟩ ∧ Pfx h h' ∧ VS h.length h'.length 1 h' y s.length (vints s) ∧ STR L m s) := by
  have hL := hC.s
  have hn := hC.n
  have hb : boxV h 24 x = some (.pointer (some ⟨h.length, 0, none⟩), h ++ [⟨24, [x]⟩]) := box_one hC.v.shape.2.1 hC.v.shape.2.2 h _
  have hlen : (runL ltN L).length ≤ 12 := Nat.le_trans (rnF_len _ _) (by omega)
  refine callR_of (hX _ rfl) Try.func21 rfl (by kernel_rfl) (Nat.le_of_ble_eq_true rfl) ?_
  (repeat' first | simp -dsimp (disch := first | omega | assumption | (refine OkS.sto ?_ (by omega); first | assumption | (refine OkS.sto ?_ (by omega); first | assumption | (refine OkS.sto ?_ (by omega); first | assumption | (refine OkS.sto ?_ (by omega); first | assumption | (refine OkS.sto ?_ (by omega); first | assumption | (refine OkS.sto ?_ (by omega); first | assumption)))))) | exact Pfx.refl _ | (apply Pfx.snoc; repeat (first | exact Pfx.refl _ | assumption | apply Pfx.snoc)) | with_unfolding_all exact of_eq_true (eq_true rfl) | (simp only [List.length_append, List.length_cons, List.length_nil]; omega)) only [↓wpre0, ↓wpre1, ↓reduceIte, Int.reduceToNat, Nat.reduceAdd, Nat.reduceMul, Nat.reduceEqDiff, wpost0, wpost1, wpost2, wpost3, wpost4, ite_self, ite_true, ite_false, if_true, if_false, xld24, un_not, xbls32_0, xbls32_1, xlen32, blt_minI, fr21, wrap_int, wrap_u8, iteP_yes, iteP_no, hb] | refine iteP_two (fun hc hd => ?_) (fun hc hd => ?_) | refine iteP_intro (fun hc => ?_) (fun hc => ?_))
  obtain ⟨H0, hH0⟩ : ∃ H0, H0 = h ++ [(⟨24, [x]⟩ : Blk)] := ⟨_, rfl⟩
  have p0 : Pfx h H0 := by rw [hH0]; exact (Pfx.refl h).snoc
  have l0 : H0.length = h.length + 1 := by rw [hH0]; simp
  have D0 : H0[h.length]? = some ⟨24, [x]⟩ := by rw [hH0]; exact get_last rfl
  rw [← hH0]
  refine cf_rel (Lobes_c hX (hC.pre p0) h1 (by omega)) (fun q => by cases q) ?_
  rintro r H1 ⟨y, rfl, p1, hY⟩
  have l1 := p1.len
  have D1 : H1[h.length]? = some ⟨24, [x]⟩ := by rw [p1.get (by omega)]; exact D0
  have hYb := hY.bof
  have hI := hY.vs.is
  have hlI : ((runL ltN L).map natI).length = (runL ltN L).length := by simp
  (repeat' first | simp -dsimp (disch := first | omega | assumption | (refine OkS.sto ?_ (by omega); first | assumption | (refine OkS.sto ?_ (by omega); first | assumption | (refine OkS.sto ?_ (by omega); first | assumption | (refine OkS.sto ?_ (by omega); first | assumption | (refine OkS.sto ?_ (by omega); first | assumption | (refine OkS.sto ?_ (by omega); first | assumption)))))) | exact Pfx.refl _ | (apply Pfx.snoc; repeat (first | exact Pfx.refl _ | assumption | apply Pfx.snoc)) | with_unfolding_all exact of_eq_true (eq_true rfl) | (simp only [List.length_append, List.length_cons, List.length_nil]; omega)) only [↓wpre0, ↓wpre1, ↓reduceIte, Int.reduceToNat, Nat.reduceAdd, Nat.reduceMul, Nat.reduceEqDiff, wpost0, wpost1, wpost2, wpost3, wpost4, ite_self, ite_true, ite_false, if_true, if_false, xld24, un_not, xbls32_0, xbls32_1, xlen32, blt_minI, fr21, wrap_int, wrap_u8, iteP_yes, iteP_no, withinC_r hX] | refine iteP_two (fun hc hd => ?_) (fun hc hd => ?_) | refine iteP_intro (fun hc => ?_) (fun hc => ?_))
  refine cf_rel (Stable_c hX (fun z => -(cn L z.toNat : Int)) 110 [.pointer (some ⟨h.length, 0, none⟩)] hI (by omega) (by omega) ?_) (fun q => by cases q) ?_
  · intro H a b hr ha hb'
    obtain ⟨i, hi1, rfl⟩ := List.mem_map.1 ha
    obtain ⟨j, hj1, rfl⟩ := List.mem_map.1 hb'
    have hCH : CUT lo hi H x L := ⟨(hC.pre (p0.trans p1)).v.rng hr (.inl (by omega)), hL, hn⟩
    obtain ⟨c, c1, c2⟩ := strf_r (ro := ro) hX hCH (b := h.length) (by rw [hr.2 _ (.inl (by omega))]; exact D1) (runL_lt hi1) (runL_lt hj1)
    refine ⟨c, ?_, c2⟩
    rw [c1]
    show _ ↔ -(cn L (natI i).toNat : Int) < -(cn L (natI j).toNat : Int)
    simp only [natI, Int.toNat_natCast]
    omega
  · rintro r H2 ⟨l', q1, q2, q3, q4, q5⟩
    have l2 := q4.1
    have hll : l'.length = (runL ltN L).length := by rw [q2.length_eq, hlI]
    have g2 := vg_new (lo := h.length) (t := 2) (k := 1) H2 (by omega)
    have pN : Pfx H2 (H2 ++ [(⟨2, []⟩ : Blk)]) := (Pfx.refl H2).snoc
    have lN : (H2 ++ [(⟨2, []⟩ : Blk)]).length = H2.length + 1 := by simp
    have vN := q1.vs.pre pN
    have tyN : ro ≤ bOf y → ((H2 ++ [(⟨2, []⟩ : Blk)])[bOf y]?).map Blk.ty = some 2 := fun _ => by
      rw [pN.get (by omega), q5]
      obtain ⟨_, b, cap, rfl, _, hg, _⟩ := hY
      show (H1[b]?).map Blk.ty = _
      rw [hg]; rfl
    obtain ⟨z, hz, hzv⟩ := vs_cut (ro := ro) (kk := .i64) (q := min m (runL ltN L).length) (P := Try.prog) Try.underlying32 tsz2 vN tyN (by omega)
    have hmin : min (m : Int) ((runL ltN L).length : Int) = ((min m (runL ltN L).length : Nat) : Int) := by omega
    have hzl : (l'.take (min m (runL ltN L).length)).length = min m (runL ltN L).length := by rw [List.length_take]; omega
    have hzv' : VS (bOf y) (bOf y + 1) 1 (H2 ++ [(⟨2, []⟩ : Blk)]) z (min m (runL ltN L).length) (vints (l'.take (min m (runL ltN L).length))) := by
      have : (vints l').take (min m (runL ltN L).length) = vints (l'.take (min m (runL ltN L).length)) := by simp [vints, List.map_take]
      rw [← this]; exact hzv
    obtain ⟨w, H3, ap, vn, old, hwb, _⟩ := accS (P := Try.prog) (ro := ro) (T := 32) (u := 32) (lo := h.length) (h := H2 ++ [(⟨2, []⟩ : Blk)]) tel32 tsz2 tby2 tze2 (by decide) (.inl rfl) (.inl g2) (by omega) (by omega) hzv'.news.1 hzv'.news.2 (by rw [vints_len, hzl]; omega) (vints_one _) (by omega) (by omega)
    rw [List.nil_append, Nat.zero_add] at vn
    have vI := vn.vs.is
    have l3 := old.2.2
    (repeat' first | simp -dsimp (disch := first | omega | assumption | (refine OkS.sto ?_ (by omega); first | assumption | (refine OkS.sto ?_ (by omega); first | assumption | (refine OkS.sto ?_ (by omega); first | assumption | (refine OkS.sto ?_ (by omega); first | assumption | (refine OkS.sto ?_ (by omega); first | assumption | (refine OkS.sto ?_ (by omega); first | assumption)))))) | exact Pfx.refl _ | (apply Pfx.snoc; repeat (first | exact Pfx.refl _ | assumption | apply Pfx.snoc)) | with_unfolding_all exact of_eq_true (eq_true rfl) | (simp only [List.length_append, List.length_cons, List.length_nil]; omega)) only [↓wpre0, ↓wpre1, ↓reduceIte, Int.reduceToNat, Nat.reduceAdd, Nat.reduceMul, Nat.reduceEqDiff, wpost0, wpost1, wpost2, wpost3, wpost4, ite_self, ite_true, ite_false, if_true, if_false, xld24, un_not, xbls32_0, xbls32_1, xlen32, blt_minI, fr21, wrap_int, wrap_u8, iteP_yes, iteP_no, IS.len q1 Try.underlying32, hmin, hz, ap] | refine iteP_two (fun hc hd => ?_) (fun hc hd => ?_) | refine iteP_intro (fun hc => ?_) (fun hc => ?_))
    refine cf_rel (Sort_c hX vI (by omega) (by omega)) (fun q => by cases q) ?_
    rintro r H4 ⟨s, r1, r2, r3, r4, r5⟩
    have hwf : Sim.flat (.tuple ⟨[w, .bool true]⟩) = false := by rcases vn with ⟨_, b, cap, rfl, _⟩ | ⟨_, _, rfl⟩ <;> rfl
    have hsl : s.length = min m (runL ltN L).length := by rw [r2.length_eq, hzl]
    (repeat' first | simp -dsimp (disch := first | omega | assumption | (refine OkS.sto ?_ (by omega); first | assumption | (refine OkS.sto ?_ (by omega); first | assumption | (refine OkS.sto ?_ (by omega); first | assumption | (refine OkS.sto ?_ (by omega); first | assumption | (refine OkS.sto ?_ (by omega); first | assumption | (refine OkS.sto ?_ (by omega); first | assumption)))))) | exact Pfx.refl _ | (apply Pfx.snoc; repeat (first | exact Pfx.refl _ | assumption | apply Pfx.snoc)) | with_unfolding_all exact of_eq_true (eq_true rfl) | (simp only [List.length_append, List.length_cons, List.length_nil]; omega)) only [↓wpre0, ↓wpre1, ↓reduceIte, Int.reduceToNat, Nat.reduceAdd, Nat.reduceMul, Nat.reduceEqDiff, wpost0, wpost1, wpost2, wpost3, wpost4, ite_self, ite_true, ite_false, if_true, if_false, xld24, un_not, xbls32_0, xbls32_1, xlen32, blt_minI, fr21, wrap_int, wrap_u8, iteP_yes, iteP_no, endH_not hwf] | refine iteP_two (fun hc hd => ?_) (fun hc hd => ?_) | refine iteP_intro (fun hc => ?_) (fun hc => ?_))
    refine ⟨w, s, rfl, ?_, ?_, ?_⟩
    · exact Pfx.rng (old.1 h ((Pfx.rng (p0.trans p1) q4 (by omega)).trans pN) (Nat.le_refl _)) r4 (Nat.le_refl _)
    · rw [hsl, r4.1]
      exact r1.vs
    · refine str_of (l := l') q2 (by rw [hll]; exact q3) ?_
      have : l'.take m = l'.take (min m (runL ltN L).length) := by
        rw [← hll]
        rcases Nat.le_total m l'.length with q | q
        · rw [Nat.min_eq_left q]
        · rw [Nat.min_eq_right q, List.take_of_length_le q, List.take_of_length_le (Nat.le_refl _)]
      rw [this]; exact r2
theorem fV_int (v : Nat) : Value.float .f32 (cf .f32 (FloatKind.f32.nearest (v : Int))) = fV v := rfl
set_option maxHeartbeats 2000000 in
theorem Cut_c (hX : XN X) {cd : List UInt8} (hV : VS lo hi 1 h x cd.length (cd.map u8v)) (hhi : hi ≤ h.length) (hl : cd.length ≤ 1099511627776) (hro : ro ≤ h.length) :
    CallR Try.prog ro X 16 [x] h (fun r h' => ∃ L : List Nat, 1 ≤ L.length ∧ Pfx h h' ∧ CUT h.length h'.length h' r L) := by
  refine callR_of (hX _ rfl) Try.func16 rfl (by kernel_rfl) (Nat.le_of_ble_eq_true rfl) ?_
  (repeat' first | simp -dsimp (disch := first | omega | assumption | (refine OkS.sto ?_ (by omega); first | assumption | (refine OkS.sto ?_ (by omega); first | assumption | (refine OkS.sto ?_ (by omega); first | assumption | (refine OkS.sto ?_ (by omega); first | assumption | (refine OkS.sto ?_ (by omega); first | assumption | (refine OkS.sto ?_ (by omega); first | assumption)))))) | exact Pfx.refl _ | (apply Pfx.snoc; repeat (first | exact Pfx.refl _ | assumption | apply Pfx.snoc)) | with_unfolding_all exact of_eq_true (eq_true rfl) | (simp only [List.length_append, List.length_cons, List.length_nil]; omega)) only [↓wpre0, ↓wpre1, ↓reduceIte, Int.reduceToNat, Nat.reduceAdd, Nat.reduceMul, Nat.reduceEqDiff, wpost0, wpost1, wpost2, wpost3, wpost4, ite_self, ite_true, ite_false, if_true, if_false, xbls24_0, xbls24_1, bin_add, bin_gtr, xcv2_29, bin_sub, fr16, wrap_int, wrap_u8, iteP_yes, iteP_no] | refine iteP_two (fun hc hd => ?_) (fun hc hd => ?_) | refine iteP_intro (fun hc => ?_) (fun hc => ?_))
  refine cf_rel (From_c (hX _ rfl) hV hro) (fun q => by cases q) ?_
  rintro r H1 ⟨rfl, p1, l1, S1⟩
  (repeat' first | simp -dsimp (disch := first | omega | assumption | (refine OkS.sto ?_ (by omega); first | assumption | (refine OkS.sto ?_ (by omega); first | assumption | (refine OkS.sto ?_ (by omega); first | assumption | (refine OkS.sto ?_ (by omega); first | assumption | (refine OkS.sto ?_ (by omega); first | assumption | (refine OkS.sto ?_ (by omega); first | assumption)))))) | exact Pfx.refl _ | (apply Pfx.snoc; repeat (first | exact Pfx.refl _ | assumption | apply Pfx.snoc)) | with_unfolding_all exact of_eq_true (eq_true rfl) | (simp only [List.length_append, List.length_cons, List.length_nil]; omega)) only [↓wpre0, ↓wpre1, ↓reduceIte, Int.reduceToNat, Nat.reduceAdd, Nat.reduceMul, Nat.reduceEqDiff, wpost0, wpost1, wpost2, wpost3, wpost4, ite_self, ite_true, ite_false, if_true, if_false, xbls24_0, xbls24_1, bin_add, bin_gtr, xcv2_29, bin_sub, fr16, wrap_int, wrap_u8, iteP_yes, iteP_no] | refine iteP_two (fun hc hd => ?_) (fun hc hd => ?_) | refine iteP_intro (fun hc => ?_) (fun hc => ?_))
  have p2 : Pfx H1 (H1 ++ [(⟨29, []⟩ : Blk)]) := (Pfx.refl H1).snoc
  refine cf_rel (pick_c (hX _ rfl) (hX _ rfl) (n := 12) (S1.pre p2) (by omega) (by omega) (by omega) hl (by omega)) (fun q => by cases q) ?_
  rintro r H2 ⟨v, rfl, _, hv, S2, o2⟩
  have hv12 := hv (by omega)
  have l2 := o2.1
  rw [List.length_append, List.length_singleton] at l2
  have V2 : VG H1.length 29 1 H2 (.slice (some ⟨H1.length, 0, none⟩) 0 0) 0 [] := (vg_new H1 (Nat.le_refl _)).frame (o2.2 _ (by show H1.length ≠ h.length; omega))
  have d2 : Pfx h H2 := by
    have pp := p1.trans p2
    show H2.take h.length = h
    refine List.ext_getElem? fun j => ?_
    rw [List.getElem?_take]
    by_cases q : j < h.length
    · rw [if_pos q, o2.2 j (by omega)]; exact pp.get q
    · rw [if_neg q, List.getElem?_eq_none (by omega)]
  have hw1 : (1 : Int) + (v : Int) = ((v + 1 : Nat) : Int) := by omega
  (repeat' first | simp -dsimp (disch := first | omega | assumption | (refine OkS.sto ?_ (by omega); first | assumption | (refine OkS.sto ?_ (by omega); first | assumption | (refine OkS.sto ?_ (by omega); first | assumption | (refine OkS.sto ?_ (by omega); first | assumption | (refine OkS.sto ?_ (by omega); first | assumption | (refine OkS.sto ?_ (by omega); first | assumption)))))) | exact Pfx.refl _ | (apply Pfx.snoc; repeat (first | exact Pfx.refl _ | assumption | apply Pfx.snoc)) | with_unfolding_all exact of_eq_true (eq_true rfl) | (simp only [List.length_append, List.length_cons, List.length_nil]; omega)) only [↓wpre0, ↓wpre1, ↓reduceIte, Int.reduceToNat, Nat.reduceAdd, Nat.reduceMul, Nat.reduceEqDiff, wpost0, wpost1, wpost2, wpost3, wpost4, ite_self, ite_true, ite_false, if_true, if_false, xbls24_0, xbls24_1, bin_add, bin_gtr, xcv2_29, bin_sub, fr16, wrap_int, wrap_u8, iteP_yes, iteP_no, hw1] | refine iteP_two (fun hc hd => ?_) (fun hc hd => ?_) | refine iteP_intro (fun hc => ?_) (fun hc => ?_))
  refine loop_rounds (fun m e h' => ∃ (i : Nat) (y : Value) (L : List Nat), m = v + 1 - i ∧ i ≤ v + 1 ∧ L.length = i ∧ (∀ a ∈ L, a ≤ 7) ∧ e 3 = .pointer (some ⟨h.length, 0, none⟩) ∧ e 4 = y ∧ e 5 = .int .i64 ((v + 1 - i : Nat) : Int) ∧ VG H1.length 29 1 h' y i (L.map fV) ∧ SRC lo hi h.length (2 + i * 2) x cd h' ∧ Pfx h h' ∧ h.length < h'.length) _ ⟨0, .slice (some ⟨H1.length, 0, none⟩) 0 0, [], rfl, ?_⟩ ?_
  · simp only [updO_at, updO_not, entry_at, List.getD_cons_zero, List.getD_cons_succ, ↓reduceIte, Nat.reduceEqDiff, true_and, and_true]
    have := S2.more (A' := 2 + 0 * 2) (by omega)
    (repeat' (first | assumption | rfl | omega | (intro a ha; cases ha) | refine And.intro ?_ ?_))
  · rintro m e h' ⟨i, y, L, hm, hle, hL, htx, g3, g4, g5, hY, hSi, hd, hlh⟩
    have hb := hY.bof
    by_cases hin : i < v + 1
    · (repeat' first | simp -dsimp (disch := first | omega | assumption | (refine OkS.sto ?_ (by omega); first | assumption | (refine OkS.sto ?_ (by omega); first | assumption | (refine OkS.sto ?_ (by omega); first | assumption | (refine OkS.sto ?_ (by omega); first | assumption | (refine OkS.sto ?_ (by omega); first | assumption | (refine OkS.sto ?_ (by omega); first | assumption)))))) | exact Pfx.refl _ | (apply Pfx.snoc; repeat (first | exact Pfx.refl _ | assumption | apply Pfx.snoc)) | with_unfolding_all exact of_eq_true (eq_true rfl) | (simp only [List.length_append, List.length_cons, List.length_nil]; omega)) only [↓wpre0, ↓wpre1, ↓reduceIte, Int.reduceToNat, Nat.reduceAdd, Nat.reduceMul, Nat.reduceEqDiff, wpost0, wpost1, wpost2, wpost3, wpost4, ite_self, ite_true, ite_false, if_true, if_false, xbls24_0, xbls24_1, bin_add, bin_gtr, xcv2_29, bin_sub, fr16, wrap_int, wrap_u8, iteP_yes, iteP_no, g3, g4, g5] | refine iteP_two (fun hc hd => ?_) (fun hc hd => ?_) | refine iteP_intro (fun hc => ?_) (fun hc => ?_))
      refine cf_rel (pick_c (hX _ rfl) (hX _ rfl) (n := 8) hSi (by omega) (by omega) (by omega) hl (by omega)) (fun q => by cases q) ?_
      rintro r H4 ⟨a, rfl, _, ha, S4, o4⟩
      have ha8 := ha (by omega)
      have l4 := o4.1
      have hY4 : VG H1.length 29 1 H4 y i (L.map fV) := hY.frame (o4.2 _ (by omega))
      obtain ⟨H, ap, vg, old, hlen⟩ := acc1 (P := Try.prog) (ro := ro) (T := 24) (h := H4) (v := fV a) tel24 tsz29 tby29 tze29 (.inl hY4) (by omega) (by omega) rfl (by omega) (by omega)
      have vg' : VG H1.length 29 1 H (.slice (some ⟨H4.length + 1, 0, none⟩) (i + 1) (i + 1 + 1)) (i + 1) ((L ++ [a]).map fV) := by rw [List.map_append]; exact vg
      have d4 : Pfx h H4 := by
        show H4.take h.length = h
        refine List.ext_getElem? fun j => ?_
        rw [List.getElem?_take]
        by_cases q : j < h.length
        · rw [if_pos q, o4.2 j (by omega)]; exact hd.get q
        · rw [if_neg q, List.getElem?_eq_none (by omega)]
      have dH := old.1 h d4 (by omega)
      have sv : SRC lo hi h.length (2 + (i + 1) * 2) x cd H := (S4.frame (old.2.1 _ (by omega) (.inr (by omega))) fun j h1 h2 => old.2.1 j (by omega) (.inr (by omega))).more (by omega)
      simp only [fV] at ap
      (repeat' first | simp -dsimp (disch := first | omega | assumption | (refine OkS.sto ?_ (by omega); first | assumption | (refine OkS.sto ?_ (by omega); first | assumption | (refine OkS.sto ?_ (by omega); first | assumption | (refine OkS.sto ?_ (by omega); first | assumption | (refine OkS.sto ?_ (by omega); first | assumption | (refine OkS.sto ?_ (by omega); first | assumption)))))) | exact Pfx.refl _ | (apply Pfx.snoc; repeat (first | exact Pfx.refl _ | assumption | apply Pfx.snoc)) | with_unfolding_all exact of_eq_true (eq_true rfl) | (simp only [List.length_append, List.length_cons, List.length_nil]; omega)) only [↓wpre0, ↓wpre1, ↓reduceIte, Int.reduceToNat, Nat.reduceAdd, Nat.reduceMul, Nat.reduceEqDiff, wpost0, wpost1, wpost2, wpost3, wpost4, ite_self, ite_true, ite_false, if_true, if_false, xbls24_0, xbls24_1, bin_add, bin_gtr, xcv2_29, bin_sub, fr16, wrap_int, wrap_u8, iteP_yes, iteP_no, g3, g4, g5, fS, ap] | refine iteP_two (fun hc hd => ?_) (fun hc hd => ?_) | refine iteP_intro (fun hc => ?_) (fun hc => ?_))
      simp only [fS] at ap
      (repeat' first | simp -dsimp (disch := first | omega | assumption | (refine OkS.sto ?_ (by omega); first | assumption | (refine OkS.sto ?_ (by omega); first | assumption | (refine OkS.sto ?_ (by omega); first | assumption | (refine OkS.sto ?_ (by omega); first | assumption | (refine OkS.sto ?_ (by omega); first | assumption | (refine OkS.sto ?_ (by omega); first | assumption)))))) | exact Pfx.refl _ | (apply Pfx.snoc; repeat (first | exact Pfx.refl _ | assumption | apply Pfx.snoc)) | with_unfolding_all exact of_eq_true (eq_true rfl) | (simp only [List.length_append, List.length_cons, List.length_nil]; omega)) only [↓wpre0, ↓wpre1, ↓reduceIte, Int.reduceToNat, Nat.reduceAdd, Nat.reduceMul, Nat.reduceEqDiff, wpost0, wpost1, wpost2, wpost3, wpost4, ite_self, ite_true, ite_false, if_true, if_false, xbls24_0, xbls24_1, bin_add, bin_gtr, xcv2_29, bin_sub, fr16, wrap_int, wrap_u8, iteP_yes, iteP_no, g3, g4, g5, ap] | refine iteP_two (fun hc hd => ?_) (fun hc hd => ?_) | refine iteP_intro (fun hc => ?_) (fun hc => ?_))
      refine ⟨v + 1 - (i + 1), by omega, i + 1, _, L ++ [a], rfl, by omega, by simp [hL], fun t ht => ?_, rfl, by rw [show ((v + 1 - i : Nat) : Int) - 1 = ((v + 1 - (i + 1) : Nat) : Int) by omega], vg', sv, dH, by omega⟩
      rcases List.mem_append.1 ht with q | q
      · exact htx t q
      · rw [List.mem_singleton] at q
        omega
    · have ei : i = v + 1 := by omega
      subst ei
      have hnf : Sim.flat y = false := by obtain ⟨_, b, cap, rfl, _⟩ := hY; rfl
      (repeat' first | simp -dsimp (disch := first | omega | assumption | (refine OkS.sto ?_ (by omega); first | assumption | (refine OkS.sto ?_ (by omega); first | assumption | (refine OkS.sto ?_ (by omega); first | assumption | (refine OkS.sto ?_ (by omega); first | assumption | (refine OkS.sto ?_ (by omega); first | assumption | (refine OkS.sto ?_ (by omega); first | assumption)))))) | exact Pfx.refl _ | (apply Pfx.snoc; repeat (first | exact Pfx.refl _ | assumption | apply Pfx.snoc)) | with_unfolding_all exact of_eq_true (eq_true rfl) | (simp only [List.length_append, List.length_cons, List.length_nil]; omega)) only [↓wpre0, ↓wpre1, ↓reduceIte, Int.reduceToNat, Nat.reduceAdd, Nat.reduceMul, Nat.reduceEqDiff, wpost0, wpost1, wpost2, wpost3, wpost4, ite_self, ite_true, ite_false, if_true, if_false, xbls24_0, xbls24_1, bin_add, bin_gtr, xcv2_29, bin_sub, fr16, wrap_int, wrap_u8, iteP_yes, iteP_no, g3, g4, g5, endH_not hnf] | refine iteP_two (fun hc hd => ?_) (fun hc hd => ?_) | refine iteP_intro (fun hc => ?_) (fun hc => ?_))
      refine ⟨L, by omega, hd, ?_, cl_of htx, by omega⟩
      rw [hL]
      exact hY.vsl.wide (by omega) (Nat.le_refl _)
end Go.Proofs.Ytelogajobjflfaa.Sim
