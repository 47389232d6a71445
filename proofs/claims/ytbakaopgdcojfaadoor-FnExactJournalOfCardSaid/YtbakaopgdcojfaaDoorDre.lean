/- The reference's way to a journal. Lemmas only; no condition. -/
import Derived.Test.YtbakaopgdcojfaaDoorDrd
set_option linter.unusedSimpArgs false
set_option linter.unusedVariables false
set_option maxRecDepth 8000
namespace Go.Proofs.YtbakaopgdcojfaaDoor.Sim
open Go Go.RowKit
variable {ro : Nat} {X : Ext}
theorem vg_shi {P : Program} {T e lo n q : Nat} {kk : IntKind} {h : Heap} {x : Value} {L : List Value} (hu : P.underlying T = some (.slice e)) (hs : szT P e = some 1) (g : VG lo e 1 h x n L) (hq : q ≤ n) : ∃ y, slc P ro h T x none (some (.int kk q)) none = some y ∧ VS lo h.length 1 h y q (L.take q) ∧ ∃ b o c, y = .slice (some ⟨b, o, none⟩) q c := by
  obtain ⟨hl, b, cap, rfl, hb, hg, hc⟩ := g
  refine ⟨.slice (some ⟨b, 0, none⟩) q (if q = n ∧ cap = n then q else q + 1), ?_, ⟨by rw [List.length_take]; omega, .inr ⟨b, 0, _, _, rfl, hb, lt_of_some hg, hg, by simp only; omega, fun j hj => ?_⟩⟩, _, _, _, rfl⟩
  · have e : ((q : Int) = (n : Int)) = (q = n) := propext ⟨fun h => by omega, fun h => by omega⟩
    simp only [slc, hu, bnd, hs, Option.bind_some, hg, Option.map_some]
    rw [if_pos ⟨Int.le_refl _, by omega, by omega, Int.le_refl _, fun _ => by simp, fun q => by simp at q⟩]
    simp [e]
  · rw [Nat.zero_add]
    have : j < q := by omega
    have hjl : j < L.length := by omega
    show L[j]? = _
    rw [vth_get hjl]
    simp [vth, List.getD_eq_getElem?_getD, List.getElem?_take, this]
theorem lns_le : ∀ (n : Nat) (t : List UInt8), (lns n t).length ≤ t.length
  | 0, t => by simp [lns]
  | n + 1, t => by
    simp only [lns]
    split
    · simp
    · have := lns_le n (t.drop ((Lib.indexByte t 10).toNat + 1))
      have hi := idx_lt t 10
      rw [List.length_drop] at this
      rw [List.length_cons]
      omega
theorem lns_mem : ∀ (n : Nat) (t : List UInt8), ∀ s ∈ lns n t, s.length ≤ t.length
  | 0, t => by simp [lns]
  | n + 1, t => by
    simp only [lns]
    split
    · simp
    · intro s hs
      rcases List.mem_cons.1 hs with rfl | hs
      · rw [List.length_take]; omega
      · have := lns_mem n _ s hs
        rw [List.length_drop] at this
        omega
theorem recS_le : ∀ (n : Int) (ls : List (List UInt8)), (recS n ls).1.length ≤ ls.length
  | n, [] => by simp [recS]
  | n, s :: r => by
    simp only [recS]
    split
    · have := recS_le (chk n (rst s 32)) r
      simp only [List.length_cons]
      omega
    · simp
theorem Jst.bound {ls A rest : List (List UInt8)} {m : Nat} {n : Int} (h : A.length + rest.length ≤ ls.length) (hm : m ≤ 1099511627776) : A.length ≤ ls.length := by omega
theorem l11Lines_c (hx : XD X) {t : List UInt8} {h : Heap} (hl : t.length ≤ 1048576) (hro : ro ≤ h.length) :
    CallR Tryd.prog ro X 21 [.string ⟨⟨t⟩⟩] h (fun r h' => Pfx h h' ∧ ∃ y z, r = .tuple ⟨[y, .string ⟨⟨z⟩⟩]⟩ ∧ VS h.length h'.length 1 h' y (lns (t.length + 1) t).length ((lns (t.length + 1) t).map strv)) := by
  have hX := hx.n
  have hle := lns_le (t.length + 1) t
  refine callR_of (hX _ rfl) Tryd.func21 rfl (by kernel_rfl) (Nat.le_of_ble_eq_true rfl) ?_
  (repeat' first | simp -dsimp (disch := first | omega | assumption | (refine OkS.sto ?_ (by omega); first | assumption | (refine OkS.sto ?_ (by omega); first | assumption | (refine OkS.sto ?_ (by omega); first | assumption | (refine OkS.sto ?_ (by omega); first | assumption | (refine OkS.sto ?_ (by omega); first | assumption | (refine OkS.sto ?_ (by omega); first | assumption)))))) | exact Pfx.refl _ | (apply Pfx.snoc; repeat (first | exact Pfx.refl _ | assumption | apply Pfx.snoc)) | with_unfolding_all exact of_eq_true (eq_true rfl) | (simp only [List.length_append, List.length_cons, List.length_nil]; omega)) only [↓wpre0, ↓wpre1, ↓reduceIte, Int.reduceToNat, Nat.reduceAdd, Nat.reduceMul, Nat.reduceEqDiff, wpost0, wpost1, wpost2, wpost3, wpost4, ite_self, ite_true, ite_false, if_true, if_false, xlen22, bin_sub, xiad22, xld9, fr21, wrap_int, wrap_u8, iteP_yes, iteP_no] | refine iteP_two (fun hc hd => ?_) (fun hc hd => ?_) | refine iteP_intro (fun hc => ?_) (fun hc => ?_))
  refine cf_rel (l01Cut_c hx hl hro) (fun q => by cases q) ?_
  rintro r h1 ⟨p1, z, hV⟩
  have L1 := p1.len
  obtain ⟨y, sl, vs, yb, yo, yc, rfl⟩ := vg_shi (P := Tryd.prog) (ro := ro) (T := 22) (kk := .i64) (q := (lns (t.length + 1) t).length) Tryd.underlying22 tsz9 hV (by omega)
  have ldz := ss_ld hV.vs tsz9 tag9 (c := (lns (t.length + 1) t).length) (by omega)
  have e1 : (((lns (t.length + 1) t).length + 1 : Nat) : Int) - 1 = ((lns (t.length + 1) t).length : Nat) := by omega
  have hnf : ∀ z, Sim.flat (.tuple ⟨[.slice (some ⟨yb, yo, none⟩) (lns (t.length + 1) t).length yc, .string z]⟩) = false := fun z => rfl
  (repeat' first | simp -dsimp (disch := first | omega | assumption | (refine OkS.sto ?_ (by omega); first | assumption | (refine OkS.sto ?_ (by omega); first | assumption | (refine OkS.sto ?_ (by omega); first | assumption | (refine OkS.sto ?_ (by omega); first | assumption | (refine OkS.sto ?_ (by omega); first | assumption | (refine OkS.sto ?_ (by omega); first | assumption)))))) | exact Pfx.refl _ | (apply Pfx.snoc; repeat (first | exact Pfx.refl _ | assumption | apply Pfx.snoc)) | with_unfolding_all exact of_eq_true (eq_true rfl) | (simp only [List.length_append, List.length_cons, List.length_nil]; omega)) only [↓wpre0, ↓wpre1, ↓reduceIte, Int.reduceToNat, Nat.reduceAdd, Nat.reduceMul, Nat.reduceEqDiff, wpost0, wpost1, wpost2, wpost3, wpost4, ite_self, ite_true, ite_false, if_true, if_false, xlen22, bin_sub, xiad22, xld9, fr21, wrap_int, wrap_u8, iteP_yes, iteP_no, endH_not (hnf _), hV.vs.len Tryd.underlying22, e1, sl, hV.vs.iad Tryd.underlying22 tsz9, ldz, Int.toNat_natCast, Nat.mul_one] | refine iteP_two (fun hc hd => ?_) (fun hc hd => ?_) | refine iteP_intro (fun hc => ?_) (fun hc => ?_))
  rw [List.map_append, List.take_left' (by simp)] at vs
  exact ⟨p1, _, _, rfl, vs⟩
end Go.Proofs.YtbakaopgdcojfaaDoor.Sim
