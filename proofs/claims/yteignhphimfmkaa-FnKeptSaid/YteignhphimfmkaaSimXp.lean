/- Drawing regions all of whose orders come to the same, but for the names of new blocks. Lemmas only; no condition. -/
import Derived.Test.YteignhphimfmkaaSimK
import Derived.Test.YteignhphimfmkaaSimM
import Derived.Test.YteignhphimfmkaaJob
import Derived.Test.YteignhphimfmkaaSimP
set_option linter.unusedSimpArgs false
set_option linter.unusedVariables false
namespace Go.Proofs.Yteignhphimfmkaa.Sim
open Go Go.RowKit

variable {P : Program} {ro : Nat} {B : Base}
/-- All orders in which a region may list its operations. -/
def exts (ops : Array Oper) : Nat → Array Bool → List (List Nat)
  | 0, _ => [[]]
  | f + 1, listed => if Region.ready .any ops listed = [] then [[]] else (Region.ready .any ops listed).flatMap fun i => (exts ops f (listed.setIfInBounds i true)).map (i :: ·)
theorem exts_some (ops : Array Oper) : ∀ (f : Nat) (listed : Array Bool), ∃ σ, σ ∈ exts ops f listed
  | 0, _ => ⟨[], by simp [exts]⟩
  | f + 1, listed => by
    unfold exts
    split
    · exact ⟨[], by simp⟩
    · rename_i hne
      obtain ⟨i, hi⟩ := List.exists_mem_of_ne_nil _ hne
      obtain ⟨σ, hσ⟩ := exts_some ops f (listed.setIfInBounds i true)
      exact ⟨i :: σ, List.mem_flatMap.2 ⟨i, hi, List.mem_map.2 ⟨σ, hσ, rfl⟩⟩⟩
/-- Whether nothing is left when the rounds are over. -/
def extsEnd (ops : Array Oper) : Nat → Array Bool → Bool
  | 0, listed => (Region.ready .any ops listed).isEmpty
  | f + 1, listed => (Region.ready .any ops listed).all fun i => extsEnd ops f (listed.setIfInBounds i true)
/-- Operations by their numbers. -/
def opsAt (ops : Array Oper) (σ : List Nat) : List Oper := σ.filterMap fun i => ops[i]?
theorem perm_any {C : Fns} (hC : Snd P ro B C) {N : Nat} {ops : Array Oper} (hok : ∀ o ∈ ops.toList, opOk o.op = true ∧ dstOk N o = true) {K : Env → Heap → Prop} {ρ0 : List Loc} {w0 : World} {Q : Exit → Act → World → Prop}
    (hq : ∀ e' h' a' w' ρ', K e' h' → Pre ρ0 ρ' → SR P ro B ρ' h' w' → AR P ro ρ' N e' a' → Below B.n w0 w' → Q .normal a' w') :
    ∀ (f : Nat) (listed : Array Bool) (e : Env) (h : Heap) (ρ : List Loc) (w : World) (a : Act), extsEnd ops f listed = true →
      (∀ σ ∈ exts ops f listed, ∃ e' h', aops P ro C ops (opsAt ops σ) e h = some (e', h') ∧ K e' h') → Pre ρ0 ρ → SR P ro B ρ h w → B.n ≤ w.heap.size → AR P ro ρ N e a → Below B.n w0 w → wpAny P .any ops Q f listed a w := by
  intro f
  induction f with
  | zero =>
    intro listed e h ρ w a hend hall hp hs hB hA hb
    refine ⟨List.isEmpty_iff.1 hend, ?_⟩
    obtain ⟨e', h', h1, h2⟩ := hall [] (by simp [exts])
    simp only [opsAt, List.filterMap_nil, aops, Option.some.injEq, Prod.mk.injEq] at h1
    obtain ⟨rfl, rfl⟩ := h1
    exact hq _ _ a w ρ h2 hp hs hA hb
  | succ f ih =>
    intro listed e h ρ w a hend hall hp hs hB hA hb
    refine ⟨fun hnil => ?_, fun i hi => ?_⟩
    · obtain ⟨e', h', h1, h2⟩ := hall [] (by unfold exts; rw [if_pos hnil]; simp)
      simp only [opsAt, List.filterMap_nil, aops, Option.some.injEq, Prod.mk.injEq] at h1
      obtain ⟨rfl, rfl⟩ := h1
      exact hq _ _ a w ρ h2 hp hs hA hb
    · have hne : Region.ready .any ops listed ≠ [] := fun q => by rw [q] at hi; cases hi
      have hend' : extsEnd ops f (listed.setIfInBounds i true) = true := by
        simp only [extsEnd, List.all_eq_true] at hend
        exact hend i hi
      have hsub : ∀ σ ∈ exts ops f (listed.setIfInBounds i true), ∃ e' h', aops P ro C ops (opsAt ops (i :: σ)) e h = some (e', h') ∧ K e' h' := fun σ hσ => hall (i :: σ) (by
        unfold exts; rw [if_neg hne]
        exact List.mem_flatMap.2 ⟨i, hi, List.mem_map.2 ⟨σ, hσ, rfl⟩⟩)
      have hilt : i < ops.size := by
        unfold Region.ready at hi
        simp only [List.mem_filter, List.mem_range] at hi
        exact hi.1
      have ho : ops[i]? = some ops[i] := Array.getElem?_eq_getElem hilt
      generalize ops[i] = o at ho
      have hat : ∀ σ, opsAt ops (i :: σ) = o :: opsAt ops σ := fun σ => by simp [opsAt, ho]
      have hok' := hok o (by rw [← Array.getElem?_toList] at ho; exact List.mem_of_getElem? ho)
      unfold wpOp
      rw [ho]
      simp only
      rw [hA.wants]
      obtain ⟨σ0, hσ0⟩ := exts_some ops f (listed.setIfInBounds i true)
      by_cases hw : wants ops e o = true
      · rw [if_pos hw]
        obtain ⟨e1, h1, r1, _⟩ := hsub σ0 hσ0
        rw [hat] at r1
        simp only [aops] at r1
        rw [if_pos hw] at r1
        simp only [Option.bind_eq_some_iff] at r1
        obtain ⟨⟨v, h2⟩, hop, _⟩ := r1
        refine .inl (aop_snd hC hs hB hA.er hok'.1 hop fun v' w' ρ' q1 q2 q3 q4 => ?_)
        refine ih _ (updO e o.dst v) h2 ρ' w' _ hend' (fun σ hσ => ?_) (hp.trans q1) q2 (Nat.le_trans hB q4.size) ((hA.mono q1).put (dstOk_lt hok'.2) q3) (hb.trans q4)
        obtain ⟨e', h', r2, r3⟩ := hsub σ hσ
        rw [hat] at r2
        simp only [aops] at r2
        rw [if_pos hw, hop] at r2
        exact ⟨e', h', r2, r3⟩
      · rw [if_neg hw]
        refine ih _ (updO e o.dst undef) h ρ w _ hend' (fun σ hσ => ?_) hp hs hB (hA.put (dstOk_lt hok'.2) VR_undef) hb
        obtain ⟨e', h', r2, r3⟩ := hsub σ hσ
        rw [hat] at r2
        simp only [aops] at r2
        rw [if_neg hw] at r2
        exact ⟨e', h', r2, r3⟩
/-! ### Other names for new blocks -/
mutual
inductive Ren (β : Nat → Nat) : Value → Value → Prop
  | bool (b : Bool) : Ren β (.bool b) (.bool b)
  | int (k : IntKind) (n : Int) : Ren β (.int k n) (.int k n)
  | str (s : ByteArray) : Ren β (.string s) (.string s)
  | flt (k : FloatKind) (b : Nat) : Ren β (.float k b) (.float k b)
  | cpx (k : FloatKind) (a b : Nat) : Ren β (.complex k a b) (.complex k a b)
  | pnil : Ren β (.pointer none) (.pointer none)
  | ptr (b c o : Nat) (h : c = β b) : Ren β (.pointer (some ⟨b, o, none⟩)) (.pointer (some ⟨c, o, none⟩))
  | snil : Ren β (.slice none 0 0) (.slice none 0 0)
  | slc (b c o len cap : Nat) (h : c = β b) : Ren β (.slice (some ⟨b, o, none⟩) len cap) (.slice (some ⟨c, o, none⟩) len cap)
  | agg (xs ys : List Value) (h : Rens β xs ys) : Ren β (.agg ⟨xs⟩) (.agg ⟨ys⟩)
  | tup (xs ys : List Value) (h : Rens β xs ys) : Ren β (.tuple ⟨xs⟩) (.tuple ⟨ys⟩)
inductive Rens (β : Nat → Nat) : List Value → List Value → Prop
  | nil : Rens β [] []
  | cons (x y : Value) (xs ys : List Value) (h : Ren β x y) (t : Rens β xs ys) : Rens β (x :: xs) (y :: ys)
end
mutual
theorem VR.ren {ρ ρ2 : List Loc} {β : Nat → Nat} (hβ : ∀ (b : Nat) (L : Loc), ρ[b]? = some L → ρ2[β b]? = some L) (hro : ∀ b, ro ≤ β b → ro ≤ b) : ∀ {v u x : Value}, VR P ro ρ v x → Ren β v u → VR P ro ρ2 u x
  | _, _, _, .bool b, .bool _ => .bool b
  | _, _, _, .int k n, .int _ _ => .int k n
  | _, _, _, .str s, .str _ => .str s
  | _, _, _, .flt k b b' h, .flt _ _ => .flt k b b' h
  | _, _, _, .cpx k a b a' b' h h', .cpx _ _ _ => .cpx k a b a' b' h h'
  | _, _, _, .pnil, .pnil => .pnil
  | _, _, _, .ptr b o L h, .ptr _ c _ hc => .ptr c o L (by rw [hc]; exact hβ b L h)
  | _, _, _, .snil, .snil => .snil
  | _, _, _, .slc b o L len cap cap' h h1 h2 h3, .slc _ c _ _ _ hc => .slc c o L len cap cap' (by rw [hc]; exact hβ b L h) h1 h2 (fun q => h3 (hro b (by rw [← hc]; exact q)))
  | _, _, _, .slz b o cap a L h, .slc _ c _ _ _ hc => .slz c o cap a L (by rw [hc]; exact hβ b L h)
  | _, _, _, .agg xs ys h, .agg _ us g => .agg us ys (VRs.ren hβ hro h g)
  | _, _, _, .tup xs ys h, .tup _ us g => .tup us ys (VRs.ren hβ hro h g)
theorem VRs.ren {ρ ρ2 : List Loc} {β : Nat → Nat} (hβ : ∀ (b : Nat) (L : Loc), ρ[b]? = some L → ρ2[β b]? = some L) (hro : ∀ b, ro ≤ β b → ro ≤ b) : ∀ {v u x : List Value}, VRs P ro ρ v x → Rens β v u → VRs P ro ρ2 u x
  | _, _, _, .nil, .nil => .nil
  | _, _, _, .cons x y xs ys h t, .cons _ u _ us g s => .cons u y us ys (VR.ren hβ hro h g) (VRs.ren hβ hro t s)
end
theorem Rens.get {β : Nat → Nat} : ∀ {xs ys : List Value}, Rens β xs ys → ∀ {i : Nat} {v : Value}, ys[i]? = some v → ∃ u, xs[i]? = some u ∧ Ren β u v
  | _, _, .nil, _, _, h => by simp at h
  | _, _, .cons x y xs ys h t, 0, v, hi => by simp at hi; subst hi; exact ⟨x, rfl, h⟩
  | _, _, .cons x y xs ys h t, i + 1, v, hi => by simp at hi; obtain ⟨u, h1, h2⟩ := Rens.get t hi; exact ⟨u, by simpa using h1, h2⟩
theorem Rens.ne {β : Nat → Nat} {xs ys : List Value} (h : Rens β xs ys) (hy : ys ≠ []) : xs ≠ [] := by
  cases h
  · exact hy
  · simp
/-- Values without memory. -/
theorem Rens.ints {β : Nat → Nat} : ∀ (l : List Int), Rens β (l.map (Value.int .i64)) (l.map (Value.int .i64))
  | [] => .nil
  | a :: l => .cons _ _ _ _ (.int _ _) (Rens.ints l)
theorem Rens.append {β : Nat → Nat} : ∀ {a b c d : List Value}, Rens β a b → Rens β c d → Rens β (a ++ c) (b ++ d)
  | _, _, _, _, .nil, k => k
  | _, _, _, _, .cons x y xs ys h t, k => .cons x y _ _ h (Rens.append t k)
/-- The two ends of a region that differ in the names of new blocks. -/
structure Swap (h0 : Heap) (N : Nat) (e0 e1 e2 : Env) (t1 t2 : Heap) (π σ : Nat → Nat) : Prop where
  len : t1.length = t2.length
  to : ∀ k, k < t1.length → π k < t1.length ∧ σ (π k) = k
  of : ∀ k, k < t1.length → σ k < t1.length ∧ π (σ k) = k
  blk : ∀ k A, k < t1.length → t1[k]? = some A → ∃ D, t2[π k]? = some D ∧ D.ty = A.ty ∧ Rens (fun b => if b < h0.length then b else h0.length + π (b - h0.length)) A.cells D.cells
  env : ∀ t, (e1 t = e0 t ∧ e2 t = e0 t) ∨ Ren (fun b => if b < h0.length then b else h0.length + π (b - h0.length)) (e1 t) (e2 t)
theorem Swap.go {h0 : Heap} {N : Nat} {e0 e1 e2 : Env} {t1 t2 : Heap} {π σ : Nat → Nat} (z : Swap h0 N e0 e1 e2 t1 t2 π σ) (hro : ro ≤ h0.length) {ρ ρ' : List Loc} {w w' : World} {a a' : Act} (hs : SR P ro B ρ h0 w) (hA : AR P ro ρ N e0 a) (hp : Pre ρ ρ') (hs' : SR P ro B ρ' (h0 ++ t1) w') (hA' : AR P ro ρ' N e1 a') :
    ∃ ρ2, Pre ρ ρ2 ∧ SR P ro B ρ2 (h0 ++ t2) w' ∧ AR P ro ρ2 N e2 a' := by
  obtain ⟨τ, rfl⟩ := hp
  have hl := hs.len
  have hl' := hs'.len
  simp only [List.length_append] at hl'
  have hτ : τ.length = t1.length := by omega
  have L2 : ∀ k, k < t1.length → ∃ L, τ[σ k]? = some L := fun k hk => by
    have := (z.of k hk).1
    exact ⟨τ[σ k]'(by omega), List.getElem?_eq_getElem (by omega)⟩
  let τ2 := (List.range t1.length).map fun k => τ.getD (σ k) ⟨0, 0, 0, 0⟩
  have g2 : ∀ k, k < t1.length → τ2[k]? = τ[σ k]? := fun k hk => by
    obtain ⟨L, hL⟩ := L2 k hk
    simp only [τ2, List.getElem?_map, List.getElem?_range hk, Option.map_some, List.getD_eq_getElem?_getD, hL, Option.getD_some]
  have hτ2 : τ2.length = t1.length := by simp [τ2]
  have old : ∀ b, b < ρ.length → (ρ ++ τ2)[b]? = (ρ ++ τ)[b]? := fun b hb => by rw [List.getElem?_append_left hb, List.getElem?_append_left hb]
  have new : ∀ k, k < t1.length → (ρ ++ τ2)[ρ.length + k]? = (ρ ++ τ)[ρ.length + σ k]? := fun k hk => by
    rw [List.getElem?_append_right (by omega), List.getElem?_append_right (by omega)]
    simp only [Nat.add_sub_cancel_left]
    exact g2 k hk
  have hβ : ∀ (b : Nat) (L : Loc), (ρ ++ τ)[b]? = some L → (ρ ++ τ2)[if b < h0.length then b else h0.length + π (b - h0.length)]? = some L := by
    intro b L hb
    split
    · rename_i q
      rw [old b (by omega)]; exact hb
    · rename_i q
      have hb' : b < (ρ ++ τ).length := by
        rcases Nat.lt_or_ge b (ρ ++ τ).length with q | q
        · exact q
        · rw [List.getElem?_eq_none q] at hb; cases hb
      simp only [List.length_append] at hb'
      have hk : b - h0.length < t1.length := by omega
      rw [← hl, new _ (by rw [hl]; exact (z.to _ hk).1), hl, (z.to _ hk).2]
      rw [show h0.length + (b - h0.length) = b by omega]
      exact hb
  have hβro : ∀ b, ro ≤ (if b < h0.length then b else h0.length + π (b - h0.length)) → ro ≤ b := by
    intro b hb
    split at hb
    · exact hb
    · omega
  have pre2 : Pre ρ (ρ ++ τ2) := ⟨τ2, rfl⟩
  -- each block of the new heap as one of the other
  have find : ∀ (b : Nat) (L : Loc) (D : Blk), (ρ ++ τ2)[b]? = some L → (h0 ++ t2)[b]? = some D →
      (b < h0.length ∧ (ρ ++ τ)[b]? = some L ∧ (h0 ++ t1)[b]? = some D ∧ ρ[b]? = some L ∧ h0[b]? = some D) ∨
      (∃ c A, h0.length ≤ b ∧ h0.length ≤ c ∧ (c : Nat) = h0.length + σ (b - h0.length) ∧ b < h0.length + t1.length ∧ (ρ ++ τ)[c]? = some L ∧ (h0 ++ t1)[c]? = some A ∧ D.ty = A.ty ∧ Rens (fun b => if b < h0.length then b else h0.length + π (b - h0.length)) A.cells D.cells) := by
    intro b L D h1 h2
    by_cases q : b < h0.length
    · left
      rw [List.getElem?_append_left (by omega)] at h1
      rw [List.getElem?_append_left q] at h2
      exact ⟨q, by rw [List.getElem?_append_left (by omega)]; exact h1, by rw [List.getElem?_append_left q]; exact h2, h1, h2⟩
    · right
      have hb' : b < (h0 ++ t2).length := by
        rcases Nat.lt_or_ge b (h0 ++ t2).length with q | q
        · exact q
        · rw [List.getElem?_eq_none q] at h2; cases h2
      simp only [List.length_append, ← z.len] at hb'
      have hk : b - h0.length < t1.length := by omega
      obtain ⟨s1, s2⟩ := z.of _ hk
      have e1 := new _ hk
      rw [hl, show h0.length + (b - h0.length) = b by omega, h1] at e1
      obtain ⟨A, hA1⟩ : ∃ A, t1[σ (b - h0.length)]? = some A := ⟨_, List.getElem?_eq_getElem s1⟩
      obtain ⟨D', d1, d2, d3⟩ := z.blk _ A s1 hA1
      rw [s2] at d1
      rw [List.getElem?_append_right (by omega), d1] at h2
      cases h2
      refine ⟨_, A, by omega, by omega, rfl, by omega, e1.symm, ?_, d2, d3⟩
      rw [List.getElem?_append_right (by omega), Nat.add_sub_cancel_left]
      exact hA1
  refine ⟨ρ ++ τ2, pre2, ⟨by simp only [List.length_append, hτ2, ← z.len, hl], ?_, ?_, ?_, hs'.glob⟩, ⟨fun t => ?_, hA'.size, hA'.defers⟩⟩
  · intro b L D h1 h2 hr
    rcases find b L D h1 h2 with ⟨_, q1, q2, _⟩ | ⟨c, A, q1, q2, q3, _, q4, q5, q6, _⟩
    · exact hs'.ty b L D q1 q2 hr
    · rw [q6]; exact hs'.ty c L A q4 q5 (by omega)
  · intro b L D h1 h2 hne
    rcases find b L D h1 h2 with ⟨q, q1, q2, q3, q4⟩ | ⟨c, A, q1, q2, q3, _, q4, q5, q6, q7⟩
    · obtain ⟨C, ty, fr, k1, k2, k3⟩ := hs'.blk b L D q1 q2 hne
      obtain ⟨C0, ty0, fr0, j1, j2, j3⟩ := hs.blk b L D q3 q4 hne
      refine ⟨C, ty, fr, k1, fun i v hv => ?_, k3⟩
      obtain ⟨v', x1, x2, x3⟩ := k2 i v hv
      obtain ⟨v0, y1, y2, y3⟩ := j2 i v hv
      exact ⟨v', x1, (VR.back ⟨τ, rfl⟩ y2 x2).mono pre2, x3⟩
    · obtain ⟨C, ty, fr, k1, k2, k3⟩ := hs'.blk c L A q4 q5 (q7.ne hne)
      refine ⟨C, ty, fr, k1, fun i v hv => ?_, fun hr => ?_⟩
      · obtain ⟨u, u1, u2⟩ := q7.get hv
        obtain ⟨v', x1, x2, x3⟩ := k2 i u u1
        have hv' := VR.ren hβ hβro x2 u2
        exact ⟨v', x1, hv', x3⟩
      · rw [q6]
        exact k3 (by omega)
  · intro b b' L L' D D' hne hr h1 h1' h2 h2' h3 h3'
    rcases find b L D h1 h2 with ⟨q, q1, q2, q3, q4⟩ | ⟨c, A, q1, q2, q3, q3', q4, q5, q6, q7⟩
    · rcases find b' L' D' h1' h2' with ⟨p, p1, p2, p3, p4⟩ | ⟨c', A', p1, p2, p3, p3', p4, p5, p6, p7⟩
      · exact hs'.apart b b' L L' D D' hne hr q1 p1 q2 p2 h3 h3'
      · exact hs'.apart b c' L L' D A' (by omega) hr q1 p4 q2 p5 h3 (p7.ne h3')
    · rcases find b' L' D' h1' h2' with ⟨p, p1, p2, p3, p4⟩ | ⟨c', A', p1, p2, p3, p3', p4, p5, p6, p7⟩
      · exact hs'.apart c b' L L' A D' (by omega) (by omega) q4 p1 q5 p2 (q7.ne h3) h3'
      · refine hs'.apart c c' L L' A A' ?_ (by omega) q4 p4 q5 p5 (q7.ne h3) (p7.ne h3')
        intro e
        have e2 : σ (b - h0.length) = σ (b' - h0.length) := by omega
        have := congrArg π e2
        rw [(z.of _ (by omega)).2, (z.of _ (by omega)).2] at this
        omega
  · rcases z.env t with ⟨e1', e2'⟩ | hr
    · have x := hA'.er t
      have y := hA.er t
      rw [e1'] at x
      rw [e2']
      exact (VR.back ⟨τ, rfl⟩ y x).mono pre2
    · exact VR.ren hβ hβro (hA'.er t) hr
/-- Two ends of a region mean the same. -/
def Equ (P : Program) (ro : Nat) (e : Env) (h : Heap) (q' q : Env × Heap) : Prop :=
  ∀ (B : Base) (N : Nat) (ρ ρ' : List Loc) (w w' : World) (a a' : Act), SR P ro B ρ h w → AR P ro ρ N e a → Pre ρ ρ' → SR P ro B ρ' q'.2 w' → AR P ro ρ' N q'.1 a' → ∃ ρ2, Pre ρ ρ2 ∧ SR P ro B ρ2 q.2 w' ∧ AR P ro ρ2 N q.1 a'
theorem Equ.refl (e : Env) (h : Heap) (q : Env × Heap) : Equ P ro e h q q := fun B N ρ ρ' w w' a a' _ _ hp hs hA => ⟨ρ', hp, hs, hA⟩
theorem Swap.equ {h0 : Heap} {N : Nat} {e0 e1 e2 : Env} {t1 t2 : Heap} {π σ : Nat → Nat} (z : Swap h0 N e0 e1 e2 t1 t2 π σ) (hro : ro ≤ h0.length) : Equ P ro e0 h0 (e1, h0 ++ t1) (e2, h0 ++ t2) :=
  fun B N' ρ ρ' w w' a a' hs hA hp hs' hA' => Swap.go (N := N') ⟨z.len, z.to, z.of, z.blk, z.env⟩ hro hs hA hp hs' hA'
/-- A run in the order of the text that all other orders come to, but for the names of new blocks. -/
def PermRun (P : Program) (ro : Nat) (C : Fns) (ops : Array Oper) (e : Env) (h : Heap) (q : Env × Heap) : Prop :=
  extsEnd ops ops.size (Array.replicate ops.size false) = true ∧ aops P ro C ops ops.toList e h = some q ∧ ∀ σ ∈ exts ops ops.size (Array.replicate ops.size false), ∃ q', aops P ro C ops (opsAt ops σ) e h = some q' ∧ Equ P ro e h q' q
theorem PermRun.mono {C C' : Fns} (hc : LeF C C') {ops : Array Oper} {e : Env} {h : Heap} {q : Env × Heap} (d : PermRun P ro C ops e h q) : PermRun P ro C' ops e h q :=
  ⟨d.1, aops_mono hc d.2.1, fun σ hσ => by obtain ⟨q', h1, h2⟩ := d.2.2 σ hσ; exact ⟨q', aops_mono hc h1, h2⟩⟩
end Go.Proofs.Yteignhphimfmkaa.Sim
