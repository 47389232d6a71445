/- That literals and appends of the abstract machine stand for those of the model. Lemmas only; no condition. -/
import Derived.Test.YteignhphimfmkaaSimD
namespace Go.Proofs.Yteignhphimfmkaa.Sim
open Go Go.RowKit

variable {P : Program} {ro : Nat} {B : Base}

theorem fold_set (o : Nat) : ∀ (vs : List Value) (k : Nat) (cs : Array Value), o + k + vs.length ≤ cs.size →
    ((vs.zipIdx k).foldl (fun (cs : Array Value) (q : Value × Nat) => cs.setIfInBounds (o + q.2) q.1) cs).toList = splice cs.toList (o + k) vs
  | [], k, cs, h => by simp [splice]
  | v :: r, k, cs, h => by
    simp only [List.length_cons] at h
    rw [List.zipIdx_cons, List.foldl_cons, fold_set o r (k + 1) _ (by simp; omega)]
    apply List.ext_getElem?
    intro i
    rw [splice_get _ _ _ (by simp; omega), splice_get _ _ _ (by simp; omega)]
    simp only [Array.toList_setIfInBounds, List.getElem?_set, Array.length_toList, List.length_cons]
    by_cases h1 : i < o + k
    · rw [if_pos (by omega), if_neg (by omega), if_pos h1]
    · rw [if_neg h1]
      by_cases h2 : i = o + k
      · subst h2
        rw [if_pos (by omega), if_pos (by omega), if_pos (by omega), if_pos (by omega), Nat.sub_self]
        rfl
      · rw [if_neg (by omega)]
        by_cases h3 : i < o + k + (r.length + 1)
        · rw [if_pos (by omega), if_pos h3]
          have : i - (o + k) = (i - (o + (k + 1))) + 1 := by omega
          rw [this, List.getElem?_cons_succ]
        · rw [if_neg (by omega), if_neg (by omega), if_neg h3]

/-- The parts of a literal, the same places in both machines. -/
inductive PR (P : Program) (ro : Nat) (ρ : List Loc) : List (Nat × Value) → List (Nat × Value) → Prop
  | nil : PR P ro ρ [] []
  | cons (i : Nat) (x y : Value) (r r' : List (Nat × Value)) (h : VR P ro ρ x y) (t : PR P ro ρ r r') : PR P ro ρ ((i, x) :: r) ((i, y) :: r')

theorem lay_fill {ρ : List Loc} (place : Nat → Option (Nat × Nat)) : ∀ {ps ps' : List (Nat × Value)}, PR P ro ρ ps ps' → ∀ {cs cs' : List Value} {C : Array Value}, lay place cs ps = some cs' → VRs P ro ρ cs C.toList →
    ∃ C', Instr.fill place C ps' = some C' ∧ VRs P ro ρ cs' C'.toList ∧ C'.size = C.size
  | _, _, .nil, cs, cs', C, h, hr => by simp only [lay] at h; cases h; exact ⟨C, rfl, hr, rfl⟩
  | _, _, .cons i x y r r' hx t, cs, cs', C, h, hr => by
    simp only [lay] at h
    cases hp : place i with
    | none => rw [hp] at h; cases h
    | some q =>
      obtain ⟨o, n⟩ := q
      rw [hp] at h
      simp only at h
      split at h
      · cases h
      · rename_i hc
        simp only [not_or, Decidable.not_not, Nat.not_lt] at hc
        have hl := hx.cells.len
        have hC := hr.len
        simp only [Array.length_toList] at hC
        have hys : y.cells.size = n := by rw [cells_size, ← hl, hc.1]
        have hfold := fold_set o (cellsOf y) 0 C (by omega)
        simp only [Nat.add_zero] at hfold
        obtain ⟨C', f1, f2, f3⟩ := lay_fill place t (C := (((cellsOf y).zipIdx 0).foldl (fun (cs : Array Value) (q : Value × Nat) => cs.setIfInBounds (o + q.2) q.1) C)) h (by rw [hfold]; exact hr.splice o hx.cells)
        refine ⟨C', ?_, f2, ?_⟩
        · simp only [Instr.fill, hp]
          rw [if_neg (by rw [hys]; simp; omega)]
          rw [← f1]
          congr 1
          rw [← Array.foldl_toList, Array.toList_zipIdx, cells_toList]
        · rw [f3]
          have := congrArg List.length hfold
          rw [Array.length_toList, splice_len _ _ _ (by simp; omega)] at this
          simpa using this
theorem splice_one {cs vs : List Value} {o : Nat} (h : cs.all one = true) (h' : vs.all one = true) : (splice cs o vs).all one = true := by
  unfold splice
  rw [List.all_append, List.all_append, h']
  have t1 : (cs.take o).all one = true := List.all_eq_true.2 fun v hv => List.all_eq_true.1 h v (List.mem_of_mem_take hv)
  have t2 : (cs.drop (o + vs.length)).all one = true := List.all_eq_true.2 fun v hv => List.all_eq_true.1 h v (List.mem_of_mem_drop hv)
  rw [t1, t2]; rfl
theorem lay_one (place : Nat → Option (Nat × Nat)) : ∀ {ps : List (Nat × Value)} {cs cs' : List Value}, lay place cs ps = some cs' → cs.all one = true → (ps.all fun q => (cellsOf q.2).all one) = true → cs'.all one = true
  | [], cs, cs', h, h1, _ => by simp only [lay] at h; cases h; exact h1
  | (i, v) :: r, cs, cs', h, h1, h2 => by
    simp only [lay] at h
    simp only [List.all_cons, Bool.and_eq_true] at h2
    cases hp : place i with
    | none => rw [hp] at h; cases h
    | some q =>
      rw [hp] at h
      simp only at h
      split at h
      · cases h
      · exact lay_one place h (splice_one h1 h2.1) h2.2

theorem bld_snd {ρ : List Loc} {h : Heap} {w : World} (s : SR P ro B ρ h w) {t : TypeId} {ps : List (Nat × Value)} {ps' : Array (Nat × Value)} {v : Value} (hb : bld P t ps = some v) (hp : PR P ro ρ ps ps'.toList) :
    Fine P ro B ρ h w v (Instr.build t ps') := by
  unfold bld at hb
  simp only [Option.bind_eq_some_iff] at hb
  obtain ⟨z, hz, hb⟩ := hb
  obtain ⟨i, hi, hiz, hpl, hon, hsi⟩ := zeroT_some hz
  have hzr : VRs P ro ρ (cellsOf z) z.cells.toList := by rw [cells_toList]; exact (VR.plainV hpl).cells
  have key : ∃ cs, v = .agg ⟨cs⟩ ∧ ∃ C', P.built t ps'.toList = some C' ∧ VRs P ro ρ cs C'.toList := by
    unfold placesT arrT at hb
    cases hu : P.underlying t with
    | none => rw [hu] at hb; cases hb
    | some d =>
      rw [hu] at hb
      cases d <;> simp only at hb <;> try (cases hb; done)
      case array n e =>
        cases he : P.info? e with
        | none => rw [he] at hb; cases hb
        | some ie =>
          rw [he] at hb
          simp only [Option.map_some, Option.map_eq_some_iff] at hb
          obtain ⟨cs, hl, rfl⟩ := hb
          obtain ⟨C', f1, f2, _⟩ := lay_fill _ hp hl hzr
          exact ⟨cs, rfl, C', by simp only [Program.built, hi, hu, hiz, he, f1], f2⟩
      case struct fs =>
        cases hm : fs.toList.mapM (fun f => (P.info? f.type).map fun i => (f.offset, i.size)) with
        | none => rw [hm] at hb; cases hb
        | some pl =>
          rw [hm] at hb
          simp only [Option.map_eq_some_iff] at hb
          obtain ⟨cs, hl, rfl⟩ := hb
          obtain ⟨C', f1, f2, _⟩ := lay_fill _ hp hl hzr
          refine ⟨cs, rfl, C', ?_, f2⟩
          simp only [Program.built, hi, hu, hiz, hm, List.getElem?_toArray]
          exact f1
  obtain ⟨cs, rfl, C', hC, hr⟩ := key
  refine ⟨.agg C', w, ρ, run_build w t ps' C' hC, Pre.refl _, s, ?_, Below.refl _ _⟩
  exact .agg cs C'.toList hr

theorem bldS_snd {ρ : List Loc} {h h' : Heap} {w : World} (s : SR P ro B ρ h w) (hB : B.n ≤ w.heap.size) {t : TypeId} {n : Nat} {ps : List (Nat × Value)} {ps' : Array (Nat × Value)} {v : Value} (hb : bldS P h t n ps = some (v, h')) (hp : PR P ro ρ ps ps'.toList) :
    Fine P ro B ρ h' w v (Instr.buildSlice t n ps') := by
  unfold bldS at hb
  simp only [Option.bind_eq_some_iff, elemT] at hb
  obtain ⟨e, he, sz, hsz, z, hz, hb⟩ := hb
  split at he <;> cases he
  rename_i hu
  split at hb
  · rename_i hc
    obtain ⟨c1, c2⟩ := hc
    simp only [Option.map_eq_some_iff] at hb
    obtain ⟨cs, hl, hb⟩ := hb
    cases hb
    obtain ⟨i, hi, hiz, hpl, hon, hsi⟩ := zeroT_some hz
    obtain ⟨i', d, hi', rfl, hd⟩ := szT_some hsz
    rw [hi] at hi'; cases hi'
    have hzc : z.cells.size = i.size := by rw [cells_size, hsi]
    have hrc := range_cells z.cells (n * i.size) (if n * i.size = 0 then #[] else z.cells) n (by rw [hzc]) (fun h => if_neg h)
    have hzr : VRs P ro ρ (List.replicate n (cellsOf z)).flatten ((Array.range (n * i.size)).map fun j => (if n * i.size = 0 then #[] else z.cells)[j % (if n * i.size = 0 then (#[] : Array Value) else z.cells).size]!).toList := by
      rw [hrc, cells_toList]
      exact rep_VR (VR.plainV hpl).cells n
    obtain ⟨C', f1, f2, f3⟩ := lay_fill _ hp hl hzr
    have hone := lay_one _ hl (rep_one _ n hon) c2
    refine ⟨.slice (some ⟨w.heap.size, 0, none⟩) n n, w.alloc (.cells C' e), ρ ++ [⟨w.heap.size, 0, C'.size, e⟩], ?_, ⟨_, rfl⟩, ?_, ?_, below_push hB rfl⟩
    · have hbig : ¬ (16777216 < n * i.size) := by omega
      by_cases h0 : n * i.size = 0
      · simp only [h0, if_true] at f1
        simp [Instr.buildSlice, run_underlying hu, sizeOf, typeInfo, hi, h0]
        have hemp : (Array.range 0 : Array Nat) = #[] := rfl
        simp only [hemp, Array.map_empty] at f1 ⊢
        simp only [f1]
        simp [newRow]
      · simp only [h0, if_false] at f1
        simp [Instr.buildSlice, run_underlying hu, sizeOf, typeInfo, hi, h0, hbig, zeroValue, hiz]
        simp only [f1]
        simp [newRow]
    · exact new_snd s hB C' e cs fun j v hv => by
        obtain ⟨v', q1, q2⟩ := rel_get f2 hone j v hv
        exact ⟨v', by simpa using q1, q2⟩
    · have := VR.slc (P := P) (ro := ro) h.length 0 _ n n n (last_loc s (⟨w.heap.size, 0, C'.size, e⟩ : Loc)) (Nat.le_refl _) (fun _ => rfl) (by
        intro _ sz' hsz'
        rw [hsz] at hsz'; cases hsz'
        simp [f3])
      simpa using this
  · cases hb
end Go.Proofs.Yteignhphimfmkaa.Sim
