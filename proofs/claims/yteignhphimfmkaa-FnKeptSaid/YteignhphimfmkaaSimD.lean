/- That new blocks, literals and appends of the abstract machine stand for those of the model. Lemmas only; no condition. -/
import Derived.Test.YteignhphimfmkaaSimC
namespace Go.Proofs.Yteignhphimfmkaa.Sim
open Go Go.RowKit

variable {P : Program} {ro : Nat} {B : Base}

theorem VR.plainC {ρ : List Loc} : ∀ {v : Value}, Sim.plainC v = true → VR P ro ρ v v := by
  intro v h
  cases v with
  | pointer a => cases a with
    | none => exact .pnil
    | some a => simp [Sim.plainC] at h
  | slice a n c =>
    cases a with
    | none =>
      have : n = 0 ∧ c = 0 := by
        unfold Sim.plainC at h
        split at h <;> simp_all
      obtain ⟨rfl, rfl⟩ := this
      exact .snil
    | some a => simp [Sim.plainC] at h
  | float k b => exact .flt k b b (by simpa [Sim.plainC] using h)
  | complex k a b => simp [Sim.plainC] at h; exact .cpx k a b a b h.1 h.2
  | bool b => exact .bool b
  | int k n => exact .int k n
  | string s => exact .str s
  | nilFunc => exact .nilFn
  | nilIface => exact .nilIface
  | _ => simp [Sim.plainC] at h
theorem VRs.plainC {ρ : List Loc} : ∀ {vs : List Value}, vs.all Sim.plainC = true → VRs P ro ρ vs vs
  | [], _ => .nil
  | v :: r, h => by simp only [List.all_cons, Bool.and_eq_true] at h; exact .cons _ _ _ _ (VR.plainC h.1) (VRs.plainC h.2)
theorem VR.plainV {ρ : List Loc} {v : Value} (h : Sim.plainV v = true) : VR P ro ρ v v := by
  unfold Sim.plainV at h
  split at h
  · exact .agg _ _ (VRs.plainC h)
  · exact .tup _ _ (VRs.plainC h)
  · exact VR.plainC h
theorem zeroT_some {t : TypeId} {z : Value} (h : zeroT P t = some z) : ∃ i, P.info? t = some i ∧ i.zero = some z ∧ plainV z = true ∧ (cellsOf z).all one = true ∧ i.size = (cellsOf z).length := by
  unfold zeroT at h
  simp only [Option.bind_eq_some_iff] at h
  obtain ⟨z', ⟨i, hi, hz⟩, h⟩ := h
  split at h
  · rename_i hc
    cases h
    simp only [Bool.and_eq_true, beq_iff_eq] at hc
    obtain ⟨i', d, hi', hs, _⟩ := szT_some hc.2
    rw [hi] at hi'; cases hi'
    exact ⟨i, hi, hz, hc.1.1, hc.1.2, hs⟩
  · cases h

/-- What a run of an operation leaves. -/
def Fine (P : Program) (ro : Nat) (B : Base) (ρ : List Loc) (h' : Heap) (w : World) (v : Value) (s : Sem Value) : Prop :=
  ∃ v' w' ρ', s.run P w = .ok v' w' ∧ Pre ρ ρ' ∧ SR P ro B ρ' h' w' ∧ VR P ro ρ' v v' ∧ Below B.n w w'

theorem below_push {B : Nat} {w w' : World} {o : Obj} (hB : B ≤ w.heap.size) (h : w' = w.alloc o) : Below B w w' := by subst h; exact (Below.refl B w).alloc hB o

theorem new_snd {ρ : List Loc} {h : Heap} {w : World} (s : SR P ro B ρ h w) (hB : B.n ≤ w.heap.size) (C : Array Value) (ty : TypeId) (cs : List Value)
    (hc : ∀ (i : Nat) (v : Value), cs[i]? = some v → ∃ v', C[i]? = some v' ∧ VR P ro ρ v v' ∧ one v' = true) :
    SR P ro B (ρ ++ [⟨w.heap.size, 0, C.size, ty⟩]) (h ++ [⟨ty, cs⟩]) (w.alloc (.cells C ty)) := s.push hB C ty cs rfl hc
theorem last_loc {ρ : List Loc} {h : Heap} {w : World} (s : SR P ro B ρ h w) (L : Loc) : (ρ ++ [L])[h.length]? = some L := by rw [← s.len]; simp

theorem one_get {ys : List Value} (h : ys.all one = true) {i : Nat} {v : Value} (hv : ys[i]? = some v) : one v = true := List.all_eq_true.1 h v (List.mem_of_getElem? hv)
theorem rel_get {ρ : List Loc} {xs ys : List Value} (h : VRs P ro ρ xs ys) (h1 : xs.all one = true) (i : Nat) (v : Value) (hv : xs[i]? = some v) : ∃ v', ys[i]? = some v' ∧ VR P ro ρ v v' ∧ one v' = true := by
  obtain ⟨v', q1, q2⟩ := h.get hv
  exact ⟨v', q1, q2, by rw [q2.one]; exact one_get h1 hv⟩

theorem box_snd {ρ : List Loc} {h h' : Heap} {w : World} (s : SR P ro B ρ h w) (hB : B.n ≤ w.heap.size) {t : TypeId} {x x' v : Value} (hb : boxV h t x = some (v, h')) (hx : VR P ro ρ x x') :
    Fine P ro B ρ h' w v (Instr.box t x') := by
  unfold boxV at hb
  split at hb
  · rename_i h1
    cases hb
    refine ⟨.pointer (some ⟨w.heap.size, 0, none⟩), w.alloc (.cells x'.cells t), ρ ++ [⟨w.heap.size, 0, x'.cells.size, t⟩], ?_, ⟨_, rfl⟩, new_snd s hB _ _ _ ?_, ?_, below_push hB rfl⟩
    · simp [Instr.box, newVar, newRow]
    · intro i v hv
      obtain ⟨v', q1, q2⟩ := rel_get hx.cells h1 i v hv
      exact ⟨v', by rw [← cells_toList] at q1; simpa using q1, q2⟩
    · have := VR.ptr (P := P) (ro := ro) h.length 0 _ (last_loc s (⟨w.heap.size, 0, x'.cells.size, t⟩ : Loc))
      simpa using this
  · cases hb
theorem alloc_snd {ρ : List Loc} {h h' : Heap} {w : World} (s : SR P ro B ρ h w) (hB : B.n ≤ w.heap.size) {t : TypeId} {z v : Value} (hz : zeroT P t = some z) (hb : boxV h t z = some (v, h')) :
    Fine P ro B ρ h' w v (Instr.alloc t true (.tuple #[])) := by
  obtain ⟨i, hi, hiz, hp, _, _⟩ := zeroT_some hz
  obtain ⟨v', w', ρ', h1, h2⟩ := box_snd s hB hb (VR.plainV (ρ := ρ) hp)
  refine ⟨v', w', ρ', ?_, h2⟩
  rw [← h1]
  simp [Instr.alloc, Instr.box, zeroValue, typeInfo, hi, hiz]

theorem rep_get (z : List Value) (c : Nat) : ∀ (j : Nat), j < c * z.length → (List.replicate c z).flatten[j]? = z[j % z.length]? := by
  induction c with
  | zero => intro j h; simp at h
  | succ c ih =>
    intro j h
    rw [List.replicate_succ, List.flatten_cons]
    by_cases hj : j < z.length
    · rw [List.getElem?_append_left hj, Nat.mod_eq_of_lt hj]
    · have hs : (c + 1) * z.length = c * z.length + z.length := Nat.succ_mul _ _
      have hm : j % z.length = (j - z.length) % z.length := Nat.mod_eq_sub_mod (by omega)
      rw [List.getElem?_append_right (by omega), ih _ (by omega), hm]
theorem rep_len (z : List Value) (c : Nat) : (List.replicate c z).flatten.length = c * z.length := by induction c with
  | zero => simp
  | succ c ih => rw [List.replicate_succ, List.flatten_cons, List.length_append, ih, Nat.succ_mul]; omega
theorem rep_one (z : List Value) (c : Nat) (h : z.all one = true) : (List.replicate c z).flatten.all one = true := by induction c with
  | zero => simp
  | succ c ih => rw [List.replicate_succ, List.flatten_cons, List.all_append, h, ih]; rfl
theorem rep_VR {ρ : List Loc} {z : List Value} (h : VRs P ro ρ z z) (c : Nat) : VRs P ro ρ (List.replicate c z).flatten (List.replicate c z).flatten := by induction c with
  | zero => exact .nil
  | succ c ih => rw [List.replicate_succ, List.flatten_cons]; exact h.append ih
theorem range_cells (z : Array Value) (n : Nat) (zero : Array Value) (c : Nat) (hn : n = c * z.size) (hz : n ≠ 0 → zero = z) : ((Array.range n).map fun j => zero[j % zero.size]!).toList = (List.replicate c z.toList).flatten := by
  apply List.ext_getElem?
  intro j
  by_cases hj : j < n
  · rw [hz (by omega), rep_get _ _ _ (by simpa [← hn] using hj)]
    have h0 : 0 < z.size := by
      rcases Nat.eq_zero_or_pos z.size with q | q
      · rw [q] at hn; simp at hn; omega
      · exact q
    have hm := Nat.mod_lt j h0
    simp only [Array.toList_map, List.getElem?_map, Array.toList_range, List.getElem?_range hj, Option.map_some, Array.length_toList, Array.getElem?_toList]
    rw [getElem!_pos z (j % z.size) hm, Array.getElem?_eq_getElem hm]
  · rw [List.getElem?_eq_none (by simp; omega), List.getElem?_eq_none (by rw [rep_len]; simp; omega)]

theorem run_askRoom' (n : Nat) (w : World) : (askRoom n).run P w = .ok () w := by
  unfold askRoom
  split <;> rfl

theorem mk_snd {ρ : List Loc} {h h' : Heap} {w : World} (s : SR P ro B ρ h w) (hB : B.n ≤ w.heap.size) {t : TypeId} {l l' c c' v : Value} (hm : mk P h t l c = some (v, h')) (hl : VR P ro ρ l l') (hc : VR P ro ρ c c') :
    Fine P ro B ρ h' w v (Instr.makeSlice t l' c') := by
  unfold mk at hm
  split at hm
  · rename_i k1 l k2 c
    cases hl; cases hc
    simp only [Option.bind_eq_some_iff, elemT] at hm
    obtain ⟨e, he, sz, hsz, by_, hby, z, hz, hm⟩ := hm
    split at he <;> cases he
    rename_i hu
    split at hm
    · rename_i hcond
      obtain ⟨c1, rfl, c3, c4, c5⟩ := hcond
      cases hm
      obtain ⟨i, hi, hiz, hpl, hon, hsi⟩ := zeroT_some hz
      obtain ⟨i', d, hi', rfl, hd⟩ := szT_some hsz
      rw [hi] at hi'; cases hi'
      have hby' : i.bytes = by_ := by simpa [byT, hi] using hby
      have hw : IntKind.i64.wrap l = l := by simp only [IntKind.wrap_i64]; omega
      have hnb : ¬ (281474976710656 < (i.bytes : Int) * l) := by rw [hby']; omega
      have hzc : z.cells.size = i.size := by rw [cells_size, hsi]
      have hrc := range_cells z.cells (l.toNat * i.size) (if l.toNat * i.size = 0 then #[] else z.cells) l.toNat (by rw [hzc]) (fun h => if_neg h)
      refine ⟨.slice (some ⟨w.heap.size, 0, none⟩) l.toNat l.toNat, w.alloc (.cells ((Array.range (l.toNat * i.size)).map fun j => (if l.toNat * i.size = 0 then #[] else z.cells)[j % (if l.toNat * i.size = 0 then (#[] : Array Value) else z.cells).size]!) e), ρ ++ [⟨w.heap.size, 0, l.toNat * i.size, e⟩], ?_, ⟨_, rfl⟩, ?_, ?_, below_push hB rfl⟩
      · have hl0 : ¬ l < 0 := by omega
        by_cases h0 : l.toNat * i.size = 0
        · simp [Instr.makeSlice, run_underlying hu, asInt, asIntOf, typeInfo, hi, hw, hl0, hnb, sizeOf, h0, newRow]
        · simp [Instr.makeSlice, run_underlying hu, asInt, asIntOf, typeInfo, hi, hw, hl0, hnb, sizeOf, h0, newRow, zeroValue, hiz]
      · have := new_snd s hB ((Array.range (l.toNat * i.size)).map fun j => (if l.toNat * i.size = 0 then #[] else z.cells)[j % (if l.toNat * i.size = 0 then (#[] : Array Value) else z.cells).size]!) e (List.replicate l.toNat (cellsOf z)).flatten ?_
        · simpa using this
        · intro j v hv
          obtain ⟨v', q1, q2⟩ := rel_get (rep_VR (VR.plainV (P := P) (ro := ro) (ρ := ρ) hpl).cells l.toNat) (rep_one _ _ hon) j v hv
          refine ⟨v', ?_, q2⟩
          rw [← Array.getElem?_toList, hrc, cells_toList]
          exact q1
      · have := VR.slc (P := P) (ro := ro) h.length 0 _ l.toNat l.toNat l.toNat (last_loc s (⟨w.heap.size, 0, l.toNat * i.size, e⟩ : Loc)) (Nat.le_refl _) (fun _ => rfl) (by
          intro _ sz' hsz'
          rw [hsz] at hsz'; cases hsz'
          simp)
        simpa using this
    · cases hm
  · cases hm
end Go.Proofs.Yteignhphimfmkaa.Sim
