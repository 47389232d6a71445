/- Arguments that are slices: from the row's reading to the abstract machine's blocks, which are read only. Lemmas only; no condition. -/
import Derived.Test.YteignhphimfmkaaSimR
import Derived.Test.YteignhphimfmkaaSimZ
import Derived.Deep.Slices
import Derived.ChangeArms
import Derived.ChangeMaps5
import Derived.Carry
import Derived.SizedLaws
set_option linter.unusedSimpArgs false
set_option linter.unusedVariables false
namespace Go.Proofs.Yteignhphimfmkaa.Sim
open Go Go.RowKit Go.ChangeShapes Go.WideShapes Go.Deep
/-- An argument's cells: where they lie and what they hold. -/
structure AS where
  g : Nat
  s : Nat
  L : List Value
def locOf (a : AS) : Loc := ⟨a.g, a.s, a.L.length, 0⟩
def argH (as : List AS) : Heap := as.map fun a => ⟨0, a.L⟩
def argR (as : List AS) : List Loc := as.map locOf
def argOk (w : World) (a : AS) : Prop := a.L ≠ [] → ∃ C ty fr, w.heap[a.g]? = some (.cells C ty fr) ∧ ∀ i v, a.L[i]? = some v → C[a.s + i]? = some v ∧ rigid v = true
theorem vr_rigid {P : Program} {ro : Nat} {ρ : List Loc} {v : Value} (h : rigid v = true) : VR P ro ρ v v ∧ Sim.one v = true := by
  cases v <;> simp only [rigid, Bool.false_eq_true] at h
  · exact ⟨.bool _, rfl⟩
  · exact ⟨.int _ _, rfl⟩
  · exact ⟨.str _, rfl⟩
theorem SR_args {P : Program} {w : World} (bs : List AS) (h : ∀ a ∈ bs, argOk w a) : SR P bs.length (baseOf w) (argR bs) (argH bs) w := by
  have hlt : ∀ (b : Nat) (L : Loc), (argR bs)[b]? = some L → b < bs.length := by
    intro b L hb
    rcases Nat.lt_or_ge b bs.length with q | q
    · exact q
    · rw [argR, List.getElem?_map, List.getElem?_eq_none q] at hb; cases hb
  refine ⟨by simp [argR, argH], fun b L Bk h1 h2 h3 => ?_, fun b L Bk h1 h2 h3 => ?_, fun b b' L L' Bk Bk' _ h0 h1 _ _ _ _ _ => ?_, fun _ _ => rfl⟩
  · exact absurd (hlt b L h1) (by omega)
  · have hb := hlt b L h1
    simp only [argR, argH, List.getElem?_map, List.getElem?_eq_getElem hb, Option.map_some, Option.some.injEq] at h1 h2
    subst h1
    subst h2
    obtain ⟨C, ty, fr, hc, hi⟩ := h bs[b] (List.getElem_mem hb) h3
    refine ⟨C, ty, fr, hc, fun i v hv => ?_, fun q => absurd hb (by omega)⟩
    obtain ⟨h4, h5⟩ := hi i v hv
    exact ⟨v, h4, vr_rigid h5⟩
  · exact absurd (hlt b L h1) (by omega)
section
variable {H : Type} {enc : TypeId × Value → H} {P : Program} {w : World} {base : Nat} {spare : Nat → Bool} {held : Bool}
/-- Types all of whose cells are whole numbers of one kind. -/
def allI (P : Program) (k : IntKind) : Nat → TypeId → Bool
  | 0, _ => false
  | n + 1, t =>
    match P.underlying t with
    | some (.int k') => k' == k
    | some (.struct fs) => (fs.toList.all fun f => allI P k n f.type) && (List.range (P.cellsOf t)).all fun j => fs.toList.any fun f => decide (f.offset ≤ j) && decide (j < f.offset + P.cellsOf f.type)
    | _ => false
theorem allI_trod {k : IntKind} : ∀ {m : Nat} {t : TypeId}, allI P k m t = true → ∀ {fuel : Nat} {cs : List Value} {x : DataW H × List MemPlace}, DataW.trod enc P w base spare held fuel t cs = some x → ∀ (j : Nat) (v : Value), cs[j]? = some v → ∃ n, v = .int k n
  | 0, _, a, _, _, _, _ => by simp only [allI] at a; cases a
  | m + 1, t, a, fuel, cs, x, h => by
    intro j v hv
    unfold allI at a
    split at a
    · rename_i k' hu
      have hk : k' = k := by simpa using a
      subst hk
      obtain ⟨n, rfl, _, _⟩ := DataW.trod_int hu h
      match j, hv with
      | 0, hv => simp only [List.getElem?_cons_zero, Option.some.injEq] at hv; exact ⟨n, hv.symm⟩
      | j + 1, hv => simp at hv
    · rename_i fs hu
      simp only [Bool.and_eq_true, List.all_eq_true, List.any_eq_true, List.mem_range, decide_eq_true_eq] at a
      obtain ⟨xs, n, _, _, hl, hxl, hg⟩ := DataW.trod_struct hu h
      have hj : j < cs.length := by
        rcases Nat.lt_or_ge j cs.length with q | q
        · exact q
        · rw [List.getElem?_eq_none q] at hv; cases hv
      obtain ⟨f, hf, h2, h3⟩ := a.2 j (by omega)
      obtain ⟨i, hi0, hi1⟩ := List.mem_iff_getElem.1 hf
      have h1 : fs[i]? = some f := by
        rw [← Array.getElem?_toList, List.getElem?_eq_getElem hi0, hi1]
      have hi : i < xs.length := by rw [hxl, ← Array.length_toList]; exact hi0
      have h4 := hg i f h1
      rw [List.getElem?_eq_getElem hi] at h4
      refine allI_trod (a.1 f hf) h4 (j - f.offset) v ?_
      rw [List.getElem?_take, if_pos (by omega), List.getElem?_drop, show f.offset + (j - f.offset) = j by omega]
      exact hv
    · cases a
end
/-- An argument that is a slice, as the abstract machine has it. -/
structure ArgS (P : Program) (w : World) (v : Value) (n : Nat) (L : List Value) (as : AS) (x : Nat → Value) : Prop where
  cells : as.L = L
  ok : argOk w as
  vr : ∀ (ro : Nat) (ρ : List Loc) (b : Nat), ρ[b]? = some (locOf as) → b < ro → VR P ro ρ (x b) v
  form : (n = 0 ∧ ∀ b, x b = .slice none 0 0) ∨ ∀ b, x b = .slice (some ⟨b, 0, none⟩) n (n + 1)
theorem ArgS.is {P : Program} {w : World} {v : Value} {n k : Nat} {l : List Int} {as : AS} {x : Nat → Value} (a : ArgS P w v n (vints l) as x) (hl : l.length = n * k) {h : Heap} {b : Nat} (hb : h[b]? = some ⟨0, as.L⟩) : IS b (b + 1) k h (x b) n l := by
  refine ⟨hl, ?_⟩
  rcases a.form with ⟨h0, hx⟩ | hx
  · exact .inl ⟨h0, hx b⟩
  · rw [a.cells] at hb
    exact .inr ⟨b, 0, n + 1, _, hx b, Nat.le_refl _, by omega, hb, by simp only [vints_len]; omega, fun j hj => by rw [Nat.zero_add]; exact nth_vints (by omega)⟩
section
variable {H : Type} {enc : TypeId × Value → H} {P : Program} {w : World} {base : Nat} {spare : Nat → Bool} {held : Bool}
theorem add_zero' (a : Addr) : a.add 0 = a := by simp [Addr.add]
theorem add_off (a : Addr) (n : Nat) : (a.add n).block = a.block ∧ (a.add n).off = a.off + n := by
  unfold Addr.add
  split
  · rename_i h; subst h; exact ⟨rfl, rfl⟩
  · exact ⟨rfl, rfl⟩
theorem cell_heap {a : Addr} {v : Value} (h : w.cell? a = some v) : ∃ C ty fr, w.heap[a.block]? = some (.cells C ty fr) ∧ C[a.off]? = some v ∧ a.spot = none := by
  unfold World.cell? at h
  split at h
  · rename_i c ty fr hc
    split at h
    · cases h
    · rename_i hs
      exact ⟨c, ty, fr, hc, h, by cases hh : a.spot with | none => rfl | some q => rw [hh] at hs; simp at hs⟩
  · cases h
/-- A slice whose elements are cells of some kind, opened. -/
theorem arg_slice {t e : TypeId} {r : Reach} {b0 k : Nat} {v : Value} {d : DataW H} {ps : List MemPlace} (hu : P.underlying t = some (.slice e)) (hk : P.cellsOf e = k) (hk0 : 0 < k) (Leaf : Value → Prop) (hleaf : ∀ v, Leaf v → rigid v = true)
    (hl : ∀ (fuel : Nat) (cs : List Value) (x : DataW H × List MemPlace), DataW.trod enc P w 0 (fun _ => true) held fuel e cs = some x → ∀ (j : Nat) (v : Value), cs[j]? = some v → Leaf v)
    (hval : Value.okWide P w r b0 t v) (h : DataW.Trod enc P w 0 (fun _ => true) held t v d ps) :
    ∃ (n : Nat) (L : List Value) (as : AS) (x : Nat → Value), ArgS P w v n L as x ∧ L.length = n * k ∧ (∀ v ∈ L, Leaf v) ∧ (n = 0 ∨ ∃ elems sp, d = .slice elems sp ∧ elems.length = n) := by
  obtain ⟨a0, len0, cap0, rfl⟩ := okWide_slice hu hval
  obtain ⟨fuel, hf⟩ := h
  rcases open_slice hu hf with ⟨hcs, hx⟩ | ⟨a, len, cap, m, n, D, Pl, hcs, _, hlc, hm, hmm, hx, hi⟩
  · simp only [Value.cells, List.cons.injEq, and_true] at hcs
    rw [hcs]
    refine ⟨0, [], ⟨0, 0, []⟩, fun _ => .slice none 0 0, ⟨rfl, fun q => absurd rfl q, fun _ _ _ _ _ => .snil, .inl ⟨rfl, fun _ => rfl⟩⟩, by simp, by simp, .inl rfl⟩
  · simp only [Value.cells, List.cons.injEq, and_true] at hcs
    rw [hcs]
    simp only [if_true] at hmm
    subst hmm
    -- all cells
    have hcell : ∀ j, j < len * k → ∃ v, w.cell? (a.add j) = some v ∧ Leaf v := by
      intro j hj
      have hq : j / k < len := Nat.div_lt_of_lt_mul (by rw [Nat.mul_comm]; exact hj)
      obtain ⟨cs', h1, h2⟩ := hi (j / k) (by omega)
      rw [hk] at h1
      obtain ⟨_, hlen, hat⟩ := World.cells?_some h1
      have hr : j % k < k := Nat.mod_lt _ hk0
      have h3 := hat (j % k) hr
      have h4 : cs'[j % k]? = some (cs'[j % k]'(by omega)) := List.getElem?_eq_getElem (by omega)
      refine ⟨cs'[j % k]'(by omega), ?_, hl _ _ _ h2 _ _ h4⟩
      have e : (a.add (j / k * k)).add (j % k) = a.add j := by
        rw [Go.Deep.add_add]
        congr 1
        rw [Nat.mul_comm]; exact Nat.div_add_mod j k
      rw [← e, h3, h4]
    obtain ⟨V, hV⟩ := choose_lt (α := Value) (p := fun j v => w.cell? (a.add j) = some v ∧ Leaf v) hcell
    have hget : ∀ (j : Nat) (v : Value), ((List.range (len * k)).map V)[j]? = some v → j < len * k ∧ v = V j := by
      intro j v hv
      rw [List.getElem?_map] at hv
      rcases Nat.lt_or_ge j (len * k) with q | q
      · rw [List.getElem?_range q] at hv; simp at hv; exact ⟨q, hv.symm⟩
      · rw [List.getElem?_eq_none (by simpa using q)] at hv; cases hv
    refine ⟨len, (List.range (len * k)).map V, ⟨a.block, a.off, (List.range (len * k)).map V⟩, fun b => .slice (some ⟨b, 0, none⟩) len (len + 1), ⟨rfl, ?_, ?_, .inr fun _ => rfl⟩, by simp, ?_, .inr ⟨_, _, by simp only [Prod.mk.injEq] at hx; exact hx.1, by simp⟩⟩
    · intro hne
      have h0 : 0 < len * k := by
        rcases Nat.eq_zero_or_pos (len * k) with q | q
        · exfalso; apply hne; simp [q]
        · exact q
      have h1 := (hV 0 h0).1
      rw [add_zero'] at h1
      obtain ⟨C, ty, fr, hC, _, _⟩ := cell_heap h1
      refine ⟨C, ty, fr, hC, fun j v hv => ?_⟩
      obtain ⟨hj, rfl⟩ := hget j v hv
      obtain ⟨h2, h3⟩ := hV j hj
      obtain ⟨C', ty', fr', hC', hc', _⟩ := cell_heap h2
      rw [(add_off a j).1, hC] at hC'
      cases hC'
      rw [(add_off a j).2] at hc'
      exact ⟨hc', hleaf _ h3⟩
    · intro ro ρ b hb hro
      by_cases hc0 : m = 0
      · have : len = 0 := by omega
        subst this
        subst hc0
        exact .slz b 0 _ a _ hb
      · have hs : a.spot = none := by
          obtain ⟨cs', h1, _⟩ := hi 0 (by omega)
          rw [hk, Nat.zero_mul, add_zero'] at h1
          obtain ⟨_, hlen, hat⟩ := World.cells?_some h1
          have h3 := hat 0 hk0
          rw [add_zero', List.getElem?_eq_getElem (by omega)] at h3
          exact (cell_heap h3).choose_spec.choose_spec.choose_spec.2.2
        have := VR.slc (P := P) (ro := ro) (ρ := ρ) b 0 (locOf ⟨a.block, a.off, (List.range (len * k)).map V⟩) len (len + 1) m hb hlc (by omega) (by omega)
        have e : a = ⟨a.block, a.off + 0, none⟩ := by cases a; simp_all
        rw [e]
        exact this
    · intro v hv
      obtain ⟨j, hj, rfl⟩ := List.mem_map.1 hv
      exact (hV j (List.mem_range.1 hj)).2
theorem ints_of {L : List Value} (h : ∀ v ∈ L, ∃ n, v = .int .i64 n) : ∃ l, L = vints l := by
  induction L with
  | nil => exact ⟨[], rfl⟩
  | cons v r ih =>
    obtain ⟨n, rfl⟩ := h _ (List.mem_cons_self ..)
    obtain ⟨l, rfl⟩ := ih fun v hv => h v (List.mem_cons_of_mem _ hv)
    exact ⟨n :: l, rfl⟩
theorem arg_ints {t e : TypeId} {r : Reach} {b0 k : Nat} {v : Value} {d : DataW H} {ps : List MemPlace} (hu : P.underlying t = some (.slice e)) (hk : P.cellsOf e = k) (hk0 : 0 < k) (ha : allI P .i64 5 e = true)
    (hval : Value.okWide P w r b0 t v) (h : DataW.Trod enc P w 0 (fun _ => true) held t v d ps) :
    ∃ (n : Nat) (l : List Int) (as : AS) (x : Nat → Value), ArgS P w v n (vints l) as x ∧ l.length = n * k ∧ (n = 0 ∨ ∃ elems sp, d = .slice elems sp ∧ elems.length = n) := by
  obtain ⟨n, L, as, x, h1, h2, h3, h4⟩ := arg_slice hu hk hk0 (fun v => ∃ n, v = .int .i64 n) (fun v ⟨n, h⟩ => by rw [h]; rfl) (fun fuel cs x h => allI_trod ha h) hval h
  obtain ⟨l, rfl⟩ := ints_of h3
  exact ⟨n, l, as, x, h1, by rw [← h2, vints_len], h4⟩
end
theorem arg_size {H : Type} {P : Program} {ts : List TypeId} {ds : List (DataW H)} (hsz : (DataW.weightsEach P ts ds).all (· ≤ reachBytes) = true) {j : Nat} {t e : TypeId} {d : DataW H} {n by_ : Nat} (ht : ts[j]? = some t) (hd : ds[j]? = some d) (hu : P.underlying t = some (.slice e)) (hb : P.bytesOf e = by_) (h1 : 0 < by_) (h : n = 0 ∨ ∃ elems sp, d = .slice elems sp ∧ elems.length = n) : n ≤ 140737488351232 := by
  rcases h with rfl | ⟨el, sp, rfl, rfl⟩
  · omega
  · have z := sized_slice hsz ht hd hu
    rw [hb] at z
    have : el.length * 1 ≤ (el.length + sp.length) * by_ := Nat.mul_le_mul (by omega) h1
    have e : reachBytes = 140737488351232 := by decide
    omega
end Go.Proofs.Yteignhphimfmkaa.Sim
