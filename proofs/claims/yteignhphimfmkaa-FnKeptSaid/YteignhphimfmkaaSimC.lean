/- That loads, stores, new blocks and appends of the abstract machine stand for those of the model. Lemmas only; no condition. -/
import Derived.Test.YteignhphimfmkaaSimB
import Derived.Laws.Append
import Derived.Laws.AppendOwn
import Derived.Laws.CopyRow
import Derived.Laws.Tables
import Derived.Lib.AppendStr
namespace Go.Proofs.Yteignhphimfmkaa.Sim
open Go Go.RowKit

variable {P : Program} {ro : Nat} {B : Base}

theorem szT_some {t : TypeId} {n : Nat} (h : szT P t = some n) : ∃ i d, P.info? t = some i ∧ i.size = n ∧ P.underlying t = some d := by
  unfold szT at h
  split at h
  · rename_i hs
    obtain ⟨d, hd⟩ := Option.isSome_iff_exists.1 hs
    simp only [Option.map_eq_some_iff] at h
    obtain ⟨i, hi, hn⟩ := h
    exact ⟨i, d, hi, hn, hd⟩
  · cases h
theorem run_sizeOf' {t : TypeId} {i : TypeInfo} (h : P.info? t = some i) (w : World) : (sizeOf t).run P w = .ok i.size w := by simp [sizeOf, typeInfo, h]
theorem run_isAgg' {t : TypeId} {d : TypeDesc} (h : P.underlying t = some d) (w : World) : (isAgg t).run P w = .ok (aggT P t) w := by
  unfold isAgg aggT
  rw [h]
  cases d <;> simp [run_underlying h]
theorem cell_at {w : World} {g : Nat} {C : Array Value} {ty : TypeId} {fr : Nat × Nat} (h : w.heap[g]? = some (.cells C ty fr)) (o : Nat) : w.cell? ⟨g, o, none⟩ = C[o]? := by
  simp [World.cell?, h]
theorem add_lit (b o n : Nat) : Addr.add ⟨b, o, none⟩ n = ⟨b, o + n, none⟩ := Addr.add_lit b o n

/-- The cells that an abstract range stands for. -/
theorem SR.range {ρ : List Loc} {h : Heap} {w : World} (s : SR P ro B ρ h w) {b o n : Nat} {L : Loc} {Bk : Blk} (hL : ρ[b]? = some L) (hb : h[b]? = some Bk) (hn : o + n ≤ Bk.cells.length) (h0 : 0 < n) :
    ∃ cs, cs.length = n ∧ VRs P ro ρ ((Bk.cells.drop o).take n) cs ∧ (∀ j u, cs[j]? = some u → w.cell? ⟨L.g, L.s + o + j, none⟩ = some u) ∧ cs.all one = true := by
  obtain ⟨C, ty, fr, hc, hk, _⟩ := s.blk b L Bk hL hb (by intro e; rw [e] at hn; simp at hn; omega)
  refine ⟨(List.range n).map fun j => (C[L.s + o + j]?).getD undef, by simp, ?_, ?_, ?_⟩
  · refine VRs.of_get (by simp; omega) fun i v v' hv hv' => ?_
    have hi : i < n := by
      rcases Nat.lt_or_ge i n with q | q
      · exact q
      · rw [List.getElem?_eq_none (by simp; omega)] at hv; cases hv
    rw [List.getElem?_take_of_lt hi, List.getElem?_drop] at hv
    obtain ⟨u, hu, hr, _⟩ := hk _ _ hv
    simp only [List.getElem?_map, List.getElem?_range hi, Option.map_some, Option.some.injEq] at hv'
    rw [← Nat.add_assoc] at hu
    rw [hu] at hv'
    simp at hv'
    subst hv'
    exact hr
  · intro j u hu
    have hj : j < n := by
      rcases Nat.lt_or_ge j n with q | q
      · exact q
      · rw [List.getElem?_eq_none (by simp; omega)] at hu; cases hu
    obtain ⟨u', hu', _, _⟩ := hk (o + j) (Bk.cells[o + j]'(by omega)) (List.getElem?_eq_getElem (by omega))
    simp only [List.getElem?_map, List.getElem?_range hj, Option.map_some, Option.some.injEq] at hu
    rw [cell_at hc]
    rw [← Nat.add_assoc] at hu'
    rw [hu'] at hu ⊢
    simpa using hu
  · simp only [List.all_map, List.all_eq_true, List.mem_range, Function.comp]
    intro j hj
    obtain ⟨u', hu', _, h1⟩ := hk (o + j) (Bk.cells[o + j]'(by omega)) (List.getElem?_eq_getElem (by omega))
    rw [← Nat.add_assoc] at hu'
    rw [hu']
    simpa using h1

theorem ld_snd {ρ : List Loc} {h : Heap} {w : World} (s : SR P ro B ρ h w) {t : TypeId} {a a' v : Value} (hl : ld P h t a = some v) (ha : VR P ro ρ a a') :
    ∃ v', (Instr.loadAt t a').run P w = .ok v' w ∧ VR P ro ρ v v' := by
  cases ha <;> simp only [ld] at hl <;> try (cases hl; done)
  rename_i b o L hL
  simp only [Option.bind_eq_some_iff] at hl
  obtain ⟨Bk, hb, n, hn, hl⟩ := hl
  obtain ⟨i, d, hi, rfl, hd⟩ := szT_some hn
  have hag := run_isAgg' hd w
  cases hA : aggT P t with
  | true =>
    rw [hA] at hl hag
    simp only [if_true] at hl
    split at hl
    · rename_i hle
      cases hl
      by_cases h0 : i.size = 0
      · refine ⟨.agg #[], ?_, ?_⟩
        · simp [Instr.loadAt, Instr.sureAddr, loadVar, hag, sizeOf, typeInfo, hi, h0, loadCells, loadCellsFrom]
        · rw [h0]; exact .agg [] [] .nil
      · obtain ⟨cs, c1, c2, c3, _⟩ := s.range hL hb hle (by omega)
        refine ⟨.agg ⟨cs⟩, ?_, .agg _ _ c2⟩
        have hr := run_loadCells_list (P := P) (w := w) ⟨L.g, L.s + o, none⟩ cs (by intro j v hv; rw [add_lit]; exact c3 j v hv)
        rw [c1] at hr
        simp [Instr.loadAt, Instr.sureAddr, loadVar, hag, sizeOf, typeInfo, hi, hr]
    · cases hl
  | false =>
    rw [hA] at hl hag
    simp only [Bool.false_eq_true, if_false] at hl
    obtain ⟨C, ty, fr, hc, hk, _⟩ := s.blk b L Bk hL hb (by intro e; rw [e] at hl; simp at hl)
    obtain ⟨v', q1, q2, _⟩ := hk _ _ hl
    refine ⟨v', ?_, q2⟩
    have : w.cell? ⟨L.g, L.s + o, none⟩ = some v' := by rw [cell_at hc]; exact q1
    simp [Instr.loadAt, Instr.sureAddr, loadVar, hag, this]

theorem cells_toList (v : Value) : v.cells.toList = cellsOf v := by cases v <;> rfl
theorem cells_size (v : Value) : v.cells.size = (cellsOf v).length := by rw [← cells_toList]; simp

/-- Cells of an owned block are written. -/
theorem SR.put {ρ : List Loc} {h : Heap} {w : World} (s : SR P ro B ρ h w) {b : Nat} {L : Loc} {Bk : Blk} (hL : ρ[b]? = some L) (hb : h[b]? = some Bk) (hne : Bk.cells ≠ []) (hro : ro ≤ b)
    (C' : Array Value) (cs' : List Value) (hsz : ∀ C ty fr, w.heap[L.g]? = some (.cells C ty fr) → C'.size = C.size)
    (hc : ∀ (i : Nat) (v : Value), cs'[i]? = some v → ∃ v', C'[i]? = some v' ∧ VR P ro ρ v v' ∧ one v' = true) : SR P ro B ρ (h.set b ⟨Bk.ty, cs'⟩) (w.setRow L.g C') := by
  obtain ⟨C, ty, fr, k1, k2, k3⟩ := s.blk b L Bk hL hb hne
  obtain ⟨e1, rfl, rfl, e4, e5, e6⟩ := k3 hro
  have hrow := setRow_heap w L.g C C' _ _ k1
  have hbl : b < h.length := by
    rcases Nat.lt_or_ge b h.length with q | q
    · exact q
    · rw [List.getElem?_eq_none q] at hb; cases hb
  refine ⟨by simpa using s.len, ?_, ?_, ?_, fun k hk => by rw [setRow_other _ _ _ _ (by have := B.le; omega)]; exact s.glob k hk⟩
  · intro b2 L2 Bk2 h1 h2 hro2
    by_cases hbb : b2 = b
    · subst hbb
      rw [h1] at hL; cases hL
      rw [List.getElem?_set_self hbl] at h2
      cases h2
      exact e1
    · rw [List.getElem?_set_ne (Ne.symm hbb)] at h2
      exact s.ty b2 L2 Bk2 h1 h2 hro2
  · intro b2 L2 Bk2 h1 h2 h3
    by_cases hbb : b2 = b
    · subst hbb
      rw [h1] at hL; cases hL
      rw [List.getElem?_set_self hbl] at h2
      cases h2
      exact ⟨C', Bk.ty, (0, 0), hrow, by rw [e5]; simpa using hc, fun _ => ⟨e1, rfl, rfl, e4, e5, by rw [e6, hsz C _ _ k1]⟩⟩
    · rw [List.getElem?_set_ne (Ne.symm hbb)] at h2
      have hg := s.apart b b2 L L2 Bk Bk2 (Ne.symm hbb) hro hL h1 hb h2 hne h3
      rw [setRow_other _ _ _ _ (Ne.symm hg)]
      exact s.blk b2 L2 Bk2 h1 h2 h3
  · intro b1 b2 L1 L2 Bk1 Bk2 hne' hro' h1 h1' h2 h2' h3 h3'
    have fix : ∀ (b' : Nat) (Bk' : Blk), (h.set b ⟨Bk.ty, cs'⟩)[b']? = some Bk' → Bk'.cells ≠ [] → ∃ Bk'', h[b']? = some Bk'' ∧ Bk''.cells ≠ [] := by
      intro b' Bk' q1 q2
      by_cases e : b' = b
      · subst e; exact ⟨Bk, hb, hne⟩
      · rw [List.getElem?_set_ne (Ne.symm e)] at q1; exact ⟨Bk', q1, q2⟩
    obtain ⟨X1, x1, x2⟩ := fix b1 Bk1 h2 h3
    obtain ⟨X2, y1, y2⟩ := fix b2 Bk2 h2' h3'
    exact s.apart b1 b2 L1 L2 X1 X2 hne' hro' h1 h1' x1 y1 x2 y2

theorem splice_get (cs : List Value) (o : Nat) (vs : List Value) (h : o + vs.length ≤ cs.length) (i : Nat) :
    (splice cs o vs)[i]? = if i < o then cs[i]? else if i < o + vs.length then vs[i - o]? else cs[i]? := by
  unfold splice
  have hto : (cs.take o).length = o := by simp; omega
  by_cases h1 : i < o
  · rw [if_pos h1, List.append_assoc, List.getElem?_append_left (by omega), List.getElem?_take_of_lt h1]
  · rw [if_neg h1]
    by_cases h2 : i < o + vs.length
    · rw [if_pos h2, List.getElem?_append_left (by simp; omega), List.getElem?_append_right (by omega), hto]
    · rw [if_neg h2, List.getElem?_append_right (by simp; omega), List.getElem?_drop]
      congr 1
      simp
      omega
theorem splice_len (cs : List Value) (o : Nat) (vs : List Value) (h : o + vs.length ≤ cs.length) : (splice cs o vs).length = cs.length := by
  unfold splice; simp; omega

theorem stv_snd {ρ : List Loc} {h h' : Heap} {w : World} (s : SR P ro B ρ h w) {t : TypeId} {a a' x x' : Value} (hs : stv P ro h t a x = some h') (ha : VR P ro ρ a a') (hx : VR P ro ρ x x') :
    ∃ w', (Instr.storeAt t a' x').run P w = .ok () w' ∧ SR P ro B ρ h' w' ∧ Below B.n w w' := by
  cases ha <;> simp only [stv] at hs <;> try (cases hs; done)
  rename_i b o L hL
  split at hs
  · rename_i hro
    simp only [Option.bind_eq_some_iff] at hs
    obtain ⟨Bk, hb, hs⟩ := hs
    split at hs
    · rename_i hc
      obtain ⟨c1, c2, c3⟩ := hc
      cases hs
      obtain ⟨i, d, hi, hsz, hd⟩ := szT_some c1
      have hcx := hx.cells
      have hlen := hcx.len
      by_cases hne : Bk.cells = []
      · -- nothing to be stored
        have h0 : cellsOf x = [] := by rw [hne, List.length_nil] at c2; exact List.eq_nil_of_length_eq_zero (by omega)
        have h0' : cellsOf x' = [] := List.eq_nil_of_length_eq_zero (by rw [← hlen, h0]; rfl)
        refine ⟨w, ?_, ?_, Below.refl _ _⟩
        · simp [Instr.storeAt, Instr.sureAddr, storeVar, sizeOf, typeInfo, hi, cells_size, cells_toList, h0', hsz, h0, storeCells]
        · rw [h0]
          have e : (⟨Bk.ty, splice Bk.cells o []⟩ : Blk) = Bk := by cases Bk; simp [splice]
          rw [e]
          have hbl : b < h.length := by
            rcases Nat.lt_or_ge b h.length with q | q
            · exact q
            · rw [List.getElem?_eq_none q] at hb; cases hb
          have : h.set b Bk = h := by
            have hg : h[b] = Bk := by rw [List.getElem?_eq_getElem hbl] at hb; exact Option.some.inj hb
            rw [← hg]; exact List.set_getElem_self hbl
          rw [this]; exact s
      · obtain ⟨C, ty, fr, k1, k2, k3⟩ := s.blk b L Bk hL hb hne
        obtain ⟨e1, rfl, rfl, e4, e5, e6⟩ := k3 hro
        have hCl : Bk.cells.length ≤ C.size := by
          rcases Nat.lt_or_ge C.size Bk.cells.length with q | q
          · obtain ⟨v', q1, _⟩ := k2 C.size (Bk.cells[C.size]) (List.getElem?_eq_getElem q)
            rw [Array.getElem?_eq_none (by omega)] at q1; cases q1
          · exact q
        have hfit : L.s + o + 0 + (cellsOf x').length ≤ C.size := by rw [← hlen, e5]; omega
        have hst := run_storeCells_at P L.g (L.s + o) Bk.ty (cellsOf x') 0 C w k1 hfit (by
          have := hcx.one; rw [c3] at this; intro v hv; exact List.all_eq_true.1 this v hv)
        simp only [Nat.add_zero] at hst
        refine ⟨w.setRow L.g (C.toList.take (L.s + o) ++ cellsOf x' ++ C.toList.drop (L.s + o + (cellsOf x').length)).toArray, ?_, s.put hL hb hne hro _ _ ?_ ?_, ?_⟩
        · simp [Instr.storeAt, Instr.sureAddr, storeVar, sizeOf, typeInfo, hi, cells_size, cells_toList, hsz, hlen, hst]
        · intro C2 ty2 fr2 h2
          rw [k1] at h2; cases h2
          simp; omega
        · intro i v hv
          rw [splice_get _ _ _ c2] at hv
          have hC : ∀ j : Nat, ((C.toList.take (L.s + o) ++ cellsOf x' ++ C.toList.drop (L.s + o + (cellsOf x').length)).toArray)[j]? = (splice C.toList (L.s + o) (cellsOf x'))[j]? := fun j => by simp [splice]
          rw [hC, splice_get _ _ _ (by simp; omega)]
          rw [e5] at k2 ⊢
          simp only [Nat.zero_add, ← hlen] at k2 ⊢
          split at hv
          · rename_i hlt; simpa [hlt] using k2 i v hv
          · rename_i hlt
            split at hv
            · rename_i hlt2
              obtain ⟨v', q1, q2⟩ := hcx.get hv
              rw [if_neg hlt, if_pos hlt2]
              refine ⟨v', q1, q2, ?_⟩
              have := hcx.one; rw [c3] at this
              exact List.all_eq_true.1 this v' (List.mem_of_getElem? q1)
            · rename_i hlt2; simpa [hlt, hlt2] using k2 i v hv
        · exact (Below.refl B.n w).trans ⟨rfl, rfl, rfl, by simp [World.setRow], fun k hk => setRow_other w L.g k _ (by omega)⟩
    · cases hs
  · cases hs
end Go.Proofs.Yteignhphimfmkaa.Sim
