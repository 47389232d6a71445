/- The builder of texts: what its functions do. Lemmas only; no condition. -/
import Derived.Test.YtikanmboimjhgaaDoorDra
import Derived.WalkKit
import Derived.Lib.UnsafeStr
import Derived.Lib.Builder
import Derived.Laws.Externs
set_option linter.unusedSimpArgs false
set_option linter.unusedVariables false
namespace Go.Proofs.YtikanmboimjhgaaDoor.Sim
open Go Go.RowKit
set_option maxHeartbeats 2000000 in
set_option maxRecDepth 100000 in
theorem bString_row (b g cap : Nat) (l : List UInt8) (cur : Array Value) (ty : TypeId) (fz : Nat × Nat) (w : World) (hbk : w.cell? ⟨b, 1, none⟩ = some (.slice (some ⟨g, 0, none⟩) l.length cap)) (hg : w.heap[g]? = some (.cells cur 5 fz))
    (h0 : l ≠ []) (hn : l.length ≤ cap) (hc : l.length ≤ cur.size) (h63 : l.length ≤ 9223372036854775807) (hcell : ∀ j x, l[j]? = some x → w.cell? ((⟨g, 0, none⟩ : Addr).add j) = some (.int .u8 x.toNat)) :
    Calls Tryd.prog 19 #[.pointer (some ⟨b, 0, none⟩)] w fun e w' => e = .returned (.string ⟨l.toArray⟩) ∧ w' = w.drew.freeze ⟨g, 0, none⟩ l.length := by
  have hl0 : l.length ≠ 0 := by simpa using h0
  have c1 : w.drew.cell? ⟨b, 1, none⟩ = some (.slice (some ⟨g, 0, none⟩) l.length cap) := by
    exact hbk
  have hSD : ∀ ts t, (Builtin.unsafeSliceData_ ts t #[.slice (some ⟨g, 0, none⟩) l.length cap]).run Tryd.prog w.drew = .ok (.pointer (some ⟨g, 0, none⟩)) w.drew := fun ts t => Lib.run_unsafeSliceData_row w.drew ts t _ _ _ (by omega)
  have hUS : ∀ it t, (Builtin.unsafeString_ #[73, it] t #[.pointer (some ⟨g, 0, none⟩), .int .i64 l.length]).run Tryd.prog w.drew = .ok (.string ⟨l.toArray⟩) (w.drew.freeze ⟨g, 0, none⟩ l.length) := fun it t => Lib.run_unsafeString_row w.drew _ _ _ 5 Tryd.underlying73 (by kernel_rfl) g cur.size (by have hg' : w.drew.heap[g]? = some (.cells cur 5 fz) := hg; simp [World.shape?, hg']) l h0 hc h63 hcell
  have mixed := mixed
  go_enter Tryd.func19, Tryd.ntmps19
  go_wp2
  go_region_o
  all_goals (go_wp2; go_ret; exact ⟨rfl, rfl⟩)
theorem bInfo : ∃ j, Tryd.prog.info? 45 = some j ∧ j.size = 2 := ⟨_, rfl, by kernel_rfl⟩
set_option maxHeartbeats 1000000 in
set_option maxRecDepth 100000 in
theorem bCheck_used (b : Nat) (w : World) (h0 : w.cell? ⟨b, 0, none⟩ = some (.pointer (some ⟨b, 0, none⟩))) :
    Calls Tryd.prog 30 #[.pointer (some ⟨b, 0, none⟩)] w fun e w' => e = .returned (.tuple #[]) ∧ w' = w := by
  obtain ⟨j, hj, _⟩ := bInfo
  go_enter Tryd.func30, Tryd.ntmps30
  go_wp2
  rw [Lib.run_neq_ptr_same w _ Tryd.underlying43 hj]
  go_wp2
  go_end0
  exact ⟨rfl, rfl⟩
theorem bCells : Tryd.prog.cellsOf 45 = 2 := by kernel_rfl
theorem lies_one {P : Program} {e : TypeId} (hc : P.cellsOf e = 2) {count : Nat} (hn : 1 ≤ count) : liesAt P P.depth e count 0 e 1 = true := by
  have hd : P.depth = (2 * (P.types.size + Made.depth) + 1) + 1 := rfl
  rw [hd]
  simp only [liesAt, Bool.or_eq_true]
  left
  rw [hd]
  simp [rowAt, hc, hn, sameLayout]
set_option maxHeartbeats 1000000 in
set_option maxRecDepth 100000 in
theorem bCheck_fresh (b : Nat) (w : World) (h0 : w.cell? ⟨b, 0, none⟩ = some (.pointer none)) (c : Nat) (hc : 2 ≤ c) (hsh : w.shape? b = some (45, c)) (hfz : w.frozen? ⟨b, 0, none⟩ = false) :
    Calls Tryd.prog 30 #[.pointer (some ⟨b, 0, none⟩)] w fun e w' => e = .returned (.tuple #[]) ∧ w' = w.setCell ⟨b, 0, none⟩ (.pointer (some ⟨b, 0, none⟩)) := by
  obtain ⟨j, hj, hjs⟩ := bInfo
  go_enter Tryd.func30, Tryd.ntmps30
  go_wp2
  rw [Lib.run_to_unsafe w ⟨b, 0, none⟩ Tryd.underlying43 Tryd.underlying81 hj (by rw [hjs]; decide) hsh (show 0 < c by omega)]
  simp only [Result.andThen]
  rw [Oper.upon_value]
  go_wp2
  rw [run_callFunc_extern Tryd.func38 (by kernel_rfl) (by kernel_rfl) (by kernel_rfl) (e := Extern.AbiNoEscape.same) (by kernel_rfl)]
  rw [Lib.run_noEscape]
  simp only [Result.andThen]
  rw [Oper.upon_value]
  go_wp2
  rw [Lib.run_from_unsafe w ⟨b, 0, none⟩ Tryd.underlying81 Tryd.underlying43 hj hsh (lies_one bCells (by rw [bCells]; omega))]
  simp only [Result.andThen]
  rw [Oper.upon_value]
  go_wp2
  go_end0
  exact ⟨rfl, rfl⟩
set_option maxHeartbeats 1000000 in
set_option maxRecDepth 100000 in
theorem bString_nil (b : Nat) (w : World) (h1 : w.cell? ⟨b, 1, none⟩ = some (.slice none 0 0)) :
    Calls Tryd.prog 19 #[.pointer (some ⟨b, 0, none⟩)] w fun e w' => e = .returned (.string ⟨#[]⟩) ∧ w' = w.drew := by
  have c1 : w.drew.cell? ⟨b, 1, none⟩ = some (.slice none 0 0) := h1
  have hSD : ∀ ts t, (Builtin.unsafeSliceData_ ts t #[.slice none 0 0]).run Tryd.prog w.drew = .ok (.pointer none) w.drew := fun ts t => Lib.run_unsafeSliceData_nil w.drew ts t 0 0
  have hUS : ∀ it t, (Builtin.unsafeString_ #[73, it] t #[.pointer none, .int .i64 0]).run Tryd.prog w.drew = .ok (.string .empty) w.drew := fun it t => Lib.run_unsafeString_none w.drew _ _ _ _
  have mixed := mixed
  go_enter Tryd.func19, Tryd.ntmps19
  go_wp2
  go_region_o
  all_goals (go_wp2; go_ret; exact ⟨rfl, rfl⟩)
/-! ### On the abstract machine -/
def unit : Value := .tuple ⟨[]⟩
def u8c (b : UInt8) : Value := .int .u8 b.toNat
theorem vrs_one' {P : Program} {ro : Nat} {ρ : List Loc} {x : Value} {args' : List Value} (h : VRs P ro ρ [x] args') : ∃ y, args' = [y] ∧ VR P ro ρ x y := by
  cases h with
  | cons _ y _ ys h t => cases t; exact ⟨y, rfl, h⟩
def fChk (ro : Nat) (args : List Value) (h : Heap) : Option (Value × Heap) := match args with
  | [.pointer (some ⟨b, 0, none⟩)] => (h[b]?).bind fun (Bk : Blk) => if ro ≤ b ∧ Bk.ty = 45 ∧ Bk.cells.length = 2 then (match (Bk.cells[0]? : Option Value) with
      | some (.pointer none) => some (unit, h.set b ⟨Bk.ty, Bk.cells.set 0 (.pointer (some ⟨b, 0, none⟩))⟩)
      | some (.pointer (some ⟨b', 0, none⟩)) => if b' = b then some (unit, h) else none
      | _ => none) else none
  | _ => none
open Classical in
noncomputable def fStr (ro : Nat) (args : List Value) (h : Heap) : Option (Value × Heap) := match args with
  | [.pointer (some ⟨b, 0, none⟩)] => (h[b]?).bind fun (Bk : Blk) => if ro ≤ b ∧ Bk.cells.length = 2 then (match (Bk.cells[1]? : Option Value) with
      | some (.slice none 0 0) => some (.string ⟨⟨[]⟩⟩, h)
      | some (.slice (some ⟨g, 0, none⟩) n c) => (h[g]?).bind fun (Gk : Blk) => (bytesOf Gk.cells).bind fun l => if ro ≤ g ∧ Gk.ty = 5 ∧ Gk.cells = l.map u8c ∧ n = l.length ∧ 0 < n ∧ n ≤ 9223372036854775807 then some (.string ⟨⟨l⟩⟩, h.set g ⟨Gk.ty, []⟩) else none
      | _ => none) else none
  | _ => none
theorem ptr_vr {P : Program} {ro : Nat} {ρ : List Loc} {b : Nat} {y : Value} (h : VR P ro ρ (.pointer (some ⟨b, 0, none⟩)) y) : ∃ L, ρ[b]? = some L ∧ y = .pointer (some ⟨L.g, L.s + 0, none⟩) := by
  cases h with
  | ptr _ _ L hL => exact ⟨L, hL, rfl⟩
theorem slc_vr {P : Program} {ro : Nat} {ρ : List Loc} {b o n c : Nat} {y : Value} (h : VR P ro ρ (.slice (some ⟨b, o, none⟩) n c) y) (hn : 0 < n) : ∃ L c', ρ[b]? = some L ∧ y = .slice (some ⟨L.g, L.s + o, none⟩) n c' ∧ n ≤ c' := by
  cases h with
  | slc _ _ L _ _ c' hL h1 => exact ⟨L, c', hL, rfl, h1⟩
  | slz => omega
/-- A block out of use. -/
theorem SR.drop {P : Program} {ro : Nat} {B : Base} {ρ : List Loc} {h : Heap} {w w' : World} (s : SR P ro B ρ h w) {g : Nat} {L : Loc} {Gk : Blk} (hL : ρ[g]? = some L) (hg : h[g]? = some Gk) (hne : Gk.cells ≠ []) (hro : ro ≤ g) (hw : ∀ k, k ≠ L.g → w'.heap[k]? = w.heap[k]?) : SR P ro B ρ (h.set g ⟨Gk.ty, []⟩) w' := by
  obtain ⟨C, ty, fr, k1, k2, k3⟩ := s.blk g L Gk hL hg hne
  obtain ⟨e1, e2, e3, e4, e5, e6⟩ := k3 hro
  have hgl : g < h.length := by
    rcases Nat.lt_or_ge g h.length with q | q
    · exact q
    · rw [List.getElem?_eq_none q] at hg; cases hg
  have other : ∀ (b : Nat) (Bk : Blk), (h.set g ⟨Gk.ty, []⟩)[b]? = some Bk → Bk.cells ≠ [] → b ≠ g ∧ h[b]? = some Bk := by
    intro b Bk hb hn
    by_cases q : b = g
    · subst q
      rw [List.getElem?_set_self hgl] at hb
      cases hb
      exact absurd rfl hn
    · rw [List.getElem?_set_ne (Ne.symm q)] at hb
      exact ⟨q, hb⟩
  refine ⟨by simpa using s.len, ?_, ?_, ?_, fun k hk => by rw [hw k (by have := B.le; omega)]; exact s.glob k hk⟩
  · intro b L2 Bk h1 h2 hro2
    by_cases q : b = g
    · subst q
      rw [List.getElem?_set_self hgl] at h2
      cases h2
      exact s.ty b L2 Gk h1 hg hro2
    · rw [List.getElem?_set_ne (Ne.symm q)] at h2
      exact s.ty b L2 Bk h1 h2 hro2
  · intro b L2 Bk h1 h2 h3
    obtain ⟨q, h2'⟩ := other b Bk h2 h3
    have hap := s.apart g b L L2 Gk Bk (Ne.symm q) hro hL h1 hg h2' hne h3
    rw [hw _ (Ne.symm hap)]
    exact s.blk b L2 Bk h1 h2' h3
  · intro b b' L1 L2 B1 B2 hne' hro' h1 h1' h2 h2' h3 h3'
    exact s.apart b b' L1 L2 B1 B2 hne' hro' h1 h1' (other b B1 h2 h3).2 (other b' B2 h2' h3').2 h3 h3'
section
variable {ro : Nat} {B : Base} {args : List Value} {h h' : Heap} {r : Value} {ρ : List Loc} {w : World} {args' : List Value}
theorem fChk_ok (hr : fChk ro args h = some (r, h')) (hs : SR Tryd.prog ro B ρ h w) (hB : B.n ≤ w.heap.size) (ha : VRs Tryd.prog ro ρ args args') :
    CallOk Tryd.prog 30 ⟨args'⟩ w fun r' w' => ∃ ρ', Pre ρ ρ' ∧ SR Tryd.prog ro B ρ' h' w' ∧ VR Tryd.prog ro ρ' r r' ∧ Below B.n w w' := by
  unfold fChk at hr
  split at hr
  · rename_i b
    obtain ⟨y, rfl, hy⟩ := vrs_one' ha
    obtain ⟨L, hL, rfl⟩ := ptr_vr hy
    obtain ⟨Bk, hb, hr1⟩ := Option.bind_eq_some_iff.1 hr
    clear hr
    split at hr1
    · rename_i hc
      obtain ⟨hro, hty, hlen⟩ := hc
      have hne : Bk.cells ≠ [] := fun q => by rw [q] at hlen; cases hlen
      obtain ⟨C, ty, fr, k1, k2, k3⟩ := hs.blk b L Bk hL hb hne
      obtain ⟨e1, rfl, rfl, e4, e5, e6⟩ := k3 hro
      rw [e5] at k2 ⊢
      have hC1 : 2 ≤ C.size := by
        obtain ⟨v', q, _⟩ := k2 1 (Bk.cells[1]'(by omega)) (List.getElem?_eq_getElem _)
        have := (Array.getElem?_eq_some_iff.1 q).1
        omega
      have hcell : ∀ v, Bk.cells[0]? = some v → ∃ v', w.cell? ⟨L.g, 0, none⟩ = some v' ∧ VR Tryd.prog ro ρ v v' := by
        intro v hv
        obtain ⟨v', q1, q2, _⟩ := k2 0 v hv
        exact ⟨v', by rw [Lib.cell_of_heap k1]; simpa using q1, q2⟩
      split at hr1
      · rename_i h0
        cases hr1
        obtain ⟨v', hv', q⟩ := hcell _ h0
        cases q
        refine callOk_calls Tryd.func30 (by decide) rfl ((bCheck_fresh L.g w hv' C.size hC1 (by simp [World.shape?, k1, hty]) (by simp [World.frozen?, k1])).mono fun e w' => ?_)
        rintro ⟨rfl, rfl⟩
        rw [setCell_eq_setRow w L.g 0 C _ _ _ k1]
        refine ⟨_, rfl, ρ, Pre.refl _, ?_, .tup [] [] .nil, ?_⟩
        · refine hs.put hL hb hne hro _ _ (fun C2 ty2 fr2 h2 => ?_) (fun i v hv => ?_)
          · rw [k1] at h2; cases h2; simp
          · rw [List.getElem?_set] at hv
            split at hv
            · rename_i hi
              subst hi
              rw [if_pos (by omega)] at hv
              cases hv
              refine ⟨.pointer (some ⟨L.g, L.s + 0, none⟩), ?_, .ptr b 0 L hL, rfl⟩
              rw [e5, Array.getElem?_setIfInBounds, if_pos rfl, if_pos (by omega)]
            · rename_i hi
              obtain ⟨v', q1, q2⟩ := k2 i v hv
              refine ⟨v', ?_, q2⟩
              rw [Array.getElem?_setIfInBounds, if_neg hi]
              simpa using q1
        · rw [← setCell_eq_setRow w L.g 0 C _ _ _ k1]
          exact (Below.refl _ _).setCell e4 _
      · rename_i b' h0
        split at hr1
        · rename_i hbb
          subst hbb
          cases hr1
          obtain ⟨v', hv', q⟩ := hcell _ h0
          obtain ⟨L', hL', rfl⟩ := ptr_vr q
          rw [hL] at hL'
          cases hL'
          rw [e5] at hv'
          refine callOk_calls Tryd.func30 (by decide) rfl ((bCheck_used L.g w hv').mono fun e w' => ?_)
          rintro ⟨rfl, rfl⟩
          exact ⟨_, rfl, ρ, Pre.refl _, hs, .tup [] [] .nil, Below.refl _ _⟩
        · cases hr1
      · cases hr1
    · cases hr1
  · cases hr
theorem fStr_ok (hr : fStr ro args h = some (r, h')) (hs : SR Tryd.prog ro B ρ h w) (hB : B.n ≤ w.heap.size) (ha : VRs Tryd.prog ro ρ args args') :
    CallOk Tryd.prog 19 ⟨args'⟩ w fun r' w' => ∃ ρ', Pre ρ ρ' ∧ SR Tryd.prog ro B ρ' h' w' ∧ VR Tryd.prog ro ρ' r r' ∧ Below B.n w w' := by
  unfold fStr at hr
  split at hr
  · rename_i b
    obtain ⟨y, rfl, hy⟩ := vrs_one' ha
    obtain ⟨L, hL, rfl⟩ := ptr_vr hy
    obtain ⟨Bk, hb, hr1⟩ := Option.bind_eq_some_iff.1 hr
    clear hr
    split at hr1
    · rename_i hc
      obtain ⟨hro, hlen⟩ := hc
      have hne : Bk.cells ≠ [] := fun q => by rw [q] at hlen; cases hlen
      obtain ⟨C, ty, fr, k1, k2, k3⟩ := hs.blk b L Bk hL hb hne
      obtain ⟨e1, rfl, rfl, e4, e5, e6⟩ := k3 hro
      rw [e5] at k2 ⊢
      have hcell : ∀ v, Bk.cells[1]? = some v → ∃ v', w.cell? ⟨L.g, 1, none⟩ = some v' ∧ VR Tryd.prog ro ρ v v' := by
        intro v hv
        obtain ⟨v', q1, q2, _⟩ := k2 1 v hv
        exact ⟨v', by rw [Lib.cell_of_heap k1]; simpa using q1, q2⟩
      split at hr1
      · rename_i h1
        cases hr1
        obtain ⟨v', hv', q⟩ := hcell _ h1
        cases q
        refine callOk_calls Tryd.func19 (by decide) rfl ((bString_nil L.g w hv').mono fun e w' => ?_)
        rintro ⟨rfl, rfl⟩
        exact ⟨_, rfl, ρ, Pre.refl _, hs.drew, .str _, (Below.refl _ _).drew⟩
      · rename_i g n c h1
        obtain ⟨Gk, hg, hr2⟩ := Option.bind_eq_some_iff.1 hr1
        clear hr1
        obtain ⟨l, hl, hr3⟩ := Option.bind_eq_some_iff.1 hr2
        clear hr2
        split at hr3
        · rename_i hc2
          obtain ⟨gro, gty, gcs, rfl, gn, g63⟩ := hc2
          cases hr3
          obtain ⟨v', hv', q⟩ := hcell _ h1
          have gne : Gk.cells ≠ [] := fun q => by rw [q] at gcs; have := congrArg List.length gcs; simp at this; omega
          obtain ⟨G, cap', hG, rfl, c1⟩ := slc_vr q gn
          obtain ⟨D, dy, dr, m1, m2, m3⟩ := hs.blk g G Gk hG hg gne
          obtain ⟨f1, rfl, rfl, f4, f5, f6⟩ := m3 gro
          rw [f5] at m2 hv'
          have hD : ∀ (j : Nat) (x : UInt8), l[j]? = some x → D[j]? = some (Value.int .u8 x.toNat) := by
            intro j x hx
            obtain ⟨v2, q1, q2, _⟩ := m2 j (u8c x) (by rw [gcs, List.getElem?_map, hx]; rfl)
            cases q2
            simpa using q1
          have hDs : l.length ≤ D.size := by
            have := hD (l.length - 1) (l[l.length - 1]'(by omega)) (List.getElem?_eq_getElem _)
            have := (Array.getElem?_eq_some_iff.1 this).1
            omega
          refine callOk_calls Tryd.func19 (by decide) rfl ((bString_row L.g G.g cap' l D Gk.ty (0, 0) w hv' (by rw [← gty]; exact m1) (fun q => by rw [q] at gn; cases gn) c1 hDs g63 (fun j x hx => by rw [add_lit, Lib.cell_of_heap m1, Nat.zero_add]; exact hD j x hx)).mono fun e w' => ?_)
          rintro ⟨rfl, rfl⟩
          refine ⟨_, rfl, ρ, Pre.refl _, ?_, .str _, Lib.below_freeze (Below.refl _ _).drew f4 _⟩
          refine hs.drop hG hg gne gro (fun k hk => ?_)
          unfold World.freeze
          split
          · rfl
          · simp only [Array.getElem?_modify]
            rw [if_neg (Ne.symm hk)]
            rfl
        · cases hr3
      · cases hr1
    · cases hr1
  · cases hr
end
end Go.Proofs.YtikanmboimjhgaaDoor.Sim
