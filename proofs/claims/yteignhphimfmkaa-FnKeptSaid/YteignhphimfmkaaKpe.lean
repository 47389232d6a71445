/- The builder of texts: what its functions do. Lemmas only; no condition. -/
import Derived.Test.YteignhphimfmkaaAcc
import Derived.Test.YteignhphimfmkaaSimU
import Derived.Test.YteignhphimfmkaaMath
import Derived.Test.YteignhphimfmkaaMth
import Derived.Test.YteignhphimfmkaaFba
import Derived.Shelf.RegionOpenPlain
import Derived.WalkKit
import Derived.Lib.Walk
import Derived.Lib.UnsafeStr
import Derived.Lib.Builder
import Derived.Laws.Externs
import Derived.Test.YteignhphimfmkaaRck
import Derived.Test.YteignhphimfmkaaDrx
import Derived.Test.YteignhphimfmkaaSimXc
import Derived.Test.YteignhphimfmkaaFle
import Derived.Test.YteignhphimfmkaaArb
set_option linter.unusedSimpArgs false
set_option linter.unusedVariables false
namespace Go.Proofs.Yteignhphimfmkaa.Sim
open Go Go.RowKit
set_option maxHeartbeats 2000000 in
set_option maxRecDepth 100000 in
theorem bString_row (b g cap : Nat) (l : List UInt8) (cur : Array Value) (ty : TypeId) (fz : Nat × Nat) (w : World) (hbk : w.cell? ⟨b, 1, none⟩ = some (.slice (some ⟨g, 0, none⟩) l.length cap)) (hg : w.heap[g]? = some (.cells cur 5 fz))
    (h0 : l ≠ []) (hn : l.length ≤ cap) (hc : l.length ≤ cur.size) (h63 : l.length ≤ 9223372036854775807) (hcell : ∀ j x, l[j]? = some x → w.cell? ((⟨g, 0, none⟩ : Addr).add j) = some (.int .u8 x.toNat)) :
    Calls Try.prog 20 #[.pointer (some ⟨b, 0, none⟩)] w fun e w' => e = .returned (.string ⟨l.toArray⟩) ∧ w' = w.drew.freeze ⟨g, 0, none⟩ l.length := by
  have hl0 : l.length ≠ 0 := by simpa using h0
  have c1 : w.drew.cell? ⟨b, 1, none⟩ = some (.slice (some ⟨g, 0, none⟩) l.length cap) := by
    exact hbk
  have hSD : ∀ ts t, (Builtin.unsafeSliceData_ ts t #[.slice (some ⟨g, 0, none⟩) l.length cap]).run Try.prog w.drew = .ok (.pointer (some ⟨g, 0, none⟩)) w.drew := fun ts t => Lib.run_unsafeSliceData_row w.drew ts t _ _ _ (by omega)
  have hUS : ∀ it t, (Builtin.unsafeString_ #[75, it] t #[.pointer (some ⟨g, 0, none⟩), .int .i64 l.length]).run Try.prog w.drew = .ok (.string ⟨l.toArray⟩) (w.drew.freeze ⟨g, 0, none⟩ l.length) := fun it t => Lib.run_unsafeString_row w.drew _ _ _ 5 Try.underlying75 (by kernel_rfl) g cur.size (by have hg' : w.drew.heap[g]? = some (.cells cur 5 fz) := hg; simp [World.shape?, hg']) l h0 hc h63 hcell
  have mixed := mixed
  go_enter Try.func20, Try.ntmps20
  go_wp2
  go_region_o
  all_goals (go_wp2; go_ret; exact ⟨rfl, rfl⟩)
theorem bInfo : ∃ j, Try.prog.info? 52 = some j ∧ j.size = 2 := ⟨_, rfl, by kernel_rfl⟩
set_option maxHeartbeats 1000000 in
set_option maxRecDepth 100000 in
theorem bCheck_used (b : Nat) (w : World) (h0 : w.cell? ⟨b, 0, none⟩ = some (.pointer (some ⟨b, 0, none⟩))) :
    Calls Try.prog 31 #[.pointer (some ⟨b, 0, none⟩)] w fun e w' => e = .returned (.tuple #[]) ∧ w' = w := by
  obtain ⟨j, hj, _⟩ := bInfo
  go_enter Try.func31, Try.ntmps31
  go_wp2
  rw [Lib.run_neq_ptr_same w _ Try.underlying50 hj]
  go_wp2
  go_end0
  exact ⟨rfl, rfl⟩
theorem bCells : Try.prog.cellsOf 52 = 2 := by kernel_rfl
theorem lies_one {P : Program} {e : TypeId} (hc : P.cellsOf e = 2) {count : Nat} (hn : 1 ≤ count) : liesAt P P.depth e count 0 e 1 = true := by
  have hd : P.depth = (2 * (P.types.size + Made.depth) + 1) + 1 := rfl
  rw [hd]
  simp only [liesAt, Bool.or_eq_true]
  left
  rw [hd]
  simp [rowAt, hc, hn, sameLayout]
set_option maxHeartbeats 1000000 in
set_option maxRecDepth 100000 in
theorem bCheck_fresh (b : Nat) (w : World) (h0 : w.cell? ⟨b, 0, none⟩ = some (.pointer none)) (c : Nat) (hc : 2 ≤ c) (hsh : w.shape? b = some (52, c)) (hfz : w.frozen? ⟨b, 0, none⟩ = false) :
    Calls Try.prog 31 #[.pointer (some ⟨b, 0, none⟩)] w fun e w' => e = .returned (.tuple #[]) ∧ w' = w.setCell ⟨b, 0, none⟩ (.pointer (some ⟨b, 0, none⟩)) := by
  obtain ⟨j, hj, hjs⟩ := bInfo
  go_enter Try.func31, Try.ntmps31
  go_wp2
  rw [Lib.run_to_unsafe w ⟨b, 0, none⟩ Try.underlying50 Try.underlying83 hj (by rw [hjs]; decide) hsh (show 0 < c by omega)]
  simp only [Result.andThen]
  rw [Oper.upon_value]
  go_wp2
  rw [run_callFunc_extern Try.func43 (by kernel_rfl) (by kernel_rfl) (by kernel_rfl) (e := Extern.AbiNoEscape.same) (by kernel_rfl)]
  rw [Lib.run_noEscape]
  simp only [Result.andThen]
  rw [Oper.upon_value]
  go_wp2
  rw [Lib.run_from_unsafe w ⟨b, 0, none⟩ Try.underlying83 Try.underlying50 hj hsh (lies_one bCells (by rw [bCells]; omega))]
  simp only [Result.andThen]
  rw [Oper.upon_value]
  go_wp2
  go_end0
  exact ⟨rfl, rfl⟩
set_option maxHeartbeats 1000000 in
set_option maxRecDepth 100000 in
theorem bString_nil (b : Nat) (w : World) (h1 : w.cell? ⟨b, 1, none⟩ = some (.slice none 0 0)) :
    Calls Try.prog 20 #[.pointer (some ⟨b, 0, none⟩)] w fun e w' => e = .returned (.string ⟨#[]⟩) ∧ w' = w.drew := by
  have c1 : w.drew.cell? ⟨b, 1, none⟩ = some (.slice none 0 0) := h1
  have hSD : ∀ ts t, (Builtin.unsafeSliceData_ ts t #[.slice none 0 0]).run Try.prog w.drew = .ok (.pointer none) w.drew := fun ts t => Lib.run_unsafeSliceData_nil w.drew ts t 0 0
  have hUS : ∀ it t, (Builtin.unsafeString_ #[75, it] t #[.pointer none, .int .i64 0]).run Try.prog w.drew = .ok (.string .empty) w.drew := fun it t => Lib.run_unsafeString_none w.drew _ _ _ _
  have mixed := mixed
  go_enter Try.func20, Try.ntmps20
  go_wp2
  go_region_o
  all_goals (go_wp2; go_ret; exact ⟨rfl, rfl⟩)
/-! ### On the abstract machine -/
theorem callOk_calls {P : Program} {f : FuncId} {fn : Func} {args : Array Value} {w : World} {R : Value → World → Prop} (hf : P.funcs[f]? = some fn) (hn : fn.name ≠ "runtime.NumGoroutine") (hb : fn.body.isSome = true) (h : Calls P f args w fun e w' => ∃ v, e = .returned v ∧ R v w') : CallOk P f args w R := by
  right
  obtain ⟨c, hc⟩ := Option.isSome_iff_exists.1 hb
  exact ⟨by simp [callFunc, hf, hn, hc], h⟩
def unit : Value := .tuple ⟨[]⟩
def u8c (b : UInt8) : Value := .int .u8 b.toNat
theorem vrs_one' {P : Program} {ro : Nat} {ρ : List Loc} {x : Value} {args' : List Value} (h : VRs P ro ρ [x] args') : ∃ y, args' = [y] ∧ VR P ro ρ x y := by
  cases h with
  | cons _ y _ ys h t => cases t; exact ⟨y, rfl, h⟩
def fChk (ro : Nat) (args : List Value) (h : Heap) : Option (Value × Heap) := match args with
  | [.pointer (some ⟨b, 0, none⟩)] => (h[b]?).bind fun (Bk : Blk) => if ro ≤ b ∧ Bk.ty = 52 ∧ Bk.cells.length = 2 then (match (Bk.cells[0]? : Option Value) with
      | some (.pointer none) => some (unit, h.set b ⟨Bk.ty, Bk.cells.set 0 (.pointer (some ⟨b, 0, none⟩))⟩)
      | some (.pointer (some ⟨b', 0, none⟩)) => if b' = b then some (unit, h) else none
      | _ => none) else none
  | _ => none
open Classical in
noncomputable def fStr (ro : Nat) (args : List Value) (h : Heap) : Option (Value × Heap) := match args with
  | [.pointer (some ⟨b, 0, none⟩)] => (h[b]?).bind fun (Bk : Blk) => if ro ≤ b ∧ Bk.cells.length = 2 then (match (Bk.cells[1]? : Option Value) with
      | some (.slice none 0 0) => some (.string ⟨⟨[]⟩⟩, h)
      | some (.slice (some ⟨g, 0, none⟩) n c) => (h[g]?).bind fun (Gk : Blk) => (bytesOf Gk.cells).bind fun l => if ro ≤ g ∧ Gk.ty = 5 ∧ Gk.cells = l.map u8c ∧ n = l.length ∧ 0 < n ∧ n ≤ 9223372036854775807 then some (.string ⟨⟨l⟩⟩, h.set g ⟨Gk.ty, []⟩) else none
      | _ => none) else none
  | _ => none
theorem ptr_vr {P : Program} {ro : Nat} {ρ : List Loc} {b : Nat} {y : Value} (h : VR P ro ρ (.pointer (some ⟨b, 0, none⟩)) y) : ∃ L, ρ[b]? = some L ∧ y = .pointer (some ⟨L.g, L.s + 0, none⟩) := by
  cases h with
  | ptr _ _ L hL => exact ⟨L, hL, rfl⟩
theorem slc_vr {P : Program} {ro : Nat} {ρ : List Loc} {b o n c : Nat} {y : Value} (h : VR P ro ρ (.slice (some ⟨b, o, none⟩) n c) y) (hn : 0 < n) : ∃ L c', ρ[b]? = some L ∧ y = .slice (some ⟨L.g, L.s + o, none⟩) n c' ∧ n ≤ c' := by
  cases h with
  | slc _ _ L _ _ c' hL h1 => exact ⟨L, c', hL, rfl, h1⟩
  | slz => omega
/-- A block out of use. -/
theorem SR.drop {P : Program} {ro : Nat} {B : Base} {ρ : List Loc} {h : Heap} {w w' : World} (s : SR P ro B ρ h w) {g : Nat} {L : Loc} {Gk : Blk} (hL : ρ[g]? = some L) (hg : h[g]? = some Gk) (hne : Gk.cells ≠ []) (hro : ro ≤ g) (hw : ∀ k, k ≠ L.g → w'.heap[k]? = w.heap[k]?) : SR P ro B ρ (h.set g ⟨Gk.ty, []⟩) w' := by
  obtain ⟨C, ty, fr, k1, k2, k3⟩ := s.blk g L Gk hL hg hne
  obtain ⟨e1, e2, e3, e4, e5, e6⟩ := k3 hro
  have hgl : g < h.length := by
    rcases Nat.lt_or_ge g h.length with q | q
    · exact q
    · rw [List.getElem?_eq_none q] at hg; cases hg
  have other : ∀ (b : Nat) (Bk : Blk), (h.set g ⟨Gk.ty, []⟩)[b]? = some Bk → Bk.cells ≠ [] → b ≠ g ∧ h[b]? = some Bk := by
    intro b Bk hb hn
    by_cases q : b = g
    · subst q
      rw [List.getElem?_set_self hgl] at hb
      cases hb
      exact absurd rfl hn
    · rw [List.getElem?_set_ne (Ne.symm q)] at hb
      exact ⟨q, hb⟩
  refine ⟨by simpa using s.len, ?_, ?_, ?_, fun k hk => by rw [hw k (by have := B.le; omega)]; exact s.glob k hk⟩
  · intro b L2 Bk h1 h2 hro2
    by_cases q : b = g
    · subst q
      rw [List.getElem?_set_self hgl] at h2
      cases h2
      exact s.ty b L2 Gk h1 hg hro2
    · rw [List.getElem?_set_ne (Ne.symm q)] at h2
      exact s.ty b L2 Bk h1 h2 hro2
  · intro b L2 Bk h1 h2 h3
    obtain ⟨q, h2'⟩ := other b Bk h2 h3
    have hap := s.apart g b L L2 Gk Bk (Ne.symm q) hro hL h1 hg h2' hne h3
    rw [hw _ (Ne.symm hap)]
    exact s.blk b L2 Bk h1 h2' h3
  · intro b b' L1 L2 B1 B2 hne' hro' h1 h1' h2 h2' h3 h3'
    exact s.apart b b' L1 L2 B1 B2 hne' hro' h1 h1' (other b B1 h2 h3).2 (other b' B2 h2' h3').2 h3 h3'
section
variable {ro : Nat} {B : Base} {args : List Value} {h h' : Heap} {r : Value} {ρ : List Loc} {w : World} {args' : List Value}
theorem fChk_ok (hr : fChk ro args h = some (r, h')) (hs : SR Try.prog ro B ρ h w) (hB : B.n ≤ w.heap.size) (ha : VRs Try.prog ro ρ args args') :
    CallOk Try.prog 31 ⟨args'⟩ w fun r' w' => ∃ ρ', Pre ρ ρ' ∧ SR Try.prog ro B ρ' h' w' ∧ VR Try.prog ro ρ' r r' ∧ Below B.n w w' := by
  unfold fChk at hr
  split at hr
  · rename_i b
    obtain ⟨y, rfl, hy⟩ := vrs_one' ha
    obtain ⟨L, hL, rfl⟩ := ptr_vr hy
    obtain ⟨Bk, hb, hr1⟩ := Option.bind_eq_some_iff.1 hr
    clear hr
    split at hr1
    · rename_i hc
      obtain ⟨hro, hty, hlen⟩ := hc
      have hne : Bk.cells ≠ [] := fun q => by rw [q] at hlen; cases hlen
      obtain ⟨C, ty, fr, k1, k2, k3⟩ := hs.blk b L Bk hL hb hne
      obtain ⟨e1, rfl, rfl, e4, e5, e6⟩ := k3 hro
      rw [e5] at k2 ⊢
      have hC1 : 2 ≤ C.size := by
        obtain ⟨v', q, _⟩ := k2 1 (Bk.cells[1]'(by omega)) (List.getElem?_eq_getElem _)
        have := (Array.getElem?_eq_some_iff.1 q).1
        omega
      have hcell : ∀ v, Bk.cells[0]? = some v → ∃ v', w.cell? ⟨L.g, 0, none⟩ = some v' ∧ VR Try.prog ro ρ v v' := by
        intro v hv
        obtain ⟨v', q1, q2, _⟩ := k2 0 v hv
        exact ⟨v', by rw [Lib.cell_of_heap k1]; simpa using q1, q2⟩
      split at hr1
      · rename_i h0
        cases hr1
        obtain ⟨v', hv', q⟩ := hcell _ h0
        cases q
        refine callOk_calls Try.func31 (by decide) rfl ((bCheck_fresh L.g w hv' C.size hC1 (by simp [World.shape?, k1, hty]) (by simp [World.frozen?, k1])).mono fun e w' => ?_)
        rintro ⟨rfl, rfl⟩
        rw [setCell_eq_setRow w L.g 0 C _ _ _ k1]
        refine ⟨_, rfl, ρ, Pre.refl _, ?_, .tup [] [] .nil, ?_⟩
        · refine hs.put hL hb hne hro _ _ (fun C2 ty2 fr2 h2 => ?_) (fun i v hv => ?_)
          · rw [k1] at h2; cases h2; simp
          · rw [List.getElem?_set] at hv
            split at hv
            · rename_i hi
              subst hi
              rw [if_pos (by omega)] at hv
              cases hv
              refine ⟨.pointer (some ⟨L.g, L.s + 0, none⟩), ?_, .ptr b 0 L hL, rfl⟩
              rw [e5, Array.getElem?_setIfInBounds, if_pos rfl, if_pos (by omega)]
            · rename_i hi
              obtain ⟨v', q1, q2⟩ := k2 i v hv
              refine ⟨v', ?_, q2⟩
              rw [Array.getElem?_setIfInBounds, if_neg hi]
              simpa using q1
        · rw [← setCell_eq_setRow w L.g 0 C _ _ _ k1]
          exact (Below.refl _ _).setCell e4 _
      · rename_i b' h0
        split at hr1
        · rename_i hbb
          subst hbb
          cases hr1
          obtain ⟨v', hv', q⟩ := hcell _ h0
          obtain ⟨L', hL', rfl⟩ := ptr_vr q
          rw [hL] at hL'
          cases hL'
          rw [e5] at hv'
          refine callOk_calls Try.func31 (by decide) rfl ((bCheck_used L.g w hv').mono fun e w' => ?_)
          rintro ⟨rfl, rfl⟩
          exact ⟨_, rfl, ρ, Pre.refl _, hs, .tup [] [] .nil, Below.refl _ _⟩
        · cases hr1
      · cases hr1
    · cases hr1
  · cases hr
theorem fStr_ok (hr : fStr ro args h = some (r, h')) (hs : SR Try.prog ro B ρ h w) (hB : B.n ≤ w.heap.size) (ha : VRs Try.prog ro ρ args args') :
    CallOk Try.prog 20 ⟨args'⟩ w fun r' w' => ∃ ρ', Pre ρ ρ' ∧ SR Try.prog ro B ρ' h' w' ∧ VR Try.prog ro ρ' r r' ∧ Below B.n w w' := by
  unfold fStr at hr
  split at hr
  · rename_i b
    obtain ⟨y, rfl, hy⟩ := vrs_one' ha
    obtain ⟨L, hL, rfl⟩ := ptr_vr hy
    obtain ⟨Bk, hb, hr1⟩ := Option.bind_eq_some_iff.1 hr
    clear hr
    split at hr1
    · rename_i hc
      obtain ⟨hro, hlen⟩ := hc
      have hne : Bk.cells ≠ [] := fun q => by rw [q] at hlen; cases hlen
      obtain ⟨C, ty, fr, k1, k2, k3⟩ := hs.blk b L Bk hL hb hne
      obtain ⟨e1, rfl, rfl, e4, e5, e6⟩ := k3 hro
      rw [e5] at k2 ⊢
      have hcell : ∀ v, Bk.cells[1]? = some v → ∃ v', w.cell? ⟨L.g, 1, none⟩ = some v' ∧ VR Try.prog ro ρ v v' := by
        intro v hv
        obtain ⟨v', q1, q2, _⟩ := k2 1 v hv
        exact ⟨v', by rw [Lib.cell_of_heap k1]; simpa using q1, q2⟩
      split at hr1
      · rename_i h1
        cases hr1
        obtain ⟨v', hv', q⟩ := hcell _ h1
        cases q
        refine callOk_calls Try.func20 (by decide) rfl ((bString_nil L.g w hv').mono fun e w' => ?_)
        rintro ⟨rfl, rfl⟩
        exact ⟨_, rfl, ρ, Pre.refl _, hs.drew, .str _, (Below.refl _ _).drew⟩
      · rename_i g n c h1
        obtain ⟨Gk, hg, hr2⟩ := Option.bind_eq_some_iff.1 hr1
        clear hr1
        obtain ⟨l, hl, hr3⟩ := Option.bind_eq_some_iff.1 hr2
        clear hr2
        split at hr3
        · rename_i hc2
          obtain ⟨gro, gty, gcs, rfl, gn, g63⟩ := hc2
          cases hr3
          obtain ⟨v', hv', q⟩ := hcell _ h1
          have gne : Gk.cells ≠ [] := fun q => by rw [q] at gcs; have := congrArg List.length gcs; simp at this; omega
          obtain ⟨G, cap', hG, rfl, c1⟩ := slc_vr q gn
          obtain ⟨D, dy, dr, m1, m2, m3⟩ := hs.blk g G Gk hG hg gne
          obtain ⟨f1, rfl, rfl, f4, f5, f6⟩ := m3 gro
          rw [f5] at m2 hv'
          have hD : ∀ (j : Nat) (x : UInt8), l[j]? = some x → D[j]? = some (Value.int .u8 x.toNat) := by
            intro j x hx
            obtain ⟨v2, q1, q2, _⟩ := m2 j (u8c x) (by rw [gcs, List.getElem?_map, hx]; rfl)
            cases q2
            simpa using q1
          have hDs : l.length ≤ D.size := by
            have := hD (l.length - 1) (l[l.length - 1]'(by omega)) (List.getElem?_eq_getElem _)
            have := (Array.getElem?_eq_some_iff.1 this).1
            omega
          refine callOk_calls Try.func20 (by decide) rfl ((bString_row L.g G.g cap' l D Gk.ty (0, 0) w hv' (by rw [← gty]; exact m1) (fun q => by rw [q] at gn; cases gn) c1 hDs g63 (fun j x hx => by rw [add_lit, Lib.cell_of_heap m1, Nat.zero_add]; exact hD j x hx)).mono fun e w' => ?_)
          rintro ⟨rfl, rfl⟩
          refine ⟨_, rfl, ρ, Pre.refl _, ?_, .str _, Lib.below_freeze (Below.refl _ _).drew f4 _⟩
          refine hs.drop hG hg gne gro (fun k hk => ?_)
          unfold World.freeze
          split
          · rfl
          · simp only [Array.getElem?_modify]
            rw [if_neg (Ne.symm hk)]
            rfl
        · cases hr3
      · cases hr1
    · cases hr1
  · cases hr
end
end Go.Proofs.Yteignhphimfmkaa.Sim

/- The builder's contracts. Lemmas only; no condition. -/
set_option maxRecDepth 8000
namespace Go.Proofs.Yteignhphimfmkaa.Sim
open Go Go.RowKit
noncomputable def extU (ro : Nat) : Ext := fun f => if f = 31 then some (fChk ro) else if f = 20 then some (fStr ro) else orX (soloX 51 gBits) extB f
theorem extU_ok {ro : Nat} {B : Base} : XOk Try.prog ro B (extU ro) := by
  intro f F hF args h r h' hr ρ w args' hs hB hargs
  unfold extU at hF
  split at hF
  · rename_i e; subst e; cases hF; exact fChk_ok hr hs hB hargs
  · split at hF
    · rename_i e; subst e; cases hF; exact fStr_ok hr hs hB hargs
    · exact orX_ok xBits_ok extB_ok f F hF args h r h' hr ρ w args' hs hB hargs
/-- What is known of the builder's functions. -/
structure XU (ro : Nat) (X : Ext) : Prop where
  n : XN X
  chk : X 31 = some (fChk ro)
  str : X 20 = some (fStr ro)
theorem xn_extU (ro : Nat) : XN (extU ro) := fun f hf => by
  unfold extU
  split
  · rename_i e; subst e; exact absurd hf (by decide)
  · split
    · rename_i e; subst e; exact absurd hf (by decide)
    · unfold orX soloX
      by_cases q : f = 51
      · subst q; exact absurd hf (by decide)
      · simp only [if_neg q]; exact extB_n f hf
theorem xu_extU (ro : Nat) : XU ro (extU ro) := ⟨xn_extU ro, rfl, rfl⟩
variable {ro : Nat} {X : Ext}
/-- A builder in block 'b' that holds these bytes. -/
def BU (lo b : Nat) (h : Heap) (bs : List UInt8) : Prop := ∃ a x, h[b]? = some ⟨52, [a, x]⟩ ∧ (a = .pointer none ∨ a = .pointer (some ⟨b, 0, none⟩)) ∧ VN lo 5 1 h x bs.length (bs.map u8v)
theorem copyCheck_c (hX : XU ro X) {b : Nat} {h : Heap} {a x : Value} (hb : h[b]? = some ⟨52, [a, x]⟩) (ha : a = .pointer none ∨ a = .pointer (some ⟨b, 0, none⟩)) (hro : ro ≤ b) :
    CallR Try.prog ro X 31 [.pointer (some ⟨b, 0, none⟩)] h (fun r h' => r = unit ∧ h' = h.set b ⟨52, [.pointer (some ⟨b, 0, none⟩), x]⟩) := by
  rcases ha with rfl | rfl
  · refine ⟨_, _, call_ext hX.chk ?_, rfl, rfl⟩
    simp only [fChk, hb, Option.bind_some]
    rw [if_pos ⟨hro, trivial, rfl⟩]
    rfl
  · refine ⟨_, h, call_ext hX.chk ?_, rfl, ?_⟩
    · simp only [fChk, hb, Option.bind_some]
      rw [if_pos ⟨hro, trivial, rfl⟩]
      simp
    · obtain ⟨hl, e⟩ := List.getElem?_eq_some_iff.1 hb
      rw [← e]
      exact (List.set_getElem_self hl).symm
set_option maxHeartbeats 1000000 in
theorem WriteString_c (hX : XU ro X) {lo b : Nat} {h : Heap} {bs m : List UInt8} (hB : BU lo b h bs) (hro : ro ≤ b) (hlo : b < lo) (hlh : lo ≤ h.length) (hlen : bs.length + m.length ≤ 140737488355328) :
    CallR Try.prog ro X 18 [.pointer (some ⟨b, 0, none⟩), .string ⟨⟨m⟩⟩] h (fun r h' => r = .tuple ⟨[.int .i64 m.length, .nilIface]⟩ ∧ BU lo b h' (bs ++ m) ∧ h.length ≤ h'.length ∧ ∀ h0, Pfx h0 h → h0.length ≤ b → Pfx h0 h') := by
  obtain ⟨a, x, hb, ha, hV⟩ := hB
  have hX' := hX.n
  refine callR_of (hX' _ rfl) Try.func18 rfl (by kernel_rfl) (Nat.le_of_ble_eq_true rfl) ?_
  (repeat' first | simp -dsimp (disch := first | omega | assumption | (refine OkS.sto ?_ (by omega); first | assumption | (refine OkS.sto ?_ (by omega); first | assumption | (refine OkS.sto ?_ (by omega); first | assumption | (refine OkS.sto ?_ (by omega); first | assumption | (refine OkS.sto ?_ (by omega); first | assumption | (refine OkS.sto ?_ (by omega); first | assumption)))))) | exact Pfx.refl _ | (apply Pfx.snoc; repeat (first | exact Pfx.refl _ | assumption | apply Pfx.snoc)) | with_unfolding_all exact of_eq_true (eq_true rfl) | (simp only [List.length_append, List.length_cons, List.length_nil]; omega)) only [↓wpre0, ↓wpre1, ↓reduceIte, Int.reduceToNat, Nat.reduceAdd, Nat.reduceMul, Nat.reduceEqDiff, wpost0, wpost1, wpost2, wpost3, wpost4, ite_self, ite_true, ite_false, if_true, if_false, nilV_ptr, xfad52_1, xld22, xst22, len_bl Try.underlying9, fr18, wrap_int, wrap_u8, iteP_yes, iteP_no] | refine iteP_two (fun hc hd => ?_) (fun hc hd => ?_) | refine iteP_intro (fun hc => ?_) (fun hc => ?_))
  refine cf_rel (copyCheck_c hX hb ha hro) (fun q => by cases q) ?_
  rintro r H1 ⟨rfl, hH1⟩
  have hbl : b < h.length := (List.getElem?_eq_some_iff.1 hb).1
  have l1 : H1.length = h.length := by rw [hH1]; simp
  have b1 : H1[b]? = some ⟨52, [.pointer (some ⟨b, 0, none⟩), x]⟩ := by rw [hH1, List.getElem?_set_self hbl]
  have o1 : ∀ k, k ≠ b → H1[k]? = h[k]? := fun k hk => by rw [hH1, List.getElem?_set_ne (Ne.symm hk)]
  have V1 : VN lo 5 1 H1 x bs.length (bs.map u8v) := by
    rcases hV with hV | hV
    · exact .inl (hV.frame (o1 _ (by have := hV.bof.1; omega)))
    · exact .inr hV
  have c1 : cell H1 b 1 = some x := cellb b1
  obtain ⟨y, H2, ap, V2, old, _⟩ := accS (P := Try.prog) (ro := ro) (T := 22) (u := 9) (m := m.length) (y := .string ⟨⟨m⟩⟩) (M := m.map u8v) (h := H1) tel22 tsz5 tby5 tze5 (by decide) (.inr (by kernel_rfl)) V1 (by omega) (by omega) rfl rfl (by simp) (one_u8 m) (by omega) (by omega)
  have b2 : H2[b]? = some ⟨52, [.pointer (some ⟨b, 0, none⟩), x]⟩ := by
    rw [old.2.1 b (by omega) ?_]
    · exact b1
    · rcases V1 with g | g
      · exact .inr (by have := g.bof.1; omega)
      · exact .inl g.2.2
  have l2 := old.2.2
  have sh := V2.vs.shape
  have pt : put ro H2 b 1 1 y = some (H2.set b ⟨52, [.pointer (some ⟨b, 0, none⟩), y]⟩) := by
    have := putb (ro := ro) (n := 1) (o := 1) (v := y) b2 hro (by rw [sh.2.1]; rfl) (Nat.le_refl _) (by rw [sh.2.1]; simp [sh.2.2])
    rw [sh.2.1] at this
    exact this
  (repeat' first | simp -dsimp (disch := first | omega | assumption | (refine OkS.sto ?_ (by omega); first | assumption | (refine OkS.sto ?_ (by omega); first | assumption | (refine OkS.sto ?_ (by omega); first | assumption | (refine OkS.sto ?_ (by omega); first | assumption | (refine OkS.sto ?_ (by omega); first | assumption | (refine OkS.sto ?_ (by omega); first | assumption)))))) | exact Pfx.refl _ | (apply Pfx.snoc; repeat (first | exact Pfx.refl _ | assumption | apply Pfx.snoc)) | with_unfolding_all exact of_eq_true (eq_true rfl) | (simp only [List.length_append, List.length_cons, List.length_nil]; omega)) only [↓wpre0, ↓wpre1, ↓reduceIte, Int.reduceToNat, Nat.reduceAdd, Nat.reduceMul, Nat.reduceEqDiff, wpost0, wpost1, wpost2, wpost3, wpost4, ite_self, ite_true, ite_false, if_true, if_false, nilV_ptr, xfad52_1, xld22, xst22, len_bl Try.underlying9, fr18, wrap_int, wrap_u8, iteP_yes, iteP_no, c1, ap, pt] | refine iteP_two (fun hc hd => ?_) (fun hc hd => ?_) | refine iteP_intro (fun hc => ?_) (fun hc => ?_))
  refine ⟨⟨_, y, List.getElem?_set_self (by omega), .inr rfl, ?_⟩, by rw [List.length_set]; omega, fun h0 p hl => ?_⟩
  · rw [List.map_append, List.length_append]
    rcases V2 with g | g
    · exact .inl (g.frame (List.getElem?_set_ne (by have := g.bof.1; omega)))
    · exact .inr g
  · have p1 : Pfx h0 H1 := by rw [hH1]; exact p.set hl
    exact (old.1 h0 p1 (by omega)).set hl
theorem bytesOf_u8c (l : List UInt8) : bytesOf (l.map u8v) = some l := bytesOf_u8 l
theorem String_c (hX : XU ro X) {lo b : Nat} {h : Heap} {bs : List UInt8} (hB : BU lo b h bs) (hro : ro ≤ b) (hlo : b < lo) (h63 : bs.length ≤ 9223372036854775807) (hne : bs = [] → ∃ a, h[b]? = some ⟨52, [a, .slice none 0 0]⟩) :
    CallR Try.prog ro X 20 [.pointer (some ⟨b, 0, none⟩)] h (fun r h' => r = .string ⟨⟨bs⟩⟩ ∧ ∀ h0, Pfx h0 h → h0.length ≤ b → Pfx h0 h') := by
  by_cases hbs : bs = []
  · subst hbs
    obtain ⟨a, hb⟩ := hne rfl
    refine ⟨_, h, call_ext hX.str ?_, rfl, fun h0 p _ => p⟩
    simp only [fStr, hb, Option.bind_some]
    rw [if_pos ⟨hro, rfl⟩]
    rfl
  · obtain ⟨a, x, hb, ha, hV⟩ := hB
    have hn : 0 < bs.length := List.length_pos_iff.2 hbs
    rcases hV with ⟨hl, g, c, rfl, hg, hgk, _⟩ | ⟨h0, _⟩
    · refine ⟨_, _, call_ext hX.str ?_, rfl, fun h0 p hl => p.set (C := ⟨5, []⟩) (b := g) (by omega)⟩
      simp only [fStr, hb, Option.bind_some]
      rw [if_pos ⟨hro, rfl⟩]
      simp only [List.getElem?_cons_succ, List.getElem?_cons_zero, hgk, Option.bind_some, bytesOf_u8]
      rw [if_pos ⟨by omega, rfl, rfl, rfl, hn, h63⟩]
    · omega
end Go.Proofs.Yteignhphimfmkaa.Sim

/- Records as they are drawn. Lemmas only; no condition. -/
set_option linter.unusedSimpArgs false
set_option linter.unusedVariables false
set_option maxRecDepth 8000
namespace Go.Proofs.Yteignhphimfmkaa.Sim
open Go Go.RowKit
variable {ro : Nat} {X : Ext}
def dynB (P : Program) (ops : Array Oper) (nz : Nat → Bool) (ex : Nat → Nat → Bool) : Bool :=
  let m := befs ops.toList []
  (List.range ops.size).all fun i => match ops[i]? with
    | none => true
    | some o => ((edgesOf o).all fun e => Region.binds .any e && decide (e.on < i)) &&
      (List.range ops.size).all fun j => match ops[j]? with
        | none => true
        | some p => i == j || ((!(clash ops o p) || ordB m i j || ordB m j i) && (!(nz i && nz j) || ordB m i j || ordB m j i) && (!(nz i && !nz j) || ordB m i j || ordB m j i || deafOp P p.op || ex i j))
theorem dynFacts_of {P : Program} {ro : Nat} {C : Fns} {ops : Array Oper} {E : Nat → Env} {H : Nat → Heap} {V : Nat → Value} {nz : Nat → Bool} {ex : Nat → Nat → Bool} (hB : dynB P ops nz ex = true) (hq : ∀ i, nz i = false → H (i + 1) = H i)
    (hex : ∀ i j p, ops[j]? = some p → ex i j = true → aop P ro C p.op (E j) (H i) = some (V j, H i) ∧ aop P ro C p.op (E j) (H (i + 1)) = some (V j, H (i + 1))) : DynFacts P ro C ops E H V nz := by
  unfold dynB at hB
  simp only [List.all_eq_true, List.mem_range] at hB
  have get : ∀ (i j : Nat) (o p : Oper), ops[i]? = some o → ops[j]? = some p → i ≠ j → (clash ops o p = false ∨ ordB (befs ops.toList []) i j = true ∨ ordB (befs ops.toList []) j i = true) ∧ (nz i = true → nz j = true → ordB (befs ops.toList []) i j = true ∨ ordB (befs ops.toList []) j i = true) ∧ (nz i = true → nz j = false → ordB (befs ops.toList []) i j = true ∨ ordB (befs ops.toList []) j i = true ∨ deafOp P p.op = true ∨ ex i j = true) := by
    intro i j o p hi hj hne
    have h1 := hB i (lt_of_get hi)
    rw [hi] at h1
    simp only [Bool.and_eq_true, List.all_eq_true, List.mem_range] at h1
    have h2 := h1.2 j (lt_of_get hj)
    rw [hj] at h2
    simp only [Bool.or_eq_true, Bool.and_eq_true, beq_iff_eq, Bool.not_eq_true', Bool.and_eq_false_iff, Bool.not_eq_false'] at h2
    rcases h2 with q | ⟨⟨a, b⟩, c⟩
    · exact absurd q hne
    · refine ⟨?_, fun x y => ?_, fun x y => ?_⟩
      · rcases a with (a | a) | a
        · exact .inl a
        · exact .inr (.inl a)
        · exact .inr (.inr a)
      · rcases b with ((b | b) | b) | b
        · rw [x] at b; cases b
        · rw [y] at b; cases b
        · exact .inl b
        · exact .inr b
      · rcases c with ((((c | c) | c) | c) | c) | c
        · rw [x] at c; cases c
        · rw [y] at c; cases c
        · exact .inl c
        · exact .inr (.inl c)
        · exact .inr (.inr (.inl c))
        · exact .inr (.inr (.inr c))
  refine ⟨fun i o e hi he => ?_, fun i j o p hi hj hne => (get i j o p hi hj hne).1, hq, fun i j hne hi hj a b => (get i j _ _ (Array.getElem?_eq_getElem hi) (Array.getElem?_eq_getElem hj) hne).2.1 a b, fun i j p hj hi a b _ => ?_⟩
  · have h1 := hB i (lt_of_get hi)
    rw [hi] at h1
    simp only [Bool.and_eq_true, List.all_eq_true, decide_eq_true_eq] at h1
    exact h1.1 e he
  · have hne : i ≠ j := fun q => by rw [q] at a; rw [a] at b; cases b
    rcases (get i j _ p (Array.getElem?_eq_getElem hi) hj hne).2.2 a b with q | q | q | q
    · exact .inl q
    · exact .inr (.inl q)
    · exact .inr (.inr (.inl q))
    · exact .inr (.inr (.inr (hex i j p hj q)))
theorem put3 {h : Heap} {d i : Nat} {t : TypeId} {cs : List Value} {v : Value} (hb : h[d]? = some ⟨t, cs⟩) (hro : ro ≤ d) (hi : i + 1 ≤ cs.length) (hc : cellsOf v = [v]) (h1 : one v = true) : put ro h d i 1 v = some (h.set d ⟨t, splice cs i [v]⟩) := by
  have := putb (ro := ro) (n := 1) (o := i) (v := v) hb hro (by rw [hc]; rfl) hi (by rw [hc]; simp [h1])
  rw [hc] at this
  exact this
theorem Dst.set {b d : Nat} {h h' : Heap} {C : Blk} (g : Dst b h h') (hd : h.length ≤ d) : Dst b h (h'.set d C) := ⟨by rw [List.length_set]; exact g.1, fun j hj hb => by rw [List.getElem?_set_ne (by omega)]; exact g.2 j hj hb⟩
theorem SRC.set {lo hi b A d : Nat} {x : Value} {cd : List UInt8} {h : Heap} {C : Blk} (s : SRC lo hi b A x cd h) (hd : b < d) (hi2 : hi ≤ b) : SRC lo hi b A x cd (h.set d C) := s.frame (List.getElem?_set_ne (by omega)) fun j _ hj => List.getElem?_set_ne (by omega)
theorem Dst.pfx {h0 h1 h2 : Heap} {b : Nat} (p : Pfx h0 h1) (d : Dst b h1 h2) (hb : h0.length ≤ b) : Pfx h0 h2 := by
  refine List.ext_getElem? fun j => ?_
  rw [List.getElem?_take]
  have l1 := p.len
  by_cases q : j < h0.length
  · rw [if_pos q, d.2 j (by omega) (by omega)]; exact p.get q
  · rw [if_neg q, List.getElem?_eq_none (by omega)]

/-! ### Records as data -/
def rIx (fs : List (Int × List (Nat × Nat))) (j : Nat) : Int := (fs.getD j (0, [])).1
def rZn (fs : List (Int × List (Nat × Nat))) (j : Nat) : List (Nat × Nat) := (fs.getD j (0, [])).2
def rZs (fs : List (Int × List (Nat × Nat))) (j : Nat) : List Value := (rZn fs j).map cpx
structure RecOk (n : Nat) (fs : List (Int × List (Nat × Nat))) : Prop where
  n1 : 1 ≤ n
  n16 : n ≤ 16
  len : fs.length ≤ 64
  row : ∀ j, j < fs.length → (rZn fs j).length = n
  ok : ∀ j, j < fs.length → ∀ z ∈ rZn fs j, okZ z
  lo : ∀ j, j < fs.length → 0 ≤ rIx fs j
  hi : ∀ j, j < fs.length → rIx fs j ≤ 1000000
  inc : ∀ j, j + 1 < fs.length → rIx fs j < rIx fs (j + 1)
theorem rIx_left {fs : List (Int × List (Nat × Nat))} {g} {j : Nat} (h : j < fs.length) : rIx (fs ++ [g]) j = rIx fs j := by simp [rIx, List.getD_eq_getElem?_getD, List.getElem?_append_left h]
theorem rZn_left {fs : List (Int × List (Nat × Nat))} {g} {j : Nat} (h : j < fs.length) : rZn (fs ++ [g]) j = rZn fs j := by simp [rZn, List.getD_eq_getElem?_getD, List.getElem?_append_left h]
theorem rIx_last {fs : List (Int × List (Nat × Nat))} {g : Int × List (Nat × Nat)} : rIx (fs ++ [g]) fs.length = g.1 := by simp [rIx]
theorem rZn_last {fs : List (Int × List (Nat × Nat))} {g : Int × List (Nat × Nat)} : rZn (fs ++ [g]) fs.length = g.2 := by simp [rZn]
section nfc
variable {lo hi bx n m : Nat} {h : Heap} {L : List Value} {ix ix' : Nat → Int} {zs zs' : Nat → List Value}
theorem NF.cg (g : NF lo hi h bx n m L ix zs) (h1 : ∀ j, j < m → ix j = ix' j) (h2 : ∀ j, j < m → zs j = zs' j) : NF lo hi h bx n m L ix' zs' :=
  ⟨g.len, fun j hj => by rw [← h1 j hj]; exact g.idx j hj, fun j hj => by rw [← h2 j hj]; exact g.row j hj, g.rng, g.out, g.sep⟩
end nfc
theorem cpz_cpx : cpz = cpx := rfl
/-- What is told of a record's draw. -/
def RRec (args : List Value) (h : Heap) (q : Value × Heap) : Prop := ∃ (b n : Nat) (fs : List (Int × List (Nat × Nat))) (x : Value) (L : List Value), args = [.pointer (some ⟨b, 0, none⟩), .int .i64 n] ∧ q.1 = .agg ⟨[.int .i64 n, x]⟩ ∧ RecOk n fs ∧ fs.length ≤ 5 ∧ FrV (h.length + 1) q.2.length q.2 x n fs.length L (rIx fs) (rZs fs) ∧ Dst b h q.2
variable {lo hi b A : Nat} {x : Value} {cd : List UInt8} {h : Heap}
set_option maxHeartbeats 4000000 in
theorem recG (hW : XDW X) (hX : XN X) {c : Code} (hb : Try.f30.body = some c) {n : Nat} (n1 : 1 ≤ n) (n16 : n ≤ 16) (hS : SRC lo hi b A x cd h) (hro : ro ≤ b) (hq : hi ≤ b) (hA : A ≤ 1000000) (hl : cd.length ≤ 1099511627776) :
    ∃ k r h', runG Try.prog ro X Try.f30 c k [.pointer (some ⟨b, 0, none⟩), .int .i64 n] h = some (r, h') ∧ RRec [.pointer (some ⟨b, 0, none⟩), .int .i64 n] h (r, h') := by
  have hbl := hS.lt
  refine runG_of (R := fun r h' => RRec [.pointer (some ⟨b, 0, none⟩), .int .i64 n] h (r, h')) ?_
  cases hb
  refine WG_seq.2 (WG_good (N := 50) (by kernel_rfl) ?_)
  (repeat' first | simp -dsimp (disch := first | omega | assumption | (refine OkS.sto ?_ (by omega); first | assumption | (refine OkS.sto ?_ (by omega); first | assumption | (refine OkS.sto ?_ (by omega); first | assumption | (refine OkS.sto ?_ (by omega); first | assumption | (refine OkS.sto ?_ (by omega); first | assumption | (refine OkS.sto ?_ (by omega); first | assumption)))))) | exact Pfx.refl _ | (apply Pfx.snoc; repeat (first | exact Pfx.refl _ | assumption | apply Pfx.snoc)) | with_unfolding_all exact of_eq_true (eq_true rfl) | (simp only [List.length_append, List.length_cons, List.length_nil]; omega)) only [↓wpre0, ↓wpre1, ↓reduceIte, Int.reduceToNat, Nat.reduceAdd, Nat.reduceMul, Nat.reduceEqDiff, wpost0, wpost1, wpost2, wpost3, wpost4, ite_self, ite_true, ite_false, if_true, if_false, tze26, xbls24_0, xbls24_1, xbld26_0_1, xst26, bin_gtr, xfad26_1, xld24, xbld41_0_1, xst24, bin_add, bin_mul, bin_sub, xld26, fr30, wrap_int, wrap_u8, iteP_yes, iteP_no] | refine iteP_two (fun hc hd => ?_) (fun hc hd => ?_) | refine iteP_intro (fun hc => ?_) (fun hc => ?_))
  refine WG_seq.2 (WG_good (N := 50) (by kernel_rfl) ?_)
  (repeat' first | simp -dsimp (disch := first | omega | assumption | (refine OkS.sto ?_ (by omega); first | assumption | (refine OkS.sto ?_ (by omega); first | assumption | (refine OkS.sto ?_ (by omega); first | assumption | (refine OkS.sto ?_ (by omega); first | assumption | (refine OkS.sto ?_ (by omega); first | assumption | (refine OkS.sto ?_ (by omega); first | assumption)))))) | exact Pfx.refl _ | (apply Pfx.snoc; repeat (first | exact Pfx.refl _ | assumption | apply Pfx.snoc)) | with_unfolding_all exact of_eq_true (eq_true rfl) | (simp only [List.length_append, List.length_cons, List.length_nil]; omega)) only [↓wpre0, ↓wpre1, ↓reduceIte, Int.reduceToNat, Nat.reduceAdd, Nat.reduceMul, Nat.reduceEqDiff, wpost0, wpost1, wpost2, wpost3, wpost4, ite_self, ite_true, ite_false, if_true, if_false, tze26, xbls24_0, xbls24_1, xbld26_0_1, xst26, bin_gtr, xfad26_1, xld24, xbld41_0_1, xst24, bin_add, bin_mul, bin_sub, xld26, fr30, wrap_int, wrap_u8, iteP_yes, iteP_no] | refine iteP_two (fun hc hd => ?_) (fun hc hd => ?_) | refine iteP_intro (fun hc => ?_) (fun hc => ?_))
  refine WG_seq.2 (WG_good (N := 50) (by kernel_rfl) ?_)
  (repeat' first | simp -dsimp (disch := first | omega | assumption | (refine OkS.sto ?_ (by omega); first | assumption | (refine OkS.sto ?_ (by omega); first | assumption | (refine OkS.sto ?_ (by omega); first | assumption | (refine OkS.sto ?_ (by omega); first | assumption | (refine OkS.sto ?_ (by omega); first | assumption | (refine OkS.sto ?_ (by omega); first | assumption)))))) | exact Pfx.refl _ | (apply Pfx.snoc; repeat (first | exact Pfx.refl _ | assumption | apply Pfx.snoc)) | with_unfolding_all exact of_eq_true (eq_true rfl) | (simp only [List.length_append, List.length_cons, List.length_nil]; omega)) only [↓wpre0, ↓wpre1, ↓reduceIte, Int.reduceToNat, Nat.reduceAdd, Nat.reduceMul, Nat.reduceEqDiff, wpost0, wpost1, wpost2, wpost3, wpost4, ite_self, ite_true, ite_false, if_true, if_false, tze26, xbls24_0, xbls24_1, xbld26_0_1, xst26, bin_gtr, xfad26_1, xld24, xbld41_0_1, xst24, bin_add, bin_mul, bin_sub, xld26, fr30, wrap_int, wrap_u8, iteP_yes, iteP_no] | refine iteP_two (fun hc hd => ?_) (fun hc hd => ?_) | refine iteP_intro (fun hc => ?_) (fun hc => ?_))
  have S0 := ((hS.pre (Pfx.refl h).snoc (h' := h ++ [(⟨26, [.int .i64 0, .slice none 0 0]⟩ : Blk)])).pre (Pfx.refl _).snoc (h' := _ ++ [(⟨41, []⟩ : Blk)])).pre (Pfx.refl _).snoc (h' := _ ++ [(⟨26, [.int .i64 n, .slice (some ⟨h.length + 1, 0, none⟩) 0 0]⟩ : Blk)])
  simp only [List.length_append, List.length_cons, List.length_nil, Nat.zero_add, Nat.add_assoc, Nat.reduceAdd]
  generalize hH0 : (h ++ [(⟨26, [.int .i64 0, .slice none 0 0]⟩ : Blk)] ++ [(⟨41, []⟩ : Blk)] ++ [(⟨26, [.int .i64 n, .slice (some ⟨h.length + 1, 0, none⟩) 0 0]⟩ : Blk)]) = H0 at S0 ⊢
  have l0 : H0.length = h.length + 3 := by rw [← hH0]; simp
  have d0 : Dst b h H0 := ⟨by omega, fun j hj _ => by rw [← hH0]; simp [List.getElem?_append, hj, Nat.lt_add_right]⟩
  have D0 : H0[h.length + 2]? = some ⟨26, [.int .i64 n, .slice (some ⟨h.length + 1, 0, none⟩) 0 0]⟩ := by rw [← hH0]; simp [List.getElem?_append]
  have P0 : H0[h.length + 1]? = some ⟨41, []⟩ := by rw [← hH0]; simp [List.getElem?_append]
  have R0 : H0[h.length]? = some ⟨26, [.int .i64 0, .slice none 0 0]⟩ := by rw [← hH0]; simp [List.getElem?_append]
  refine cf_rel (pick_c hW.next hW.pick (n := 4) S0 hro hq (by omega) hl (by omega)) (fun q => by cases q) ?_
  rintro r H1 ⟨at0, rfl, _, hv, S1, o1⟩
  have hv4 := hv (by omega)
  have l1 := o1.1
  (repeat' first | simp -dsimp (disch := first | omega | assumption | (refine OkS.sto ?_ (by omega); first | assumption | (refine OkS.sto ?_ (by omega); first | assumption | (refine OkS.sto ?_ (by omega); first | assumption | (refine OkS.sto ?_ (by omega); first | assumption | (refine OkS.sto ?_ (by omega); first | assumption | (refine OkS.sto ?_ (by omega); first | assumption)))))) | exact Pfx.refl _ | (apply Pfx.snoc; repeat (first | exact Pfx.refl _ | assumption | apply Pfx.snoc)) | with_unfolding_all exact of_eq_true (eq_true rfl) | (simp only [List.length_append, List.length_cons, List.length_nil]; omega)) only [↓wpre0, ↓wpre1, ↓reduceIte, Int.reduceToNat, Nat.reduceAdd, Nat.reduceMul, Nat.reduceEqDiff, wpost0, wpost1, wpost2, wpost3, wpost4, ite_self, ite_true, ite_false, if_true, if_false, tze26, xbls24_0, xbls24_1, xbld26_0_1, xst26, bin_gtr, xfad26_1, xld24, xbld41_0_1, xst24, bin_add, bin_mul, bin_sub, xld26, fr30, wrap_int, wrap_u8, iteP_yes, iteP_no] | refine iteP_two (fun hc hd => ?_) (fun hc hd => ?_) | refine iteP_intro (fun hc => ?_) (fun hc => ?_))
  refine WG_seq.2 (WG_seq.2 (WG_good (N := 50) (by kernel_rfl) ?_))
  (repeat' first | simp -dsimp (disch := first | omega | assumption | (refine OkS.sto ?_ (by omega); first | assumption | (refine OkS.sto ?_ (by omega); first | assumption | (refine OkS.sto ?_ (by omega); first | assumption | (refine OkS.sto ?_ (by omega); first | assumption | (refine OkS.sto ?_ (by omega); first | assumption | (refine OkS.sto ?_ (by omega); first | assumption)))))) | exact Pfx.refl _ | (apply Pfx.snoc; repeat (first | exact Pfx.refl _ | assumption | apply Pfx.snoc)) | with_unfolding_all exact of_eq_true (eq_true rfl) | (simp only [List.length_append, List.length_cons, List.length_nil]; omega)) only [↓wpre0, ↓wpre1, ↓reduceIte, Int.reduceToNat, Nat.reduceAdd, Nat.reduceMul, Nat.reduceEqDiff, wpost0, wpost1, wpost2, wpost3, wpost4, ite_self, ite_true, ite_false, if_true, if_false, tze26, xbls24_0, xbls24_1, xbld26_0_1, xst26, bin_gtr, xfad26_1, xld24, xbld41_0_1, xst24, bin_add, bin_mul, bin_sub, xld26, fr30, wrap_int, wrap_u8, iteP_yes, iteP_no] | refine iteP_two (fun hc hd => ?_) (fun hc hd => ?_) | refine iteP_intro (fun hc => ?_) (fun hc => ?_))
  refine cf_rel (pick_c hW.next hW.pick (n := 6) S1 hro hq (by omega) hl (by omega)) (fun q => by cases q) ?_
  rintro r H2 ⟨v5, rfl, _, hv2, S2, o2⟩
  have hv6 := hv2 (by omega)
  have l2 := o2.1
  have o12 := Only.trans' o1 o2
  have D2 := (o12.2 (h.length + 2) (by omega)).trans D0
  have P2 := (o12.2 (h.length + 1) (by omega)).trans P0
  have R2 := (o12.2 h.length (by omega)).trans R0
  have d2 := d0.trans o12.dst
  (repeat' first | simp -dsimp (disch := first | omega | assumption | (refine OkS.sto ?_ (by omega); first | assumption | (refine OkS.sto ?_ (by omega); first | assumption | (refine OkS.sto ?_ (by omega); first | assumption | (refine OkS.sto ?_ (by omega); first | assumption | (refine OkS.sto ?_ (by omega); first | assumption | (refine OkS.sto ?_ (by omega); first | assumption)))))) | exact Pfx.refl _ | (apply Pfx.snoc; repeat (first | exact Pfx.refl _ | assumption | apply Pfx.snoc)) | with_unfolding_all exact of_eq_true (eq_true rfl) | (simp only [List.length_append, List.length_cons, List.length_nil]; omega)) only [↓wpre0, ↓wpre1, ↓reduceIte, Int.reduceToNat, Nat.reduceAdd, Nat.reduceMul, Nat.reduceEqDiff, wpost0, wpost1, wpost2, wpost3, wpost4, ite_self, ite_true, ite_false, if_true, if_false, tze26, xbls24_0, xbls24_1, xbld26_0_1, xst26, bin_gtr, xfad26_1, xld24, xbld41_0_1, xst24, bin_add, bin_mul, bin_sub, xld26, fr30, wrap_int, wrap_u8, iteP_yes, iteP_no] | refine iteP_two (fun hc hd => ?_) (fun hc hd => ?_) | refine iteP_intro (fun hc => ?_) (fun hc => ?_))
  have V2 : VG (h.length + 1) 41 2 H2 (.slice (some ⟨h.length + 1, 0, none⟩) 0 0) 0 [] := ⟨rfl, h.length + 1, 0, rfl, Nat.le_refl _, P2, fun _ => rfl⟩
  refine WG_block.2 ?_
  refine WG_rounds (fun m e h' => ∃ (fs : List (Int × List (Nat × Nat))) (at1 sb sc : Nat) (L : List Value), m = v5 - fs.length ∧ fs.length ≤ v5 ∧ e 0 = .pointer (some ⟨b, 0, none⟩) ∧ e 1 = .int .i64 n ∧ e 4 = .pointer (some ⟨h.length, 0, none⟩) ∧ e 5 = .pointer (some ⟨h.length + 2, 0, none⟩) ∧ e 6 = .int .i64 at1 ∧ e 7 = .int .i64 ((v5 - fs.length : Nat) : Int) ∧ VG (h.length + 1) 41 2 h' (.slice (some ⟨sb, 0, none⟩) fs.length sc) fs.length L ∧ NF (h.length + 3) h'.length h' sb n fs.length L (rIx fs) (rZs fs) ∧ sb ≠ h.length + 2 ∧ h'[h.length + 2]? = some ⟨26, [.int .i64 n, .slice (some ⟨sb, 0, none⟩) fs.length sc]⟩ ∧ SRC lo hi b (A + 4 + fs.length * 400) x cd h' ∧ Dst b h h' ∧ h.length + 3 ≤ h'.length ∧ h'[h.length]? = some ⟨26, [.int .i64 0, .slice none 0 0]⟩ ∧ at1 ≤ 3 + fs.length * 1203 ∧ RecOk n fs ∧ ∀ j, j < fs.length → rIx fs j < at1) ?_ v5 _ _ ⟨[], at0, h.length + 1, 0, [], rfl, ?_⟩
  · rintro m e h' ⟨fs, at1, sb, sc, L, hm, hk, g0, g1, g4, g5, g6, g7, hVs, hN, hsb, hD, hSi, hdi, hlen, hR, hat, hok, hlt⟩
    have hf5 : fs.length ≤ 5 := by omega
    refine WG_seq.2 (WG_good (N := 50) (by kernel_rfl) ?_)
    by_cases hin : fs.length < v5
    · (repeat' first | simp -dsimp (disch := first | omega | assumption | (refine OkS.sto ?_ (by omega); first | assumption | (refine OkS.sto ?_ (by omega); first | assumption | (refine OkS.sto ?_ (by omega); first | assumption | (refine OkS.sto ?_ (by omega); first | assumption | (refine OkS.sto ?_ (by omega); first | assumption | (refine OkS.sto ?_ (by omega); first | assumption)))))) | exact Pfx.refl _ | (apply Pfx.snoc; repeat (first | exact Pfx.refl _ | assumption | apply Pfx.snoc)) | with_unfolding_all exact of_eq_true (eq_true rfl) | (simp only [List.length_append, List.length_cons, List.length_nil]; omega)) only [↓wpre0, ↓wpre1, ↓reduceIte, Int.reduceToNat, Nat.reduceAdd, Nat.reduceMul, Nat.reduceEqDiff, wpost0, wpost1, wpost2, wpost3, wpost4, ite_self, ite_true, ite_false, if_true, if_false, tze26, xbls24_0, xbls24_1, xbld26_0_1, xst26, bin_gtr, xfad26_1, xld24, xbld41_0_1, xst24, bin_add, bin_mul, bin_sub, xld26, fr30, wrap_int, wrap_u8, iteP_yes, iteP_no, g0, g1, g4, g5, g6, g7] | refine iteP_two (fun hc hd => ?_) (fun hc hd => ?_) | refine iteP_intro (fun hc => ?_) (fun hc => ?_))
      refine WG_seq.2 (WG_block.2 ?_)
      obtain ⟨r, H5, ⟨n5, hc5⟩, zs, hzs, hzok, hVw, S6, o6⟩ := DrawComplexes_c hW (n := n) (by omega) hSi hro hq (by omega) hl
      rw [cpz_cpx] at hVw
      obtain ⟨hlw, wb', wc', rfl, hwb', hwk1, hwk2⟩ := id hVw
      have hVw2 : VG h'.length 65 1 H5 (.slice (some ⟨wb', 0, none⟩) n wc') n (zs.map cpx) := hVw
      have l6 := o6.1
      have D6 := (o6.2 (h.length + 2) (by omega) (by omega)).trans hD
      have hVb := hVs.bof
      have hVb1 : h.length + 1 ≤ sb := hVb.1
      have hVb2 : sb < h'.length := hVb.2
      have hV6 : VG (h.length + 1) 41 2 H5 (.slice (some ⟨sb, 0, none⟩) fs.length sc) fs.length L := hVs.frame (o6.2 _ hVb2 (by show sb ≠ b; omega))
      obtain ⟨H7, ap, vg, old, hHl⟩ := accK (P := Try.prog) (ro := ro) (T := 24) (M := [.int .i64 at1, .slice (some ⟨wb', 0, none⟩) n wc']) tel24 tsz41 tby41 tze41 (by decide) (.inl hV6) (by omega) (by omega) rfl rfl (by omega) (by omega)
      have keep : ∀ j, j < H5.length → j ≠ sb → H7[j]? = H5[j]? := fun j h1 h2 => old.2.1 j h1 (.inr h2)
      have DH := (keep (h.length + 2) (by omega) (Ne.symm hsb)).trans D6
      have pt := put3 (ro := ro) (i := 1) (v := .slice (some ⟨H5.length + 1, 0, none⟩) (fs.length + 1) (fs.length + 1 + 1)) DH (by omega) (by simp) rfl rfl
      have bl : bldS Try.prog H5 24 1 [(0, .agg ⟨[.int .i64 at1, .slice (some ⟨wb', 0, none⟩) n wc']⟩)] = some (.slice (some ⟨H5.length, 0, none⟩) 1 1, H5 ++ [⟨41, [.int .i64 at1, .slice (some ⟨wb', 0, none⟩) n wc']⟩]) := bldS_one (v := .agg ⟨[.int .i64 at1, .slice (some ⟨wb', 0, none⟩) n wc']⟩) tel24 tsz41 tze41 rfl (by decide) rfl rfl
      have ldA : ∀ g : Heap, g[h.length + 2]? = some ⟨26, [.int .i64 n, .slice (some ⟨sb, 0, none⟩) fs.length sc]⟩ → ld Try.prog g 24 (.pointer (some ⟨h.length + 2, 1, none⟩)) = some (.slice (some ⟨sb, 0, none⟩) fs.length sc) := fun g hg => by
        rw [xld24]
        exact cellb hg
      obtain ⟨Vf, hVf⟩ : ∃ Vf : Nat → Value, Vf = fun q => match q with | 0 => .pointer (some ⟨h.length + 2, 1, none⟩) | 1 => .slice (some ⟨sb, 0, none⟩) fs.length sc | 2 => .int .i64 at1 | 3 => .pointer (some ⟨b, 0, none⟩) | 4 => .int .i64 n | 5 => .slice (some ⟨wb', 0, none⟩) n wc' | 6 => .agg ⟨[.int .i64 at1, .slice (some ⟨wb', 0, none⟩) n wc']⟩ | 7 => .slice (some ⟨H5.length, 0, none⟩) 1 1 | 8 => .slice (some ⟨H5.length + 1, 0, none⟩) (fs.length + 1) (fs.length + 1 + 1) | 9 => .pointer (some ⟨h.length + 2, 1, none⟩) | _ => undef := ⟨_, rfl⟩
      obtain ⟨Hf, hHf⟩ : ∃ Hf : Nat → Heap, Hf = fun q => match q with | 0 => h' | 1 => h' | 2 => h' | 3 => h' | 4 => h' | 5 => h' | 6 => H5 | 7 => H5 | 8 => H5 ++ [⟨41, [.int .i64 at1, .slice (some ⟨wb', 0, none⟩) n wc']⟩] | 9 => H7 | 10 => H7 | _ => H7.set (h.length + 2) ⟨26, splice [.int .i64 n, .slice (some ⟨sb, 0, none⟩) fs.length sc] 1 [.slice (some ⟨H5.length + 1, 0, none⟩) (fs.length + 1) (fs.length + 1 + 1)]⟩ := ⟨_, rfl⟩
      have z0 : (updO (updO e (some 15) (.int .i64 ((v5 - fs.length : Nat) : Int))) (some 16) (.bool (decide (0 < ((v5 - fs.length : Nat) : Int))))) 0 = .pointer (some ⟨b, 0, none⟩) := g0
      have z1 : (updO (updO e (some 15) (.int .i64 ((v5 - fs.length : Nat) : Int))) (some 16) (.bool (decide (0 < ((v5 - fs.length : Nat) : Int))))) 1 = .int .i64 n := g1
      have z4 : (updO (updO e (some 15) (.int .i64 ((v5 - fs.length : Nat) : Int))) (some 16) (.bool (decide (0 < ((v5 - fs.length : Nat) : Int))))) 4 = .pointer (some ⟨h.length, 0, none⟩) := g4
      have z5 : (updO (updO e (some 15) (.int .i64 ((v5 - fs.length : Nat) : Int))) (some 16) (.bool (decide (0 < ((v5 - fs.length : Nat) : Int))))) 5 = .pointer (some ⟨h.length + 2, 0, none⟩) := g5
      have z6 : (updO (updO e (some 15) (.int .i64 ((v5 - fs.length : Nat) : Int))) (some 16) (.bool (decide (0 < ((v5 - fs.length : Nat) : Int))))) 6 = .int .i64 at1 := g6
      have z7 : (updO (updO e (some 15) (.int .i64 ((v5 - fs.length : Nat) : Int))) (some 16) (.bool (decide (0 < ((v5 - fs.length : Nat) : Int))))) 7 = .int .i64 ((v5 - fs.length : Nat) : Int) := g7
      generalize updO (updO e (some 15) (.int .i64 ((v5 - fs.length : Nat) : Int))) (some 16) (.bool (decide (0 < ((v5 - fs.length : Nat) : Int)))) = e0 at z0 z1 z4 z5 z6 z7 ⊢
      obtain ⟨Ef, hEf⟩ : ∃ Ef : Nat → Env, Ef = fun q => Nat.rec e0 (fun j E => updO E (match j with | 0 => some 19 | 1 => some 20 | 2 => some 21 | 3 => some 22 | 4 => some 23 | 5 => some 24 | 6 => some 25 | 7 => some 26 | 8 => some 27 | 9 => some 28 | _ => none) (Vf j)) q := ⟨_, rfl⟩
      refine WG_seq.2 (WG_dyn (e' := Ef 11) (h' := Hf 11) (by kernel_rfl) ⟨n5, Ef, Hf, Vf, fun q => q == 5 || q == 7 || q == 8 || q == 10, ?_, by rw [hEf]; rfl, by rw [hHf]; rfl, rfl, rfl, ?_⟩ ?_)
      · have hH6 : (H5 ++ [(⟨41, [.int .i64 at1, .slice (some ⟨wb', 0, none⟩) n wc']⟩ : Blk)])[h.length + 2]? = some ⟨26, [.int .i64 n, .slice (some ⟨sb, 0, none⟩) fs.length sc]⟩ := by rw [get_skip (by omega)]; exact D6
        refine dynFacts_of (ex := fun p q => q == 1 && (p == 5 || p == 7)) (by kernel_rfl) (fun q hz => ?_) (fun p q o ho hex => ?_)
        · subst hHf
          rcases q with _ | _ | _ | _ | _ | _ | _ | _ | _ | _ | _ | q
          all_goals first | rfl | (simp at hz; done) | skip
        · simp only [Bool.and_eq_true, beq_iff_eq, Bool.or_eq_true] at hex
          obtain ⟨rfl, hp⟩ := hex
          subst hEf hHf hVf
          change some _ = some o at ho
          cases ho
          rcases hp with rfl | rfl
          · exact ⟨(by show (ld Try.prog h' 24 (.pointer (some ⟨h.length + 2, 1, none⟩))).map _ = _; rw [ldA h' hD]; rfl), (by show (ld Try.prog H5 24 (.pointer (some ⟨h.length + 2, 1, none⟩))).map _ = _; rw [ldA H5 D6]; rfl)⟩
          · exact ⟨(by show (ld Try.prog H5 24 (.pointer (some ⟨h.length + 2, 1, none⟩))).map _ = _; rw [ldA H5 D6]; rfl), (by show (ld Try.prog (H5 ++ [(⟨41, [.int .i64 at1, .slice (some ⟨wb', 0, none⟩) n wc']⟩ : Blk)]) 24 (.pointer (some ⟨h.length + 2, 1, none⟩))).map _ = _; rw [ldA _ hH6]; rfl)⟩
      · intro q o ho
        rcases Nat.lt_or_ge q 11 with hq9 | hq9
        · have hc5' : callN Try.prog ro X n5 41 [.pointer (some ⟨b, 0, none⟩), .int .i64 n] h' = some (.slice (some ⟨wb', 0, none⟩) n wc', H5) := hc5
          subst hEf hHf hVf
          rcases q with _ | _ | _ | _ | _ | _ | _ | _ | _ | _ | _ | q
          all_goals (try omega)
          all_goals (change some _ = some o at ho; cases ho; refine ⟨.inl ⟨rfl, ?_⟩, rfl⟩)
          · show (fadr Try.prog 26 (e0 5) 1).map _ = _
            rw [z5]; rfl
          · show (ld Try.prog h' 24 (.pointer (some ⟨h.length + 2, 1, none⟩))).map _ = _
            rw [ldA h' hD]; rfl
          · show some (e0 6, h') = _
            rw [z6]; rfl
          · show some (e0 0, h') = _
            rw [z0]; rfl
          · show some (e0 1, h') = _
            rw [z1]; rfl
          · exact hc5'
          · have hbd : bld Try.prog 41 [(0, .int .i64 at1), (1, .slice (some ⟨wb', 0, none⟩) n wc')] = some (.agg ⟨[.int .i64 at1, .slice (some ⟨wb', 0, none⟩) n wc']⟩) := xbld41_0_1 rfl rfl
            exact congrArg (Option.map fun v => (v, H5)) hbd
          · exact bl
          · exact ap
          · show (fadr Try.prog 26 (e0 5) 1).map _ = _
            rw [z5]; rfl
          · show (stv Try.prog ro H7 24 (.pointer (some ⟨h.length + 2, 1, none⟩)) (.slice (some ⟨H5.length + 1, 0, none⟩) (fs.length + 1) (fs.length + 1 + 1))).map _ = _
            rw [show stv Try.prog ro H7 24 (.pointer (some ⟨h.length + 2, 1, none⟩)) (.slice (some ⟨H5.length + 1, 0, none⟩) (fs.length + 1) (fs.length + 1 + 1)) = put ro H7 (h.length + 2) 1 1 (.slice (some ⟨H5.length + 1, 0, none⟩) (fs.length + 1) (fs.length + 1 + 1)) from xst24, pt]
            rfl
        · rw [Array.getElem?_eq_none (by simpa using hq9)] at ho; cases ho
      · have f0 : Ef 11 0 = .pointer (some ⟨b, 0, none⟩) := by subst hEf hVf; exact z0
        have f1 : Ef 11 1 = .int .i64 n := by subst hEf hVf; exact z1
        have f4 : Ef 11 4 = .pointer (some ⟨h.length, 0, none⟩) := by subst hEf hVf; exact z4
        have f5 : Ef 11 5 = .pointer (some ⟨h.length + 2, 0, none⟩) := by subst hEf hVf; exact z5
        have f6 : Ef 11 6 = .int .i64 at1 := by subst hEf hVf; exact z6
        have f7 : Ef 11 7 = .int .i64 ((v5 - fs.length : Nat) : Int) := by subst hEf hVf; exact z7
        have h9 : Hf 11 = H7.set (h.length + 2) ⟨26, [.int .i64 n, .slice (some ⟨H5.length + 1, 0, none⟩) (fs.length + 1) (fs.length + 1 + 1)]⟩ := by subst hHf; rfl
        generalize Ef 11 = e9 at f0 f1 f4 f5 f6 f7 ⊢
        rw [h9]
        clear h9 hEf hHf hVf Ef Hf Vf z0 z1 z4 z5 z6 z7 g0 g1 g4 g5 g6 g7 ldA bl ap pt
        obtain ⟨K, hK⟩ : ∃ K, K = H7.set (h.length + 2) ⟨26, [.int .i64 n, .slice (some ⟨H5.length + 1, 0, none⟩) (fs.length + 1) (fs.length + 1 + 1)]⟩ := ⟨_, rfl⟩
        rw [← hK]
        have lK : K.length = H5.length + 2 := by rw [hK, List.length_set, hHl]
        have kK : ∀ j, j < H5.length → j ≠ sb → j ≠ h.length + 2 → K[j]? = H5[j]? := fun j h1 h2 h3 => by rw [hK, List.getElem?_set_ne (Ne.symm h3)]; exact keep j h1 h2
        have DK : K[h.length + 2]? = some ⟨26, [.int .i64 n, .slice (some ⟨H5.length + 1, 0, none⟩) (fs.length + 1) (fs.length + 1 + 1)]⟩ := by rw [hK]; exact List.getElem?_set_self (by omega)
        have SK : SRC lo hi b (A + 4 + fs.length * 400 + 2 + n * 20) x cd K := S6.frame (kK b (by omega) (by omega) (by omega)) fun j h1 h2 => kK j (by omega) (by omega) (by omega)
        have dK : Dst b h K := ⟨by omega, fun j hj hjb => by rw [kK j (by omega) (by omega) (by omega)]; exact (hdi.trans o6).2 j hj hjb⟩
        have RK : K[h.length]? = some ⟨26, [.int .i64 0, .slice none 0 0]⟩ := by rw [kK _ (by omega) (by omega) (by omega), o6.2 _ (by omega) (by omega)]; exact hR
        have VK : VG (h.length + 1) 41 2 K (.slice (some ⟨H5.length + 1, 0, none⟩) (fs.length + 1) (fs.length + 1 + 1)) (fs.length + 1) (L ++ [.int .i64 at1, .slice (some ⟨wb', 0, none⟩) n wc']) := vg.frame (by rw [hK]; exact List.getElem?_set_ne (by show h.length + 2 ≠ H5.length + 1; omega))
        have lwb : wb' < H5.length := hVw2.bof.2
        have NK : NF (h.length + 3) K.length K (H5.length + 1) n (fs.length + 1) (L ++ [.int .i64 at1, .slice (some ⟨wb', 0, none⟩) n wc']) (rIx (fs ++ [((at1 : Int), zs)])) (rZs (fs ++ [((at1 : Int), zs)])) := by
          have N1 : NF (h.length + 3) h'.length h' sb n fs.length L (rIx (fs ++ [((at1 : Int), zs)])) (rZs (fs ++ [((at1 : Int), zs)])) := hN.cg (fun j hj => (rIx_left hj).symm) (fun j hj => by unfold rZs; rw [rZn_left hj])
          have e1 : rIx (fs ++ [((at1 : Int), zs)]) fs.length = at1 := rIx_last
          have e2 : rZs (fs ++ [((at1 : Int), zs)]) fs.length = zs.map cpx := by unfold rZs; rw [rZn_last]
          have := N1.push (h' := K) (bx' := H5.length + 1) (hi' := K.length) (y := .slice (some ⟨wb', 0, none⟩) n wc') (fun j h1 h2 h3 => by rw [kK j (by omega) h3 (by omega)]; exact o6.2 j h2 (by omega)) (by rw [e2]; exact (hVw2.vs.frb (kK _ hVw2.bof.2 (by show wb' ≠ sb; omega) (by show wb' ≠ h.length + 2; omega)))) (by show h'.length ≤ wb'; exact hwb') (by omega) (by show wb' < K.length; omega) (by show wb' ≠ H5.length + 1; omega) (by omega) (by omega)
          rw [e1] at this
          exact this
        have hok' : RecOk n (fs ++ [((at1 : Int), zs)]) := by
          have hll : (fs ++ [((at1 : Int), zs)]).length = fs.length + 1 := by simp
          refine ⟨n1, n16, by omega, fun j hj => ?_, fun j hj => ?_, fun j hj => ?_, fun j hj => ?_, fun j hj => ?_⟩
          · by_cases q : j < fs.length
            · rw [rZn_left q]; exact hok.row j q
            · obtain rfl : j = fs.length := by omega
              rw [rZn_last]; exact hzs
          · by_cases q : j < fs.length
            · rw [rZn_left q]; exact hok.ok j q
            · obtain rfl : j = fs.length := by omega
              rw [rZn_last]; exact hzok
          · by_cases q : j < fs.length
            · rw [rIx_left q]; exact hok.lo j q
            · obtain rfl : j = fs.length := by omega
              rw [rIx_last]; exact Int.natCast_nonneg _
          · by_cases q : j < fs.length
            · rw [rIx_left q]; exact hok.hi j q
            · obtain rfl : j = fs.length := by omega
              rw [rIx_last]; show (at1 : Int) ≤ _; omega
          · by_cases q : j + 1 < fs.length
            · rw [rIx_left (by omega), rIx_left q]; exact hok.inc j q
            · have ej : j + 1 = fs.length := by omega
              rw [rIx_left (by omega), ej, rIx_last]
              exact hlt j (by omega)
        have hlt' : ∀ j, j < (fs ++ [((at1 : Int), zs)]).length → rIx (fs ++ [((at1 : Int), zs)]) j ≤ at1 := fun j hj => by
          by_cases q : j < fs.length
          · rw [rIx_left q]; exact Int.le_of_lt (hlt j q)
          · have hll : (fs ++ [((at1 : Int), zs)]).length = fs.length + 1 := by simp
            obtain rfl : j = fs.length := by omega
            rw [rIx_last]; exact Int.le_refl _
        have hll : (fs ++ [((at1 : Int), zs)]).length = fs.length + 1 := by simp
        generalize fs ++ [((at1 : Int), zs)] = fs' at NK hok' hlt' hll
        refine WG_good (N := 50) (by kernel_rfl) ?_
        (repeat' first | simp -dsimp (disch := first | omega | assumption | (refine OkS.sto ?_ (by omega); first | assumption | (refine OkS.sto ?_ (by omega); first | assumption | (refine OkS.sto ?_ (by omega); first | assumption | (refine OkS.sto ?_ (by omega); first | assumption | (refine OkS.sto ?_ (by omega); first | assumption | (refine OkS.sto ?_ (by omega); first | assumption)))))) | exact Pfx.refl _ | (apply Pfx.snoc; repeat (first | exact Pfx.refl _ | assumption | apply Pfx.snoc)) | with_unfolding_all exact of_eq_true (eq_true rfl) | (simp only [List.length_append, List.length_cons, List.length_nil]; omega)) only [↓wpre0, ↓wpre1, ↓reduceIte, Int.reduceToNat, Nat.reduceAdd, Nat.reduceMul, Nat.reduceEqDiff, wpost0, wpost1, wpost2, wpost3, wpost4, ite_self, ite_true, ite_false, if_true, if_false, tze26, xbls24_0, xbls24_1, xbld26_0_1, xst26, bin_gtr, xfad26_1, xld24, xbld41_0_1, xst24, bin_add, bin_mul, bin_sub, xld26, fr30, wrap_int, wrap_u8, iteP_yes, iteP_no, f0, f1, f4, f5, f6, f7] | refine iteP_two (fun hc hd => ?_) (fun hc hd => ?_) | refine iteP_intro (fun hc => ?_) (fun hc => ?_))
        refine cf_rel (pick_c hW.next hW.pick (n := 3) SK hro hq (by omega) hl (by omega)) (fun q => by cases q) ?_
        rintro r K1 ⟨p1, rfl, _, hp1, T1, oo1⟩
        have hp1 := hp1 (by omega)
        have lk1 := oo1.1
        (repeat' first | simp -dsimp (disch := first | omega | assumption | (refine OkS.sto ?_ (by omega); first | assumption | (refine OkS.sto ?_ (by omega); first | assumption | (refine OkS.sto ?_ (by omega); first | assumption | (refine OkS.sto ?_ (by omega); first | assumption | (refine OkS.sto ?_ (by omega); first | assumption | (refine OkS.sto ?_ (by omega); first | assumption)))))) | exact Pfx.refl _ | (apply Pfx.snoc; repeat (first | exact Pfx.refl _ | assumption | apply Pfx.snoc)) | with_unfolding_all exact of_eq_true (eq_true rfl) | (simp only [List.length_append, List.length_cons, List.length_nil]; omega)) only [↓wpre0, ↓wpre1, ↓reduceIte, Int.reduceToNat, Nat.reduceAdd, Nat.reduceMul, Nat.reduceEqDiff, wpost0, wpost1, wpost2, wpost3, wpost4, ite_self, ite_true, ite_false, if_true, if_false, tze26, xbls24_0, xbls24_1, xbld26_0_1, xst26, bin_gtr, xfad26_1, xld24, xbld41_0_1, xst24, bin_add, bin_mul, bin_sub, xld26, fr30, wrap_int, wrap_u8, iteP_yes, iteP_no, f0, f1, f4, f5, f6, f7] | refine iteP_two (fun hc hd => ?_) (fun hc hd => ?_) | refine iteP_intro (fun hc => ?_) (fun hc => ?_))
        refine cf_rel (one_c hW.next hW.pick hW.one (n := 20) T1 hro hq (by omega) hl (by omega)) (fun q => by cases q) ?_
        rintro r K2 ⟨cc, rfl, T2, oo2⟩
        have lk2 := oo2.1
        have oo12 := Only.trans' oo1 oo2
        have fin : ∀ (K3 : Heap) (at2 : Nat), Only b K K3 → SRC lo hi b (A + 4 + fs.length * 400 + 2 + n * 20 + 2 + 2 + 2) x cd K3 → at1 < at2 → at2 ≤ at1 + 1203 → ∀ w : Int, w = at2 → ∃ m', m' < m ∧ ∃ (fs' : List (Int × List (Nat × Nat))) (at1 sb sc : Nat) (L : List Value), m' = v5 - fs'.length ∧ fs'.length ≤ v5 ∧ Value.int .i64 w = .int .i64 at1 ∧ Value.int .i64 ((v5 - (fs.length + 1) : Nat) : Int) = .int .i64 ((v5 - fs'.length : Nat) : Int) ∧ VG (h.length + 1) 41 2 K3 (.slice (some ⟨sb, 0, none⟩) fs'.length sc) fs'.length L ∧ NF (h.length + 3) K3.length K3 sb n fs'.length L (rIx fs') (rZs fs') ∧ sb ≠ h.length + 2 ∧ K3[h.length + 2]? = some ⟨26, [.int .i64 n, .slice (some ⟨sb, 0, none⟩) fs'.length sc]⟩ ∧ SRC lo hi b (A + 4 + fs'.length * 400) x cd K3 ∧ Dst b h K3 ∧ h.length + 3 ≤ K3.length ∧ K3[h.length]? = some ⟨26, [.int .i64 0, .slice none 0 0]⟩ ∧ at1 ≤ 3 + fs'.length * 1203 ∧ RecOk n fs' ∧ ∀ j, j < fs'.length → rIx fs' j < at1 := by
          intro K3 at2 o3 T3 a1 a2 w hw
          have l3 := o3.1
          refine ⟨v5 - fs'.length, by omega, fs', at2, H5.length + 1, fs.length + 1 + 1, L ++ [.int .i64 at1, .slice (some ⟨wb', 0, none⟩) n wc'], rfl, by omega, by rw [hw], by rw [hll], ?_, ?_, by omega, ?_, T3.more (by omega), dK.trans o3.dst, by omega, ?_, by omega, hok', fun j hj => Int.lt_of_le_of_lt (hlt' j hj) (by omega)⟩
          · rw [hll]; exact VK.frame (o3.2 _ (by show H5.length + 1 ≠ b; omega))
          · rw [hll, l3]; exact NK.frame fun j h1 h2 h3 => o3.2 j (by omega)
          · rw [o3.2 _ (by omega), hll]; exact DK
          · rw [o3.2 _ (by omega)]; exact RK
        have e7 : ((v5 - fs.length : Nat) : Int) - 1 = ((v5 - (fs.length + 1) : Nat) : Int) := by omega
        cases cc with
        | false =>
          (repeat' first | simp -dsimp (disch := first | omega | assumption | (refine OkS.sto ?_ (by omega); first | assumption | (refine OkS.sto ?_ (by omega); first | assumption | (refine OkS.sto ?_ (by omega); first | assumption | (refine OkS.sto ?_ (by omega); first | assumption | (refine OkS.sto ?_ (by omega); first | assumption | (refine OkS.sto ?_ (by omega); first | assumption)))))) | exact Pfx.refl _ | (apply Pfx.snoc; repeat (first | exact Pfx.refl _ | assumption | apply Pfx.snoc)) | with_unfolding_all exact of_eq_true (eq_true rfl) | (simp only [List.length_append, List.length_cons, List.length_nil]; omega)) only [↓wpre0, ↓wpre1, ↓reduceIte, Int.reduceToNat, Nat.reduceAdd, Nat.reduceMul, Nat.reduceEqDiff, wpost0, wpost1, wpost2, wpost3, wpost4, ite_self, ite_true, ite_false, if_true, if_false, tze26, xbls24_0, xbls24_1, xbld26_0_1, xst26, bin_gtr, xfad26_1, xld24, xbld41_0_1, xst24, bin_add, bin_mul, bin_sub, xld26, fr30, wrap_int, wrap_u8, iteP_yes, iteP_no, f0, f1, f4, f5, f6, f7, e7] | refine iteP_two (fun hc hd => ?_) (fun hc hd => ?_) | refine iteP_intro (fun hc => ?_) (fun hc => ?_))
          refine WG_good (N := 50) (by kernel_rfl) ?_
          (repeat' first | simp -dsimp (disch := first | omega | assumption | (refine OkS.sto ?_ (by omega); first | assumption | (refine OkS.sto ?_ (by omega); first | assumption | (refine OkS.sto ?_ (by omega); first | assumption | (refine OkS.sto ?_ (by omega); first | assumption | (refine OkS.sto ?_ (by omega); first | assumption | (refine OkS.sto ?_ (by omega); first | assumption)))))) | exact Pfx.refl _ | (apply Pfx.snoc; repeat (first | exact Pfx.refl _ | assumption | apply Pfx.snoc)) | with_unfolding_all exact of_eq_true (eq_true rfl) | (simp only [List.length_append, List.length_cons, List.length_nil]; omega)) only [↓wpre0, ↓wpre1, ↓reduceIte, Int.reduceToNat, Nat.reduceAdd, Nat.reduceMul, Nat.reduceEqDiff, wpost0, wpost1, wpost2, wpost3, wpost4, ite_self, ite_true, ite_false, if_true, if_false, tze26, xbls24_0, xbls24_1, xbld26_0_1, xst26, bin_gtr, xfad26_1, xld24, xbld41_0_1, xst24, bin_add, bin_mul, bin_sub, xld26, fr30, wrap_int, wrap_u8, iteP_yes, iteP_no, f0, f1, f4, f5, f6, f7, e7] | refine iteP_two (fun hc hd => ?_) (fun hc hd => ?_) | refine iteP_intro (fun hc => ?_) (fun hc => ?_))
          exact fin K2 (at1 + (1 + p1)) oo12 (T2.more (by omega)) (by omega) (by omega) _ (by omega)
        | true =>
          (repeat' first | simp -dsimp (disch := first | omega | assumption | (refine OkS.sto ?_ (by omega); first | assumption | (refine OkS.sto ?_ (by omega); first | assumption | (refine OkS.sto ?_ (by omega); first | assumption | (refine OkS.sto ?_ (by omega); first | assumption | (refine OkS.sto ?_ (by omega); first | assumption | (refine OkS.sto ?_ (by omega); first | assumption)))))) | exact Pfx.refl _ | (apply Pfx.snoc; repeat (first | exact Pfx.refl _ | assumption | apply Pfx.snoc)) | with_unfolding_all exact of_eq_true (eq_true rfl) | (simp only [List.length_append, List.length_cons, List.length_nil]; omega)) only [↓wpre0, ↓wpre1, ↓reduceIte, Int.reduceToNat, Nat.reduceAdd, Nat.reduceMul, Nat.reduceEqDiff, wpost0, wpost1, wpost2, wpost3, wpost4, ite_self, ite_true, ite_false, if_true, if_false, tze26, xbls24_0, xbls24_1, xbld26_0_1, xst26, bin_gtr, xfad26_1, xld24, xbld41_0_1, xst24, bin_add, bin_mul, bin_sub, xld26, fr30, wrap_int, wrap_u8, iteP_yes, iteP_no, f0, f1, f4, f5, f6, f7, e7] | refine iteP_two (fun hc hd => ?_) (fun hc hd => ?_) | refine iteP_intro (fun hc => ?_) (fun hc => ?_))
          refine cf_rel (pick_c hW.next hW.pick (n := 5) T2 hro hq (by omega) hl (by omega)) (fun q => by cases q) ?_
          rintro r K3 ⟨p3, rfl, _, hp3, T3, oo3⟩
          have hp3 := hp3 (by omega)
          (repeat' first | simp -dsimp (disch := first | omega | assumption | (refine OkS.sto ?_ (by omega); first | assumption | (refine OkS.sto ?_ (by omega); first | assumption | (refine OkS.sto ?_ (by omega); first | assumption | (refine OkS.sto ?_ (by omega); first | assumption | (refine OkS.sto ?_ (by omega); first | assumption | (refine OkS.sto ?_ (by omega); first | assumption)))))) | exact Pfx.refl _ | (apply Pfx.snoc; repeat (first | exact Pfx.refl _ | assumption | apply Pfx.snoc)) | with_unfolding_all exact of_eq_true (eq_true rfl) | (simp only [List.length_append, List.length_cons, List.length_nil]; omega)) only [↓wpre0, ↓wpre1, ↓reduceIte, Int.reduceToNat, Nat.reduceAdd, Nat.reduceMul, Nat.reduceEqDiff, wpost0, wpost1, wpost2, wpost3, wpost4, ite_self, ite_true, ite_false, if_true, if_false, tze26, xbls24_0, xbls24_1, xbld26_0_1, xst26, bin_gtr, xfad26_1, xld24, xbld41_0_1, xst24, bin_add, bin_mul, bin_sub, xld26, fr30, wrap_int, wrap_u8, iteP_yes, iteP_no, f0, f1, f4, f5, f6, f7, e7] | refine iteP_two (fun hc hd => ?_) (fun hc hd => ?_) | refine iteP_intro (fun hc => ?_) (fun hc => ?_))
          refine WG_good (N := 50) (by kernel_rfl) ?_
          (repeat' first | simp -dsimp (disch := first | omega | assumption | (refine OkS.sto ?_ (by omega); first | assumption | (refine OkS.sto ?_ (by omega); first | assumption | (refine OkS.sto ?_ (by omega); first | assumption | (refine OkS.sto ?_ (by omega); first | assumption | (refine OkS.sto ?_ (by omega); first | assumption | (refine OkS.sto ?_ (by omega); first | assumption)))))) | exact Pfx.refl _ | (apply Pfx.snoc; repeat (first | exact Pfx.refl _ | assumption | apply Pfx.snoc)) | with_unfolding_all exact of_eq_true (eq_true rfl) | (simp only [List.length_append, List.length_cons, List.length_nil]; omega)) only [↓wpre0, ↓wpre1, ↓reduceIte, Int.reduceToNat, Nat.reduceAdd, Nat.reduceMul, Nat.reduceEqDiff, wpost0, wpost1, wpost2, wpost3, wpost4, ite_self, ite_true, ite_false, if_true, if_false, tze26, xbls24_0, xbls24_1, xbld26_0_1, xst26, bin_gtr, xfad26_1, xld24, xbld41_0_1, xst24, bin_add, bin_mul, bin_sub, xld26, fr30, wrap_int, wrap_u8, iteP_yes, iteP_no, f0, f1, f4, f5, f6, f7, e7] | refine iteP_two (fun hc hd => ?_) (fun hc hd => ?_) | refine iteP_intro (fun hc => ?_) (fun hc => ?_))
          exact fin K3 (at1 + (1 + p1) + 300 * p3) (Only.trans' oo12 oo3) T3 (by omega) (by omega) _ (by omega)
    · (repeat' first | simp -dsimp (disch := first | omega | assumption | (refine OkS.sto ?_ (by omega); first | assumption | (refine OkS.sto ?_ (by omega); first | assumption | (refine OkS.sto ?_ (by omega); first | assumption | (refine OkS.sto ?_ (by omega); first | assumption | (refine OkS.sto ?_ (by omega); first | assumption | (refine OkS.sto ?_ (by omega); first | assumption)))))) | exact Pfx.refl _ | (apply Pfx.snoc; repeat (first | exact Pfx.refl _ | assumption | apply Pfx.snoc)) | with_unfolding_all exact of_eq_true (eq_true rfl) | (simp only [List.length_append, List.length_cons, List.length_nil]; omega)) only [↓wpre0, ↓wpre1, ↓reduceIte, Int.reduceToNat, Nat.reduceAdd, Nat.reduceMul, Nat.reduceEqDiff, wpost0, wpost1, wpost2, wpost3, wpost4, ite_self, ite_true, ite_false, if_true, if_false, tze26, xbls24_0, xbls24_1, xbld26_0_1, xst26, bin_gtr, xfad26_1, xld24, xbld41_0_1, xst24, bin_add, bin_mul, bin_sub, xld26, fr30, wrap_int, wrap_u8, iteP_yes, iteP_no, g0, g1, g4, g5, g6, g7] | refine iteP_two (fun hc hd => ?_) (fun hc hd => ?_) | refine iteP_intro (fun hc => ?_) (fun hc => ?_))
      have cD : cells h' (h.length + 2) 0 2 = some (.agg ⟨[.int .i64 n, .slice (some ⟨sb, 0, none⟩) fs.length sc]⟩) := cellsb hD (by simp)
      have pR : put ro h' h.length 0 2 (.agg ⟨[.int .i64 n, .slice (some ⟨sb, 0, none⟩) fs.length sc]⟩) = some (h'.set h.length ⟨26, [.int .i64 n, .slice (some ⟨sb, 0, none⟩) fs.length sc]⟩) := put2 hR (by omega) rfl rfl
      have cR : cells (h'.set h.length ⟨26, [.int .i64 n, .slice (some ⟨sb, 0, none⟩) fs.length sc]⟩) h.length 0 2 = some (.agg ⟨[.int .i64 n, .slice (some ⟨sb, 0, none⟩) fs.length sc]⟩) := cellsb (List.getElem?_set_self (by omega)) (by simp)
      have hnf : ∀ h1 h2, endH (.agg ⟨[.int .i64 n, .slice (some ⟨sb, 0, none⟩) fs.length sc]⟩) h1 h2 = h2 := fun h1 h2 => endH_not rfl
      refine WG_good (N := 50) (by kernel_rfl) ?_
      (repeat' first | simp -dsimp (disch := first | omega | assumption | (refine OkS.sto ?_ (by omega); first | assumption | (refine OkS.sto ?_ (by omega); first | assumption | (refine OkS.sto ?_ (by omega); first | assumption | (refine OkS.sto ?_ (by omega); first | assumption | (refine OkS.sto ?_ (by omega); first | assumption | (refine OkS.sto ?_ (by omega); first | assumption)))))) | exact Pfx.refl _ | (apply Pfx.snoc; repeat (first | exact Pfx.refl _ | assumption | apply Pfx.snoc)) | with_unfolding_all exact of_eq_true (eq_true rfl) | (simp only [List.length_append, List.length_cons, List.length_nil]; omega)) only [↓wpre0, ↓wpre1, ↓reduceIte, Int.reduceToNat, Nat.reduceAdd, Nat.reduceMul, Nat.reduceEqDiff, wpost0, wpost1, wpost2, wpost3, wpost4, ite_self, ite_true, ite_false, if_true, if_false, tze26, xbls24_0, xbls24_1, xbld26_0_1, xst26, bin_gtr, xfad26_1, xld24, xbld41_0_1, xst24, bin_add, bin_mul, bin_sub, xld26, fr30, wrap_int, wrap_u8, iteP_yes, iteP_no, g0, g1, g4, g5, g6, g7, cD, pR, cR, hnf] | refine iteP_two (fun hc hd => ?_) (fun hc hd => ?_) | refine iteP_intro (fun hc => ?_) (fun hc => ?_))
      refine ⟨b, n, fs, _, L, rfl, rfl, hok, hf5, ?_, hdi.set (Nat.le_refl _)⟩
      have lS : (h'.set h.length ⟨26, [.int .i64 n, .slice (some ⟨sb, 0, none⟩) fs.length sc]⟩).length = h'.length := List.length_set ..
      have fV : FrV (h.length + 1) h'.length h' (.slice (some ⟨sb, 0, none⟩) fs.length sc) n fs.length L (rIx fs) (rZs fs) := ⟨hVs.vsl, hN.wide (by omega) (Nat.le_refl _)⟩
      show FrV _ (h'.set h.length _).length _ _ _ _ _ _ _
      rw [lS]
      exact fV.frame fun j h1 h2 => List.getElem?_set_ne (by omega)
  · simp only [updO_at, updO_not, entry_at, List.getD_cons_zero, List.getD_cons_succ, ↓reduceIte, Nat.reduceEqDiff, true_and, and_true]
    have eP : (h ++ [(⟨26, [.int .i64 0, .slice none 0 0]⟩ : Blk)] ++ [(⟨41, []⟩ : Blk)]).length = h.length + 2 := by simp
    refine ⟨Nat.zero_le _, by rw [eP], rfl, V2, NF.nil, by omega, D2, S2.more (by simp), d2, by omega, R2, ?_, ⟨n1, n16, by simp, ?_, ?_, ?_, ?_, ?_⟩, ?_⟩
    · simp; omega
    all_goals (intro j hj; simp at hj)
end Go.Proofs.Yteignhphimfmkaa.Sim

/- Records as a law draws them; whether records are valid and the same. Lemmas only; no condition. -/
set_option linter.unusedSimpArgs false
set_option linter.unusedVariables false
set_option maxRecDepth 8000
namespace Go.Proofs.Yteignhphimfmkaa.Sim
open Go Go.RowKit
variable {ro : Nat} {X : Ext}
noncomputable def cSized : Code := (Try.f30.body).get rfl
theorem cSized_body : Try.f30.body = some cSized := (Option.some_get _).symm
noncomputable def extK (ro : Nat) : Ext := fun f => if f = 30 then some (fG Try.prog ro (extU ro) Try.f30 cSized RRec) else extU ro f
theorem extK_ok {ro : Nat} {B : Base} : XOk Try.prog ro B (extK ro) := by
  intro f F hF args h r h' hr ρ w args' hs hB hargs
  unfold extK at hF
  split at hF
  · rename_i e
    subst e
    cases hF
    exact fG_ok rfl extU_ok Try.func30 cSized_body (by decide) (by kernel_rfl) hr hs hB hargs
  · exact extU_ok f F hF args h r h' hr ρ w args' hs hB hargs
theorem xn_extK (ro : Nat) : XN (extK ro) := fun f hf => by
  unfold extK
  split
  · rename_i e; subst e; exact absurd hf (by decide)
  · exact xn_extU ro f hf
theorem xu_extK (ro : Nat) : XU ro (extK ro) := ⟨xn_extK ro, rfl, rfl⟩
theorem xb_extK (ro : Nat) : XB (extK ro) := ⟨xn_extK ro, rfl, rfl⟩
theorem xw_extU (ro : Nat) : XDW (extU ro) := by
  have hX := xn_extU ro
  exact ⟨hX _ rfl, hX _ rfl, hX _ rfl, hX _ rfl, hX _ rfl, hX _ rfl, hX _ rfl, hX _ rfl, hX _ rfl, hX _ rfl, rfl⟩
variable {lo hi b A : Nat} {x : Value} {cd : List UInt8} {h : Heap}
theorem Sized_c {n : Nat} (n1 : 1 ≤ n) (n16 : n ≤ 16) (hS : SRC lo hi b A x cd h) (hro : ro ≤ b) (hq : hi ≤ b) (hA : A ≤ 1000000) (hl : cd.length ≤ 1099511627776) :
    CallR Try.prog ro (extK ro) 30 [.pointer (some ⟨b, 0, none⟩), .int .i64 n] h (fun r h' => ∃ (fs : List (Int × List (Nat × Nat))) (y : Value) (L : List Value), r = .agg ⟨[.int .i64 n, y]⟩ ∧ RecOk n fs ∧ fs.length ≤ 5 ∧ FrV (h.length + 1) h'.length h' y n fs.length L (rIx fs) (rZs fs) ∧ Dst b h h') := by
  obtain ⟨k, r, h', h1, h2⟩ := recG (xw_extU ro) (xn_extU ro) cSized_body n1 n16 hS hro hq hA hl
  obtain ⟨⟨r2, h3⟩, h4, h5⟩ := fG_of (P := Try.prog) (ro := ro) (X := extU ro) (fn := Try.f30) (c := cSized) (R := RRec) ⟨(r, h'), ⟨k, h1⟩, h2, Nat.le_of_ble_eq_true rfl⟩
  obtain ⟨b2, n2, fs, y, L, e1, e2, k1, k2, k3, k4⟩ := h5
  simp only [List.cons.injEq, Value.pointer.injEq, Option.some.injEq, Addr.mk.injEq, and_true, Value.int.injEq, true_and] at e1
  obtain ⟨rfl, e3⟩ := e1
  obtain rfl : n = n2 := by omega
  simp only at e2
  subst e2
  exact ⟨_, h3, call_ext (F := fG Try.prog ro (extU ro) Try.f30 cSized RRec) rfl h4, fs, y, L, rfl, k1, k2, k3, k4⟩
theorem FrV.set {lo hi n m d : Nat} {h : Heap} {C : Blk} {x : Value} {L : List Value} {ix : Nat → Int} {zs : Nat → List Value} (g : FrV lo hi h x n m L ix zs) (hd : d < lo) : FrV lo hi (h.set d C) x n m L ix zs := g.frame fun j h1 h2 => List.getElem?_set_ne (by omega)
theorem fr_shape {lo hi n m : Nat} {h : Heap} {x : Value} {L : List Value} {ix : Nat → Int} {zs : Nat → List Value} (g : FrV lo hi h x n m L ix zs) : flat x = false ∧ cellsOf x = [x] ∧ one x = true := g.1.shape
theorem fr_flat {lo hi n m : Nat} {h : Heap} {x : Value} {L : List Value} {ix : Nat → Int} {zs : Nat → List Value} (g : FrV lo hi h x n m L ix zs) (v : Int) : flat (.agg ⟨[.int .i64 v, x]⟩) = false := by
  rcases g.1 with ⟨_, ⟨_, rfl⟩ | ⟨b, o, cap, Bk, rfl, _⟩⟩ <;> rfl
theorem RecDraw_c (hS : SRC lo hi b A x cd h) (hro : ro ≤ b) (hq : hi ≤ b) (hA : A ≤ 100000) (hl : cd.length ≤ 1099511627776) :
    CallR Try.prog ro (extK ro) 17 [.pointer (some ⟨b, 0, none⟩)] h (fun r h' => ∃ (n : Nat) (fs : List (Int × List (Nat × Nat))) (y : Value) (L : List Value), r = .agg ⟨[.int .i64 n, y]⟩ ∧ n ≤ 3 ∧ RecOk n fs ∧ fs.length ≤ 5 ∧ FrV (h.length + 1) h'.length h' y n fs.length L (rIx fs) (rZs fs) ∧ Dst b h h') := by
  have hX := xn_extK ro
  have hbl := hS.lt
  have p0 : Pfx h (h ++ [(⟨26, [.int .i64 0, .slice none 0 0]⟩ : Blk)]) := (Pfx.refl h).snoc
  refine callR_of (hX _ rfl) Try.func17 rfl (by kernel_rfl) (Nat.le_of_ble_eq_true rfl) ?_
  (repeat' first | simp -dsimp (disch := first | omega | assumption | (refine OkS.sto ?_ (by omega); first | assumption | (refine OkS.sto ?_ (by omega); first | assumption | (refine OkS.sto ?_ (by omega); first | assumption | (refine OkS.sto ?_ (by omega); first | assumption | (refine OkS.sto ?_ (by omega); first | assumption | (refine OkS.sto ?_ (by omega); first | assumption)))))) | exact Pfx.refl _ | (apply Pfx.snoc; repeat (first | exact Pfx.refl _ | assumption | apply Pfx.snoc)) | with_unfolding_all exact of_eq_true (eq_true rfl) | (simp only [List.length_append, List.length_cons, List.length_nil]; omega)) only [↓wpre0, ↓wpre1, ↓reduceIte, Int.reduceToNat, Nat.reduceAdd, Nat.reduceMul, Nat.reduceEqDiff, wpost0, wpost1, wpost2, wpost3, wpost4, ite_self, ite_true, ite_false, if_true, if_false, tze26, bin_add, xst26, xld26, fr17, wrap_int, wrap_u8, iteP_yes, iteP_no] | refine iteP_two (fun hc hd => ?_) (fun hc hd => ?_) | refine iteP_intro (fun hc => ?_) (fun hc => ?_))
  refine cf_rel (pick_c (hX _ rfl) (hX _ rfl) (n := 3) (hS.pre p0) hro hq (by omega) hl (by omega)) (fun q => by cases q) ?_
  rintro r H1 ⟨v, rfl, _, hv, S1, o1⟩
  have hv := hv (by omega)
  have l1 := o1.1
  obtain ⟨n, hn⟩ : ∃ n : Nat, (n : Int) = 1 + (v : Int) := ⟨v + 1, by omega⟩
  (repeat' first | simp -dsimp (disch := first | omega | assumption | (refine OkS.sto ?_ (by omega); first | assumption | (refine OkS.sto ?_ (by omega); first | assumption | (refine OkS.sto ?_ (by omega); first | assumption | (refine OkS.sto ?_ (by omega); first | assumption | (refine OkS.sto ?_ (by omega); first | assumption | (refine OkS.sto ?_ (by omega); first | assumption)))))) | exact Pfx.refl _ | (apply Pfx.snoc; repeat (first | exact Pfx.refl _ | assumption | apply Pfx.snoc)) | with_unfolding_all exact of_eq_true (eq_true rfl) | (simp only [List.length_append, List.length_cons, List.length_nil]; omega)) only [↓wpre0, ↓wpre1, ↓reduceIte, Int.reduceToNat, Nat.reduceAdd, Nat.reduceMul, Nat.reduceEqDiff, wpost0, wpost1, wpost2, wpost3, wpost4, ite_self, ite_true, ite_false, if_true, if_false, tze26, bin_add, xst26, xld26, fr17, wrap_int, wrap_u8, iteP_yes, iteP_no, ← hn] | refine iteP_two (fun hc hd => ?_) (fun hc hd => ?_) | refine iteP_intro (fun hc => ?_) (fun hc => ?_))
  refine cf_rel (Sized_c (n := n) (by omega) (by omega) S1 hro hq (by omega) hl) (fun q => by cases q) ?_
  rintro r H2 ⟨fs, y, L, rfl, hok, h5, hF, d2⟩
  have l2 := d2.1
  have lh : (h ++ [(⟨26, [.int .i64 0, .slice none 0 0]⟩ : Blk)]).length = h.length + 1 := by simp
  have R1 : H1[h.length]? = some ⟨26, [.int .i64 0, .slice none 0 0]⟩ := by rw [o1.2 _ (by omega)]; exact get_last rfl
  have R2 : H2[h.length]? = some ⟨26, [.int .i64 0, .slice none 0 0]⟩ := by rw [d2.2 _ (by omega) (by omega)]; exact R1
  have sy := fr_shape hF
  have pR : put ro H2 h.length 0 2 (.agg ⟨[.int .i64 n, y]⟩) = some (H2.set h.length ⟨26, [.int .i64 n, y]⟩) := put2 R2 (by omega) rfl sy.2.2
  have cR : cells (H2.set h.length ⟨26, [.int .i64 n, y]⟩) h.length 0 2 = some (.agg ⟨[.int .i64 n, y]⟩) := cellsb (List.getElem?_set_self (by omega)) (by simp)
  have hnf : ∀ h1 h2, endH (.agg ⟨[.int .i64 n, y]⟩) h1 h2 = h2 := fun h1 h2 => endH_not (fr_flat hF _)
  (repeat' first | simp -dsimp (disch := first | omega | assumption | (refine OkS.sto ?_ (by omega); first | assumption | (refine OkS.sto ?_ (by omega); first | assumption | (refine OkS.sto ?_ (by omega); first | assumption | (refine OkS.sto ?_ (by omega); first | assumption | (refine OkS.sto ?_ (by omega); first | assumption | (refine OkS.sto ?_ (by omega); first | assumption)))))) | exact Pfx.refl _ | (apply Pfx.snoc; repeat (first | exact Pfx.refl _ | assumption | apply Pfx.snoc)) | with_unfolding_all exact of_eq_true (eq_true rfl) | (simp only [List.length_append, List.length_cons, List.length_nil]; omega)) only [↓wpre0, ↓wpre1, ↓reduceIte, Int.reduceToNat, Nat.reduceAdd, Nat.reduceMul, Nat.reduceEqDiff, wpost0, wpost1, wpost2, wpost3, wpost4, ite_self, ite_true, ite_false, if_true, if_false, tze26, bin_add, xst26, xld26, fr17, wrap_int, wrap_u8, iteP_yes, iteP_no, pR, cR, hnf] | refine iteP_two (fun hc hd => ?_) (fun hc hd => ?_) | refine iteP_intro (fun hc => ?_) (fun hc => ?_))
  refine ⟨n, fs, y, L, rfl, by omega, hok, h5, ?_, ?_⟩
  · show FrV _ (H2.set h.length _).length _ _ _ _ _ _ _
    rw [List.length_set]
    have hF' : FrV (h.length + 1) H2.length H2 y n fs.length L (rIx fs) (rZs fs) := ⟨hF.1.wide (by omega) (Nat.le_refl _), hF.2.wide (by omega) (Nat.le_refl _)⟩
    exact hF'.set (Nat.lt_succ_self _)
  · exact ((p0.dst.trans o1.dst).trans d2).set (Nat.le_refl _)
theorem Rec_c (hV : VS lo hi 1 h x cd.length (cd.map u8v)) (hhi : hi ≤ h.length) (hl : cd.length ≤ 1099511627776) (hro : ro ≤ h.length) :
    CallR Try.prog ro (extK ro) 5 [x] h (fun r h' => ∃ (n : Nat) (fs : List (Int × List (Nat × Nat))) (y : Value) (L : List Value), r = .agg ⟨[.int .i64 n, y]⟩ ∧ n ≤ 3 ∧ RecOk n fs ∧ fs.length ≤ 5 ∧ FrV h.length h'.length h' y n fs.length L (rIx fs) (rZs fs) ∧ Pfx h h') := by
  have hX := xn_extK ro
  have p0 : Pfx h (h ++ [(⟨26, [.int .i64 0, .slice none 0 0]⟩ : Blk)]) := (Pfx.refl h).snoc
  have lh : (h ++ [(⟨26, [.int .i64 0, .slice none 0 0]⟩ : Blk)]).length = h.length + 1 := by simp
  refine callR_of (hX _ rfl) Try.func5 rfl (by kernel_rfl) (Nat.le_of_ble_eq_true rfl) ?_
  (repeat' first | simp -dsimp (disch := first | omega | assumption | (refine OkS.sto ?_ (by omega); first | assumption | (refine OkS.sto ?_ (by omega); first | assumption | (refine OkS.sto ?_ (by omega); first | assumption | (refine OkS.sto ?_ (by omega); first | assumption | (refine OkS.sto ?_ (by omega); first | assumption | (refine OkS.sto ?_ (by omega); first | assumption)))))) | exact Pfx.refl _ | (apply Pfx.snoc; repeat (first | exact Pfx.refl _ | assumption | apply Pfx.snoc)) | with_unfolding_all exact of_eq_true (eq_true rfl) | (simp only [List.length_append, List.length_cons, List.length_nil]; omega)) only [↓wpre0, ↓wpre1, ↓reduceIte, Int.reduceToNat, Nat.reduceAdd, Nat.reduceMul, Nat.reduceEqDiff, wpost0, wpost1, wpost2, wpost3, wpost4, ite_self, ite_true, ite_false, if_true, if_false, tze26, xst26, xld26, fr5, wrap_int, wrap_u8, iteP_yes, iteP_no] | refine iteP_two (fun hc hd => ?_) (fun hc hd => ?_) | refine iteP_intro (fun hc => ?_) (fun hc => ?_))
  refine cf_rel (From_c (hX _ rfl) (hV.pre p0) (by omega)) (fun q => by cases q) ?_
  rintro r H1 ⟨rfl, p1, l1, S1⟩
  rw [lh] at S1 l1 ⊢
  (repeat' first | simp -dsimp (disch := first | omega | assumption | (refine OkS.sto ?_ (by omega); first | assumption | (refine OkS.sto ?_ (by omega); first | assumption | (refine OkS.sto ?_ (by omega); first | assumption | (refine OkS.sto ?_ (by omega); first | assumption | (refine OkS.sto ?_ (by omega); first | assumption | (refine OkS.sto ?_ (by omega); first | assumption)))))) | exact Pfx.refl _ | (apply Pfx.snoc; repeat (first | exact Pfx.refl _ | assumption | apply Pfx.snoc)) | with_unfolding_all exact of_eq_true (eq_true rfl) | (simp only [List.length_append, List.length_cons, List.length_nil]; omega)) only [↓wpre0, ↓wpre1, ↓reduceIte, Int.reduceToNat, Nat.reduceAdd, Nat.reduceMul, Nat.reduceEqDiff, wpost0, wpost1, wpost2, wpost3, wpost4, ite_self, ite_true, ite_false, if_true, if_false, tze26, xst26, xld26, fr5, wrap_int, wrap_u8, iteP_yes, iteP_no] | refine iteP_two (fun hc hd => ?_) (fun hc hd => ?_) | refine iteP_intro (fun hc => ?_) (fun hc => ?_))
  refine cf_rel (RecDraw_c S1 (by omega) (by omega) (by omega) hl) (fun q => by cases q) ?_
  rintro r H2 ⟨n, fs, y, L, rfl, n3, hok, h5, hF, d2⟩
  have l2 := d2.1
  have R1 : H1[h.length]? = some ⟨26, [.int .i64 0, .slice none 0 0]⟩ := by rw [p1.get (by omega)]; exact get_last rfl
  have R2 : H2[h.length]? = some ⟨26, [.int .i64 0, .slice none 0 0]⟩ := by rw [d2.2 _ (by omega) (by omega)]; exact R1
  have sy := fr_shape hF
  have pR : put ro H2 h.length 0 2 (.agg ⟨[.int .i64 n, y]⟩) = some (H2.set h.length ⟨26, [.int .i64 n, y]⟩) := put2 R2 (by omega) rfl sy.2.2
  have cR : cells (H2.set h.length ⟨26, [.int .i64 n, y]⟩) h.length 0 2 = some (.agg ⟨[.int .i64 n, y]⟩) := cellsb (List.getElem?_set_self (by omega)) (by simp)
  have hnf : ∀ h1 h2, endH (.agg ⟨[.int .i64 n, y]⟩) h1 h2 = h2 := fun h1 h2 => endH_not (fr_flat hF _)
  (repeat' first | simp -dsimp (disch := first | omega | assumption | (refine OkS.sto ?_ (by omega); first | assumption | (refine OkS.sto ?_ (by omega); first | assumption | (refine OkS.sto ?_ (by omega); first | assumption | (refine OkS.sto ?_ (by omega); first | assumption | (refine OkS.sto ?_ (by omega); first | assumption | (refine OkS.sto ?_ (by omega); first | assumption)))))) | exact Pfx.refl _ | (apply Pfx.snoc; repeat (first | exact Pfx.refl _ | assumption | apply Pfx.snoc)) | with_unfolding_all exact of_eq_true (eq_true rfl) | (simp only [List.length_append, List.length_cons, List.length_nil]; omega)) only [↓wpre0, ↓wpre1, ↓reduceIte, Int.reduceToNat, Nat.reduceAdd, Nat.reduceMul, Nat.reduceEqDiff, wpost0, wpost1, wpost2, wpost3, wpost4, ite_self, ite_true, ite_false, if_true, if_false, tze26, xst26, xld26, fr5, wrap_int, wrap_u8, iteP_yes, iteP_no, pR, cR, hnf] | refine iteP_two (fun hc hd => ?_) (fun hc hd => ?_) | refine iteP_intro (fun hc => ?_) (fun hc => ?_))
  refine ⟨n, fs, y, L, rfl, n3, hok, h5, ?_, ?_⟩
  · show FrV _ (H2.set h.length _).length _ _ _ _ _ _ _
    rw [List.length_set]
    have hF' : FrV (h.length + 1) H2.length H2 y n fs.length L (rIx fs) (rZs fs) := ⟨hF.1.wide (by omega) (Nat.le_refl _), hF.2.wide (by omega) (Nat.le_refl _)⟩
    exact (⟨(hF'.set (Nat.lt_succ_self _)).1.wide (by omega) (Nat.le_refl _), (hF'.set (Nat.lt_succ_self _)).2.wide (by omega) (Nat.le_refl _)⟩ : FrV h.length H2.length _ y n fs.length L (rIx fs) (rZs fs))
  · exact (Dst.pfx (p0.trans p1) d2 (by omega)).set (Nat.le_refl _)
/-- A record's data. -/
structure RD (n m : Nat) (ix : Nat → Int) (zn : Nat → List (Nat × Nat)) : Prop where
  n1 : 1 ≤ n
  n16 : n ≤ 16
  len : m ≤ 64
  row : ∀ j, j < m → (zn j).length = n
  ok : ∀ j, j < m → ∀ z ∈ zn j, okZ z
  lo : ∀ j, j < m → 0 ≤ ix j
  hi : ∀ j, j < m → ix j ≤ 1000000
  inc : ∀ j, j + 1 < m → ix j < ix (j + 1)
theorem RecOk.rd {n : Nat} {fs : List (Int × List (Nat × Nat))} (k : RecOk n fs) : RD n fs.length (rIx fs) (rZn fs) := ⟨k.n1, k.n16, k.len, k.row, k.ok, k.lo, k.hi, k.inc⟩
variable {n m : Nat} {L : List Value} {ix : Nat → Int} {zn : Nat → List (Nat × Nat)}
/-- A record in a heap. -/
def RV (h : Heap) (x : Value) (n m : Nat) (ix : Nat → Int) (zn : Nat → List (Nat × Nat)) : Prop := ∃ lo hi L, hi ≤ h.length ∧ FrV lo hi h x n m L ix (fun j => (zn j).map cpx)
theorem RV.pre {h' : Heap} (g : RV h x n m ix zn) (p : Pfx h h') : RV h' x n m ix zn := by
  obtain ⟨lo, hi, L, h1, h2⟩ := g
  exact ⟨lo, hi, L, Nat.le_trans h1 p.len, h2.pre p⟩
set_option maxHeartbeats 2000000 in
theorem ValidRec_r (hX : XN X) (hr : RV h x n m ix zn) (hd : RD n m ix zn) (hro : ro ≤ h.length) : Ret Try.prog ro X 9 [.agg ⟨[.int .i64 n, x]⟩] h (.bool true) := by
  obtain ⟨lo, hi, L, hhi, hI, hG⟩ := hr
  have n1 := hd.n1
  have n16 := hd.n16
  have m64 := hd.len
  have sx := hI.shape
  have hb : boxV h 26 (.agg ⟨[.int .i64 n, x]⟩) = some (.pointer (some ⟨h.length, 0, none⟩), h ++ [⟨26, [.int .i64 n, x]⟩]) := by
    have e : cellsOf (.agg ⟨[.int .i64 n, x]⟩) = [.int .i64 n, x] := rfl
    unfold boxV
    rw [e, if_pos (by simp only [List.all_cons, List.all_nil, sx.2.2, Bool.and_true]; rfl)]
  have p0 : Pfx h (h ++ [(⟨26, [.int .i64 n, x]⟩ : Blk)]) := (Pfx.refl h).snoc
  have lb : (h ++ [(⟨26, [.int .i64 n, x]⟩ : Blk)]).length = h.length + 1 := by simp
  refine ret_of (callR_of (hX _ rfl) Try.func9 rfl (by kernel_rfl) (Nat.le_of_ble_eq_true rfl) ?_)
  have hcn : count (n : Int) = true := by simp only [count, Bool.and_eq_true, decide_eq_true_eq]; omega
  (repeat' first | simp -dsimp (disch := first | omega | assumption | (refine OkS.sto ?_ (by omega); first | assumption | (refine OkS.sto ?_ (by omega); first | assumption | (refine OkS.sto ?_ (by omega); first | assumption | (refine OkS.sto ?_ (by omega); first | assumption | (refine OkS.sto ?_ (by omega); first | assumption | (refine OkS.sto ?_ (by omega); first | assumption)))))) | exact Pfx.refl _ | (apply Pfx.snoc; repeat (first | exact Pfx.refl _ | assumption | apply Pfx.snoc)) | with_unfolding_all exact of_eq_true (eq_true rfl) | (simp only [List.length_append, List.length_cons, List.length_nil]; omega)) only [↓wpre0, ↓wpre1, ↓reduceIte, Int.reduceToNat, Nat.reduceAdd, Nat.reduceMul, Nat.reduceEqDiff, wpost0, wpost1, wpost2, wpost3, wpost4, ite_self, ite_true, ite_false, if_true, if_false, xfad26_0, xld2, un_not, xfad26_1, xld24, xlen24, bin_gtr, bin_lss, xiad24, xld41, tze41, xst41, xfad41_0, xfad41_1, xld39, xlen39, bin_neq, bin_sub, bin_leq, bin_add, fr9, wrap_int, wrap_u8, iteP_yes, iteP_no, hb, hI.len Try.underlying24, cf_eq (isCount_c hX _ _), hcn] | refine iteP_two (fun hc hd => ?_) (fun hc hd => ?_) | refine iteP_intro (fun hc => ?_) (fun hc => ?_))
  refine loop_rounds (fun mm e h' => ∃ i : Nat, mm = m - i ∧ i ≤ m ∧ Pfx (h ++ [(⟨26, [.int .i64 n, x]⟩ : Blk)]) h' ∧ e 1 = .pointer (some ⟨h.length, 0, none⟩) ∧ e 16 = x ∧ e 17 = .int .i64 m ∧ e 18 = .int .i64 i) _ ⟨0, rfl, ?_⟩ ?_
  · simp only [updO_at, updO_not, entry_at, List.getD_cons_zero, List.getD_cons_succ, ↓reduceIte, Nat.reduceEqDiff, true_and, and_true]
    exact ⟨Nat.zero_le _, Pfx.refl _, rfl⟩
  · rintro mm e h' ⟨i, hmm, hle, hp, g1, g16, g17, g18⟩
    have hlp := hp.len
    have hks : (i : Int) + 1 = ((i + 1 : Nat) : Int) := by omega
    by_cases hin : i < m
    · have hI2 := hI.pre (p0.trans hp)
      have hG2 := hG.pre (p0.trans hp)
      have q1 := hI2.ld2 (P := Try.prog) tsz41 tag41 hin
      rw [hG2.idx i hin] at q1
      have hrow := hG2.row i hin
      obtain ⟨y, hy⟩ : ∃ y, y = vth L (i * 2 + 1) := ⟨_, rfl⟩
      rw [← hy] at q1 hrow
      have sy := hrow.shape
      have hbl : h'[h.length]? = some ⟨26, [.int .i64 n, x]⟩ := by rw [hp.get (by omega)]; exact get_last rfl
      have d0 : cell h' h.length 0 = some (.int .i64 n) := cellb hbl
      have d1 : cell h' h.length 1 = some x := cellb hbl
      have lt0 : h.length < h'.length := by omega
      have pF : put ro (h' ++ [(⟨41, [.int .i64 0, .slice none 0 0]⟩ : Blk)]) h'.length 0 2 (.agg ⟨[.int .i64 (ix i), y]⟩) = some (h' ++ [⟨41, [.int .i64 (ix i), y]⟩]) := put_last2 (by omega) rfl sy.2.2
      have hlo := hd.lo i hin
      have hhi2 := hd.hi i hin
      have hix : (decide (0 ≤ ix i) && decide (ix i ≤ 1000000)) = true := by simp only [Bool.and_eq_true, decide_eq_true_eq]; exact ⟨hlo, hhi2⟩
      have pN := hp.snoc (C := ⟨41, [.int .i64 (ix i), y]⟩)
      by_cases h0 : i = 0
      · have hi0 : ¬ (0 < (i : Int)) := by omega
        (repeat' first | simp -dsimp (disch := first | omega | assumption | (refine OkS.sto ?_ (by omega); first | assumption | (refine OkS.sto ?_ (by omega); first | assumption | (refine OkS.sto ?_ (by omega); first | assumption | (refine OkS.sto ?_ (by omega); first | assumption | (refine OkS.sto ?_ (by omega); first | assumption | (refine OkS.sto ?_ (by omega); first | assumption)))))) | exact Pfx.refl _ | (apply Pfx.snoc; repeat (first | exact Pfx.refl _ | assumption | apply Pfx.snoc)) | with_unfolding_all exact of_eq_true (eq_true rfl) | (simp only [List.length_append, List.length_cons, List.length_nil]; omega)) only [↓wpre0, ↓wpre1, ↓reduceIte, Int.reduceToNat, Nat.reduceAdd, Nat.reduceMul, Nat.reduceEqDiff, wpost0, wpost1, wpost2, wpost3, wpost4, ite_self, ite_true, ite_false, if_true, if_false, xfad26_0, xld2, un_not, xfad26_1, xld24, xlen24, bin_gtr, bin_lss, xiad24, xld41, tze41, xst41, xfad41_0, xfad41_1, xld39, xlen39, bin_neq, bin_sub, bin_leq, bin_add, fr9, wrap_int, wrap_u8, iteP_yes, iteP_no, g1, g16, g17, g18, VS.iad hI2 Try.underlying24 tsz41, q1, pF, d0, d1, hrow.len Try.underlying39, isIndex_r hX, hix, hi0] | refine iteP_two (fun hc hd => ?_) (fun hc hd => ?_) | refine iteP_intro (fun hc => ?_) (fun hc => ?_))
        exact ⟨m - (i + 1), by omega, i + 1, rfl, by omega, pN, by rw [hks]⟩
      · have hi0 : 0 < (i : Int) := by omega
        have ej : ((i : Int) - 1).toNat = i - 1 := by omega
        have q0 := VS.ld1 (P := Try.prog) (hI.pre (p0.trans pN)) tsz2 tag2 (c := (i - 1) * 2) (by omega)
        rw [hG2.idx (i - 1) (by omega)] at q0
        have hinc := hd.inc (i - 1) (by omega)
        rw [show i - 1 + 1 = i by omega] at hinc
        have hle' : ¬ ix i ≤ ix (i - 1) := by omega
        (repeat' first | simp -dsimp (disch := first | omega | assumption | (refine OkS.sto ?_ (by omega); first | assumption | (refine OkS.sto ?_ (by omega); first | assumption | (refine OkS.sto ?_ (by omega); first | assumption | (refine OkS.sto ?_ (by omega); first | assumption | (refine OkS.sto ?_ (by omega); first | assumption | (refine OkS.sto ?_ (by omega); first | assumption)))))) | exact Pfx.refl _ | (apply Pfx.snoc; repeat (first | exact Pfx.refl _ | assumption | apply Pfx.snoc)) | with_unfolding_all exact of_eq_true (eq_true rfl) | (simp only [List.length_append, List.length_cons, List.length_nil]; omega)) only [↓wpre0, ↓wpre1, ↓reduceIte, Int.reduceToNat, Nat.reduceAdd, Nat.reduceMul, Nat.reduceEqDiff, wpost0, wpost1, wpost2, wpost3, wpost4, ite_self, ite_true, ite_false, if_true, if_false, xfad26_0, xld2, un_not, xfad26_1, xld24, xlen24, bin_gtr, bin_lss, xiad24, xld41, tze41, xst41, xfad41_0, xfad41_1, xld39, xlen39, bin_neq, bin_sub, bin_leq, bin_add, fr9, wrap_int, wrap_u8, iteP_yes, iteP_no, g1, g16, g17, g18, VS.iad hI2 Try.underlying24 tsz41, VS.fad hI2 tfi41_0 (by decide), Nat.add_zero, ej, q0, q1, pF, d0, d1, hrow.len Try.underlying39, isIndex_r hX, hix, hi0, hle'] | refine iteP_two (fun hc hd => ?_) (fun hc hd => ?_) | refine iteP_intro (fun hc => ?_) (fun hc => ?_))
        exact ⟨m - (i + 1), by omega, i + 1, rfl, by omega, pN, by rw [hks]⟩
    · have ei : i = m := by omega
      subst ei
      have ef : endH (.bool true) h h' = h := endH_flat rfl (p0.trans hp)
      (repeat' first | simp -dsimp (disch := first | omega | assumption | (refine OkS.sto ?_ (by omega); first | assumption | (refine OkS.sto ?_ (by omega); first | assumption | (refine OkS.sto ?_ (by omega); first | assumption | (refine OkS.sto ?_ (by omega); first | assumption | (refine OkS.sto ?_ (by omega); first | assumption | (refine OkS.sto ?_ (by omega); first | assumption)))))) | exact Pfx.refl _ | (apply Pfx.snoc; repeat (first | exact Pfx.refl _ | assumption | apply Pfx.snoc)) | with_unfolding_all exact of_eq_true (eq_true rfl) | (simp only [List.length_append, List.length_cons, List.length_nil]; omega)) only [↓wpre0, ↓wpre1, ↓reduceIte, Int.reduceToNat, Nat.reduceAdd, Nat.reduceMul, Nat.reduceEqDiff, wpost0, wpost1, wpost2, wpost3, wpost4, ite_self, ite_true, ite_false, if_true, if_false, xfad26_0, xld2, un_not, xfad26_1, xld24, xlen24, bin_gtr, bin_lss, xiad24, xld41, tze41, xst41, xfad41_0, xfad41_1, xld39, xlen39, bin_neq, bin_sub, bin_leq, bin_add, fr9, wrap_int, wrap_u8, iteP_yes, iteP_no, g1, g16, g17, g18, ef] | refine iteP_two (fun hc hd => ?_) (fun hc hd => ?_) | refine iteP_intro (fun hc => ?_) (fun hc => ?_))
end Go.Proofs.Yteignhphimfmkaa.Sim

/- Whether records and rows are the same. Lemmas only; no condition. -/
set_option linter.unusedSimpArgs false
set_option linter.unusedVariables false
set_option maxRecDepth 8000
namespace Go.Proofs.Yteignhphimfmkaa.Sim
open Go Go.RowKit
variable {ro : Nat} {X : Ext}
theorem widen_any {b : Nat} (hn : (FloatKind.f32.decode b).isNaN = false) : ∃ w, fconv .f32 b .f64 = some w ∧ (FloatKind.f64.decode w).isNaN = false := by
  cases hd : FloatKind.f32.decode b with
  | nan s t => rw [hd] at hn; cases hn
  | infinity s =>
    have e : fconv .f32 b .f64 = some (cf .f64 (FloatKind.f64.encode (.infinity s))) := by
      unfold fconv
      rw [hn]
      simp only [floatToFloatBits, hd]
      rfl
    refine ⟨_, e, ?_⟩
    cases s <;> decide +kernel
  | number s m p =>
    obtain ⟨_, q, rfl, _⟩ := Fl.read_mag hd
    obtain ⟨r, h1, h2⟩ := Fl.widen_fin (b := b) ⟨s, m, q, hd, rfl⟩
    exact ⟨r, h1, h2.notNaN⟩
theorem signK_r (hX : XN X) (hB : X 51 = some (ext1 gBits)) {b : Nat} (hn : (FloatKind.f64.decode b).isNaN = false) (h : Heap) : ∃ t, Ret Try.prog ro X 48 [.float .f64 b] h (.bool t) := by
  have hc : Ret Try.prog ro X 51 [.float .f64 b] h (.int .u64 b) := fun _ _ => cf_eq (call_ext hB (by simp only [ext1, gBits, hn, Bool.false_eq_true, if_false, Option.map_some]))
  have : CallR Try.prog ro X 48 [.float .f64 b] h (fun r h' => (∃ t, r = .bool t) ∧ h' = h) := by
    refine callR_of (hX _ rfl) Try.func48 rfl (by kernel_rfl) (Nat.le_of_ble_eq_true rfl) ?_
    (repeat' first | simp -dsimp (disch := first | omega | assumption | (refine OkS.sto ?_ (by omega); first | assumption | (refine OkS.sto ?_ (by omega); first | assumption | (refine OkS.sto ?_ (by omega); first | assumption | (refine OkS.sto ?_ (by omega); first | assumption | (refine OkS.sto ?_ (by omega); first | assumption | (refine OkS.sto ?_ (by omega); first | assumption)))))) | exact Pfx.refl _ | (apply Pfx.snoc; repeat (first | exact Pfx.refl _ | assumption | apply Pfx.snoc)) | with_unfolding_all exact of_eq_true (eq_true rfl) | (simp only [List.length_append, List.length_cons, List.length_nil]; omega)) only [↓wpre0, ↓wpre1, ↓reduceIte, Int.reduceToNat, Nat.reduceAdd, Nat.reduceMul, Nat.reduceEqDiff, wpost0, wpost1, wpost2, wpost3, wpost4, ite_self, ite_true, ite_false, if_true, if_false, xcv66_2, bin_lss, fr48, wrap_int, wrap_u8, iteP_yes, iteP_no, hc] | refine iteP_two (fun hc hd => ?_) (fun hc hd => ?_) | refine iteP_intro (fun hc => ?_) (fun hc => ?_))
    all_goals exact ⟨_, rfl⟩
  obtain ⟨r, h', h1, ⟨t, rfl⟩, rfl⟩ := this
  exact ⟨t, fun _ _ => cf_eq h1⟩
theorem SameNum_r (hX : XN X) (hB : X 51 = some (ext1 gBits)) (b : Nat) (h : Heap) : Ret Try.prog ro X 39 [.float .f32 b, .float .f32 b] h (.bool true) := by
  by_cases hn : (FloatKind.f32.decode b).isNaN = true
  · have e1 : fcmp .eql .f32 b b = false := by rw [order_self, hn]; rfl
    refine ret_of (callR_of (hX _ rfl) Try.func39 rfl (by kernel_rfl) (Nat.le_of_ble_eq_true rfl) ?_)
    (repeat' first | simp -dsimp (disch := first | omega | assumption | (refine OkS.sto ?_ (by omega); first | assumption | (refine OkS.sto ?_ (by omega); first | assumption | (refine OkS.sto ?_ (by omega); first | assumption | (refine OkS.sto ?_ (by omega); first | assumption | (refine OkS.sto ?_ (by omega); first | assumption | (refine OkS.sto ?_ (by omega); first | assumption)))))) | exact Pfx.refl _ | (apply Pfx.snoc; repeat (first | exact Pfx.refl _ | assumption | apply Pfx.snoc)) | with_unfolding_all exact of_eq_true (eq_true rfl) | (simp only [List.length_append, List.length_cons, List.length_nil]; omega)) only [↓wpre0, ↓wpre1, ↓reduceIte, Int.reduceToNat, Nat.reduceAdd, Nat.reduceMul, Nat.reduceEqDiff, wpost0, wpost1, wpost2, wpost3, wpost4, ite_self, ite_true, ite_false, if_true, if_false, bin_fneq, bin_feql, xcv73_91, xbeql4, fr39, wrap_int, wrap_u8, iteP_yes, iteP_no, e1] | refine iteP_two (fun hc hd => ?_) (fun hc hd => ?_) | refine iteP_intro (fun hc => ?_) (fun hc => ?_))
  · have hn : (FloatKind.f32.decode b).isNaN = false := by simpa using hn
    obtain ⟨w, hw, wn⟩ := widen_any hn
    obtain ⟨t, ht⟩ := signK_r (ro := ro) hX hB wn h
    have e1 : fcmp .eql .f32 b b = true := by rw [order_self, hn]; rfl
    have cw : aconv Try.prog h 73 91 (.float .f32 b) = some (.float .f64 w) := by rw [conv_ff Try.underlying73 Try.underlying91, hw]; rfl
    refine ret_of (callR_of (hX _ rfl) Try.func39 rfl (by kernel_rfl) (Nat.le_of_ble_eq_true rfl) ?_)
    (repeat' first | simp -dsimp (disch := first | omega | assumption | (refine OkS.sto ?_ (by omega); first | assumption | (refine OkS.sto ?_ (by omega); first | assumption | (refine OkS.sto ?_ (by omega); first | assumption | (refine OkS.sto ?_ (by omega); first | assumption | (refine OkS.sto ?_ (by omega); first | assumption | (refine OkS.sto ?_ (by omega); first | assumption)))))) | exact Pfx.refl _ | (apply Pfx.snoc; repeat (first | exact Pfx.refl _ | assumption | apply Pfx.snoc)) | with_unfolding_all exact of_eq_true (eq_true rfl) | (simp only [List.length_append, List.length_cons, List.length_nil]; omega)) only [↓wpre0, ↓wpre1, ↓reduceIte, Int.reduceToNat, Nat.reduceAdd, Nat.reduceMul, Nat.reduceEqDiff, wpost0, wpost1, wpost2, wpost3, wpost4, ite_self, ite_true, ite_false, if_true, if_false, bin_fneq, bin_feql, xcv73_91, xbeql4, fr39, wrap_int, wrap_u8, iteP_yes, iteP_no, e1, cw, ht] | refine iteP_two (fun hc hd => ?_) (fun hc hd => ?_) | refine iteP_intro (fun hc => ?_) (fun hc => ?_))
    all_goals (cases t <;> rfl)
theorem SameCpx_r (hX : XN X) (hB : X 51 = some (ext1 gBits)) (z : Nat × Nat) (h : Heap) : Ret Try.prog ro X 28 [cpx z, cpx z] h (.bool true) := by
  show Ret Try.prog ro X 28 [.complex .f32 z.1 z.2, .complex .f32 z.1 z.2] h (.bool true)
  refine ret_of (callR_of (hX _ rfl) Try.func28 rfl (by kernel_rfl) (Nat.le_of_ble_eq_true rfl) ?_)
  (repeat' first | simp -dsimp (disch := first | omega | assumption | (refine OkS.sto ?_ (by omega); first | assumption | (refine OkS.sto ?_ (by omega); first | assumption | (refine OkS.sto ?_ (by omega); first | assumption | (refine OkS.sto ?_ (by omega); first | assumption | (refine OkS.sto ?_ (by omega); first | assumption | (refine OkS.sto ?_ (by omega); first | assumption)))))) | exact Pfx.refl _ | (apply Pfx.snoc; repeat (first | exact Pfx.refl _ | assumption | apply Pfx.snoc)) | with_unfolding_all exact of_eq_true (eq_true rfl) | (simp only [List.length_append, List.length_cons, List.length_nil]; omega)) only [↓wpre0, ↓wpre1, ↓reduceIte, Int.reduceToNat, Nat.reduceAdd, Nat.reduceMul, Nat.reduceEqDiff, wpost0, wpost1, wpost2, wpost3, wpost4, ite_self, ite_true, ite_false, if_true, if_false, blt_real, blt_imag, fr28, wrap_int, wrap_u8, iteP_yes, iteP_no, SameNum_r hX hB z.1, SameNum_r hX hB z.2] | refine iteP_two (fun hc hd => ?_) (fun hc hd => ?_) | refine iteP_intro (fun hc => ?_) (fun hc => ?_))
variable {h : Heap} {x y : Value} {n m lo hi lo' hi' : Nat} {zs : List (Nat × Nat)}
theorem r8Same_r (hX : XN X) (hB : X 51 = some (ext1 gBits)) (hI : VS lo hi 1 h x n (zs.map cpx)) (hJ : VS lo' hi' 1 h y n (zs.map cpx)) (hn : n ≤ 1000) : Ret Try.prog ro X 14 [x, y] h (.bool true) := by
  have hl : zs.length = n := by have := hI.1; simpa using this
  refine ret_of (callR_of (hX _ rfl) Try.func14 rfl (by kernel_rfl) (Nat.le_of_ble_eq_true rfl) ?_)
  (repeat' first | simp -dsimp (disch := first | omega | assumption | (refine OkS.sto ?_ (by omega); first | assumption | (refine OkS.sto ?_ (by omega); first | assumption | (refine OkS.sto ?_ (by omega); first | assumption | (refine OkS.sto ?_ (by omega); first | assumption | (refine OkS.sto ?_ (by omega); first | assumption | (refine OkS.sto ?_ (by omega); first | assumption)))))) | exact Pfx.refl _ | (apply Pfx.snoc; repeat (first | exact Pfx.refl _ | assumption | apply Pfx.snoc)) | with_unfolding_all exact of_eq_true (eq_true rfl) | (simp only [List.length_append, List.length_cons, List.length_nil]; omega)) only [↓wpre0, ↓wpre1, ↓reduceIte, Int.reduceToNat, Nat.reduceAdd, Nat.reduceMul, Nat.reduceEqDiff, wpost0, wpost1, wpost2, wpost3, wpost4, ite_self, ite_true, ite_false, if_true, if_false, xlen39, bin_neq, bin_lss, xiad39, xld65, un_not, bin_add, fr14, wrap_int, wrap_u8, iteP_yes, iteP_no, hI.len Try.underlying39, hJ.len Try.underlying39] | refine iteP_two (fun hc hd => ?_) (fun hc hd => ?_) | refine iteP_intro (fun hc => ?_) (fun hc => ?_))
  refine loop_rounds (fun k e h' => ∃ i : Nat, k = n - i ∧ i ≤ n ∧ h' = h ∧ e 0 = x ∧ e 1 = y ∧ e 5 = .int .i64 i) _ ⟨0, rfl, ?_⟩ ?_
  · simp only [updO_at, updO_not, entry_at, List.getD_cons_zero, List.getD_cons_succ, ↓reduceIte, Nat.reduceEqDiff, true_and, and_true]
    exact ⟨by omega, rfl⟩
  · rintro k e h' ⟨i, hk, hle, rfl, g0, g1, g5⟩
    by_cases hin : i < n
    · have q1 := hI.ld1 (P := Try.prog) tsz65 tag65 (c := i * 1) (by omega)
      have q2 := hJ.ld1 (P := Try.prog) tsz65 tag65 (c := i * 1) (by omega)
      rw [Nat.mul_one, vth_map (by omega)] at q1 q2
      (repeat' first | simp -dsimp (disch := first | omega | assumption | (refine OkS.sto ?_ (by omega); first | assumption | (refine OkS.sto ?_ (by omega); first | assumption | (refine OkS.sto ?_ (by omega); first | assumption | (refine OkS.sto ?_ (by omega); first | assumption | (refine OkS.sto ?_ (by omega); first | assumption | (refine OkS.sto ?_ (by omega); first | assumption)))))) | exact Pfx.refl _ | (apply Pfx.snoc; repeat (first | exact Pfx.refl _ | assumption | apply Pfx.snoc)) | with_unfolding_all exact of_eq_true (eq_true rfl) | (simp only [List.length_append, List.length_cons, List.length_nil]; omega)) only [↓wpre0, ↓wpre1, ↓reduceIte, Int.reduceToNat, Nat.reduceAdd, Nat.reduceMul, Nat.reduceEqDiff, wpost0, wpost1, wpost2, wpost3, wpost4, ite_self, ite_true, ite_false, if_true, if_false, xlen39, bin_neq, bin_lss, xiad39, xld65, un_not, bin_add, fr14, wrap_int, wrap_u8, iteP_yes, iteP_no, g0, g1, g5, hI.len Try.underlying39, hJ.len Try.underlying39, VS.iad hI Try.underlying39 tsz65, VS.iad hJ Try.underlying39 tsz65, Nat.mul_one, q1, q2, SameCpx_r hX hB] | refine iteP_two (fun hc hd => ?_) (fun hc hd => ?_) | refine iteP_intro (fun hc => ?_) (fun hc => ?_))
      exact ⟨_, by omega, i + 1, rfl, by omega, by simp⟩
    · have : i = n := by omega
      subst this
      (repeat' first | simp -dsimp (disch := first | omega | assumption | (refine OkS.sto ?_ (by omega); first | assumption | (refine OkS.sto ?_ (by omega); first | assumption | (refine OkS.sto ?_ (by omega); first | assumption | (refine OkS.sto ?_ (by omega); first | assumption | (refine OkS.sto ?_ (by omega); first | assumption | (refine OkS.sto ?_ (by omega); first | assumption)))))) | exact Pfx.refl _ | (apply Pfx.snoc; repeat (first | exact Pfx.refl _ | assumption | apply Pfx.snoc)) | with_unfolding_all exact of_eq_true (eq_true rfl) | (simp only [List.length_append, List.length_cons, List.length_nil]; omega)) only [↓wpre0, ↓wpre1, ↓reduceIte, Int.reduceToNat, Nat.reduceAdd, Nat.reduceMul, Nat.reduceEqDiff, wpost0, wpost1, wpost2, wpost3, wpost4, ite_self, ite_true, ite_false, if_true, if_false, xlen39, bin_neq, bin_lss, xiad39, xld65, un_not, bin_add, fr14, wrap_int, wrap_u8, iteP_yes, iteP_no, g0, g1, g5, hI.len Try.underlying39, hJ.len Try.underlying39] | refine iteP_two (fun hc hd => ?_) (fun hc hd => ?_) | refine iteP_intro (fun hc => ?_) (fun hc => ?_))
theorem EqC_r (hX : XN X) (hB : X 51 = some (ext1 gBits)) (hI : VS lo hi 1 h x n (zs.map cpx)) (hJ : VS lo' hi' 1 h y n (zs.map cpx)) (hn : n ≤ 1000) : Ret Try.prog ro X 45 [x, y, .func (.func 28) ⟨[]⟩ ⟨[]⟩] h (.bool true) := by
  have hl : zs.length = n := by have := hI.1; simpa using this
  refine ret_of (callR_of (hX _ rfl) Try.func45 rfl (by kernel_rfl) (Nat.le_of_ble_eq_true rfl) ?_)
  (repeat' first | simp -dsimp (disch := first | omega | assumption | (refine OkS.sto ?_ (by omega); first | assumption | (refine OkS.sto ?_ (by omega); first | assumption | (refine OkS.sto ?_ (by omega); first | assumption | (refine OkS.sto ?_ (by omega); first | assumption | (refine OkS.sto ?_ (by omega); first | assumption | (refine OkS.sto ?_ (by omega); first | assumption)))))) | exact Pfx.refl _ | (apply Pfx.snoc; repeat (first | exact Pfx.refl _ | assumption | apply Pfx.snoc)) | with_unfolding_all exact of_eq_true (eq_true rfl) | (simp only [List.length_append, List.length_cons, List.length_nil]; omega)) only [↓wpre0, ↓wpre1, ↓reduceIte, Int.reduceToNat, Nat.reduceAdd, Nat.reduceMul, Nat.reduceEqDiff, wpost0, wpost1, wpost2, wpost3, wpost4, ite_self, ite_true, ite_false, if_true, if_false, xlen39, bin_neq, bin_lss, xiad39, xld65, un_not, bin_add, fr45, wrap_int, wrap_u8, iteP_yes, iteP_no, hI.len Try.underlying39, hJ.len Try.underlying39] | refine iteP_two (fun hc hd => ?_) (fun hc hd => ?_) | refine iteP_intro (fun hc => ?_) (fun hc => ?_))
  refine loop_rounds (fun k e h' => ∃ i : Nat, k = n - i ∧ i ≤ n ∧ h' = h ∧ e 1 = y ∧ e 2 = .func (.func 28) ⟨[]⟩ ⟨[]⟩ ∧ e 15 = x ∧ e 16 = .int .i64 n ∧ e 17 = .int .i64 i) _ ⟨0, rfl, ?_⟩ ?_
  · simp only [updO_at, updO_not, entry_at, List.getD_cons_zero, List.getD_cons_succ, ↓reduceIte, Nat.reduceEqDiff, true_and, and_true]
    exact ⟨by omega, rfl⟩
  · rintro k e h' ⟨i, hk, hle, rfl, g1, g2, g15, g16, g17⟩
    by_cases hin : i < n
    · have q1 := hI.ld1 (P := Try.prog) tsz65 tag65 (c := i * 1) (by omega)
      have q2 := hJ.ld1 (P := Try.prog) tsz65 tag65 (c := i * 1) (by omega)
      rw [Nat.mul_one, vth_map (by omega)] at q1 q2
      (repeat' first | simp -dsimp (disch := first | omega | assumption | (refine OkS.sto ?_ (by omega); first | assumption | (refine OkS.sto ?_ (by omega); first | assumption | (refine OkS.sto ?_ (by omega); first | assumption | (refine OkS.sto ?_ (by omega); first | assumption | (refine OkS.sto ?_ (by omega); first | assumption | (refine OkS.sto ?_ (by omega); first | assumption)))))) | exact Pfx.refl _ | (apply Pfx.snoc; repeat (first | exact Pfx.refl _ | assumption | apply Pfx.snoc)) | with_unfolding_all exact of_eq_true (eq_true rfl) | (simp only [List.length_append, List.length_cons, List.length_nil]; omega)) only [↓wpre0, ↓wpre1, ↓reduceIte, Int.reduceToNat, Nat.reduceAdd, Nat.reduceMul, Nat.reduceEqDiff, wpost0, wpost1, wpost2, wpost3, wpost4, ite_self, ite_true, ite_false, if_true, if_false, xlen39, bin_neq, bin_lss, xiad39, xld65, un_not, bin_add, fr45, wrap_int, wrap_u8, iteP_yes, iteP_no, g1, g2, g15, g16, g17, VS.iad hI Try.underlying39 tsz65, VS.iad hJ Try.underlying39 tsz65, Nat.mul_one, q1, q2, SameCpx_r hX hB] | refine iteP_two (fun hc hd => ?_) (fun hc hd => ?_) | refine iteP_intro (fun hc => ?_) (fun hc => ?_))
      exact ⟨_, by omega, i + 1, rfl, by omega, by simp⟩
    · have : i = n := by omega
      subst this
      (repeat' first | simp -dsimp (disch := first | omega | assumption | (refine OkS.sto ?_ (by omega); first | assumption | (refine OkS.sto ?_ (by omega); first | assumption | (refine OkS.sto ?_ (by omega); first | assumption | (refine OkS.sto ?_ (by omega); first | assumption | (refine OkS.sto ?_ (by omega); first | assumption | (refine OkS.sto ?_ (by omega); first | assumption)))))) | exact Pfx.refl _ | (apply Pfx.snoc; repeat (first | exact Pfx.refl _ | assumption | apply Pfx.snoc)) | with_unfolding_all exact of_eq_true (eq_true rfl) | (simp only [List.length_append, List.length_cons, List.length_nil]; omega)) only [↓wpre0, ↓wpre1, ↓reduceIte, Int.reduceToNat, Nat.reduceAdd, Nat.reduceMul, Nat.reduceEqDiff, wpost0, wpost1, wpost2, wpost3, wpost4, ite_self, ite_true, ite_false, if_true, if_false, xlen39, bin_neq, bin_lss, xiad39, xld65, un_not, bin_add, fr45, wrap_int, wrap_u8, iteP_yes, iteP_no, g1, g2, g15, g16, g17] | refine iteP_two (fun hc hd => ?_) (fun hc hd => ?_) | refine iteP_intro (fun hc => ?_) (fun hc => ?_))
theorem SameRow_r (hX : XN X) (hB : X 51 = some (ext1 gBits)) (hI : VS lo hi 1 h x n (zs.map cpx)) (hJ : VS lo' hi' 1 h y n (zs.map cpx)) (hn : n ≤ 1000) : Ret Try.prog ro X 35 [x, y] h (.bool true) := by
  refine ret_of (callR_of (hX _ rfl) Try.func35 rfl (by kernel_rfl) (Nat.le_of_ble_eq_true rfl) ?_)
  (repeat' first | simp -dsimp (disch := first | omega | assumption | (refine OkS.sto ?_ (by omega); first | assumption | (refine OkS.sto ?_ (by omega); first | assumption | (refine OkS.sto ?_ (by omega); first | assumption | (refine OkS.sto ?_ (by omega); first | assumption | (refine OkS.sto ?_ (by omega); first | assumption | (refine OkS.sto ?_ (by omega); first | assumption)))))) | exact Pfx.refl _ | (apply Pfx.snoc; repeat (first | exact Pfx.refl _ | assumption | apply Pfx.snoc)) | with_unfolding_all exact of_eq_true (eq_true rfl) | (simp only [List.length_append, List.length_cons, List.length_nil]; omega)) only [↓wpre0, ↓wpre1, ↓reduceIte, Int.reduceToNat, Nat.reduceAdd, Nat.reduceMul, Nat.reduceEqDiff, wpost0, wpost1, wpost2, wpost3, wpost4, ite_self, ite_true, ite_false, if_true, if_false, fr35, wrap_int, wrap_u8, iteP_yes, iteP_no, EqC_r hX hB hI hJ hn] | refine iteP_two (fun hc hd => ?_) (fun hc hd => ?_) | refine iteP_intro (fun hc => ?_) (fun hc => ?_))
theorem SameFrame_r (hX : XN X) (hB : X 51 = some (ext1 gBits)) (idx : Int) (hI : VS lo hi 1 h x n (zs.map cpx)) (hJ : VS lo' hi' 1 h y n (zs.map cpx)) (hn : n ≤ 1000) (hro : ro ≤ h.length) : Ret Try.prog ro X 24 [.agg ⟨[.int .i64 idx, x]⟩, .agg ⟨[.int .i64 idx, y]⟩] h (.bool true) := by
  have sx := hI.shape
  have sy := hJ.shape
  have bx : ∀ (h : Heap) (x : Value), one x = true → boxV h 41 (.agg ⟨[.int .i64 idx, x]⟩) = some (.pointer (some ⟨h.length, 0, none⟩), h ++ [⟨41, [.int .i64 idx, x]⟩]) := fun h x q => by
    have e : cellsOf (.agg ⟨[.int .i64 idx, x]⟩) = [.int .i64 idx, x] := rfl
    unfold boxV
    rw [e, if_pos (by simp only [List.all_cons, List.all_nil, q, Bool.and_true]; rfl)]
  have p0 : Pfx h (h ++ [(⟨41, [.int .i64 idx, x]⟩ : Blk)] ++ [(⟨41, [.int .i64 idx, y]⟩ : Blk)]) := (Pfx.refl h).snoc.snoc
  have ef : endH (.bool true) h (h ++ [(⟨41, [.int .i64 idx, x]⟩ : Blk)] ++ [(⟨41, [.int .i64 idx, y]⟩ : Blk)]) = h := endH_flat rfl p0
  refine ret_of (callR_of (hX _ rfl) Try.func24 rfl (by kernel_rfl) (Nat.le_of_ble_eq_true rfl) ?_)
  (repeat' first | simp -dsimp (disch := first | omega | assumption | (refine OkS.sto ?_ (by omega); first | assumption | (refine OkS.sto ?_ (by omega); first | assumption | (refine OkS.sto ?_ (by omega); first | assumption | (refine OkS.sto ?_ (by omega); first | assumption | (refine OkS.sto ?_ (by omega); first | assumption | (refine OkS.sto ?_ (by omega); first | assumption)))))) | exact Pfx.refl _ | (apply Pfx.snoc; repeat (first | exact Pfx.refl _ | assumption | apply Pfx.snoc)) | with_unfolding_all exact of_eq_true (eq_true rfl) | (simp only [List.length_append, List.length_cons, List.length_nil]; omega)) only [↓wpre0, ↓wpre1, ↓reduceIte, Int.reduceToNat, Nat.reduceAdd, Nat.reduceMul, Nat.reduceEqDiff, wpost0, wpost1, wpost2, wpost3, wpost4, ite_self, ite_true, ite_false, if_true, if_false, xfad41_0, xld2, bin_eql, xfad41_1, xld39, fr24, wrap_int, wrap_u8, iteP_yes, iteP_no, bx _ _ sx.2.2, bx _ _ sy.2.2, SameRow_r hX hB (hI.pre p0) (hJ.pre p0) hn, ef] | refine iteP_two (fun hc hd => ?_) (fun hc hd => ?_) | refine iteP_intro (fun hc => ?_) (fun hc => ?_))
variable {L L' : List Value} {ix : Nat → Int} {zn : Nat → List (Nat × Nat)} {l1 t1 b1 l2 t2 b2 : Nat}
set_option maxHeartbeats 2000000 in
theorem EqF_r (hX : XN X) (hB : X 51 = some (ext1 gBits)) (hI : VS lo hi 2 h x m L) (hG : NF l1 t1 h b1 n m L ix (fun j => (zn j).map cpx)) (hJ : VS lo' hi' 2 h y m L') (hG' : NF l2 t2 h b2 n m L' ix (fun j => (zn j).map cpx)) (hm : m ≤ 64) (hn : n ≤ 1000) (hro : ro ≤ h.length) : Ret Try.prog ro X 23 [x, y, .func (.func 24) ⟨[]⟩ ⟨[]⟩] h (.bool true) := by
  refine ret_of (callR_of (hX _ rfl) Try.func23 rfl (by kernel_rfl) (Nat.le_of_ble_eq_true rfl) ?_)
  (repeat' first | simp -dsimp (disch := first | omega | assumption | (refine OkS.sto ?_ (by omega); first | assumption | (refine OkS.sto ?_ (by omega); first | assumption | (refine OkS.sto ?_ (by omega); first | assumption | (refine OkS.sto ?_ (by omega); first | assumption | (refine OkS.sto ?_ (by omega); first | assumption | (refine OkS.sto ?_ (by omega); first | assumption)))))) | exact Pfx.refl _ | (apply Pfx.snoc; repeat (first | exact Pfx.refl _ | assumption | apply Pfx.snoc)) | with_unfolding_all exact of_eq_true (eq_true rfl) | (simp only [List.length_append, List.length_cons, List.length_nil]; omega)) only [↓wpre0, ↓wpre1, ↓reduceIte, Int.reduceToNat, Nat.reduceAdd, Nat.reduceMul, Nat.reduceEqDiff, wpost0, wpost1, wpost2, wpost3, wpost4, ite_self, ite_true, ite_false, if_true, if_false, xlen24, bin_neq, bin_lss, xiad24, xld41, tze41, xst41, un_not, bin_add, fr23, wrap_int, wrap_u8, iteP_yes, iteP_no, hI.len Try.underlying24, hJ.len Try.underlying24] | refine iteP_two (fun hc hd => ?_) (fun hc hd => ?_) | refine iteP_intro (fun hc => ?_) (fun hc => ?_))
  refine loop_rounds (fun k e h' => ∃ i : Nat, k = m - i ∧ i ≤ m ∧ Pfx h h' ∧ e 1 = y ∧ e 2 = .func (.func 24) ⟨[]⟩ ⟨[]⟩ ∧ e 15 = x ∧ e 16 = .int .i64 m ∧ e 17 = .int .i64 i) _ ⟨0, rfl, ?_⟩ ?_
  · simp only [updO_at, updO_not, entry_at, List.getD_cons_zero, List.getD_cons_succ, ↓reduceIte, Nat.reduceEqDiff, true_and, and_true]
    exact ⟨by omega, Pfx.refl _, rfl⟩
  · rintro k e h' ⟨i, hk, hle, hp, g1, g2, g15, g16, g17⟩
    have hlp := hp.len
    by_cases hin : i < m
    · have I2 := hI.pre hp
      have J2 := hJ.pre hp
      have G2 := hG.pre hp
      have G2' := hG'.pre hp
      have q1 := I2.ld2 (P := Try.prog) tsz41 tag41 hin
      have r1 := G2.row i hin
      rw [G2.idx i hin] at q1
      obtain ⟨u, hu⟩ : ∃ u, u = vth L (i * 2 + 1) := ⟨_, rfl⟩
      rw [← hu] at q1 r1
      have su := r1.shape
      have pA := hp.snoc (C := ⟨41, [.int .i64 (ix i), u]⟩)
      have q2 := (hJ.pre pA).ld2 (P := Try.prog) tsz41 tag41 hin
      have r2 := G2'.row i hin
      rw [(hG'.pre pA).idx i hin] at q2
      obtain ⟨v, hv⟩ : ∃ v, v = vth L' (i * 2 + 1) := ⟨_, rfl⟩
      rw [← hv] at q2 r2
      have sv := r2.shape
      have pF1 : put ro (h' ++ [(⟨41, [.int .i64 0, .slice none 0 0]⟩ : Blk)]) h'.length 0 2 (.agg ⟨[.int .i64 (ix i), u]⟩) = some (h' ++ [⟨41, [.int .i64 (ix i), u]⟩]) := put_last2 (by omega) rfl su.2.2
      obtain ⟨A, hA⟩ : ∃ A, A = h' ++ [(⟨41, [.int .i64 (ix i), u]⟩ : Blk)] := ⟨_, rfl⟩
      have lA : A.length = h'.length + 1 := by rw [hA]; simp
      have pF2 : put ro (A ++ [(⟨41, [.int .i64 0, .slice none 0 0]⟩ : Blk)]) A.length 0 2 (.agg ⟨[.int .i64 (ix i), v]⟩) = some (A ++ [⟨41, [.int .i64 (ix i), v]⟩]) := put_last2 (by omega) rfl sv.2.2
      have pB := pA.snoc (C := ⟨41, [.int .i64 (ix i), v]⟩)
      have r1' := ((hG.pre pB).row i hin)
      have r2' := ((hG'.pre pB).row i hin)
      rw [← hu] at r1'
      rw [← hv] at r2'
      have hF := SameFrame_r (ro := ro) hX hB (ix i) r1' r2' hn (by simp; omega)
      rw [hA] at pF2
      (repeat' first | simp -dsimp (disch := first | omega | assumption | (refine OkS.sto ?_ (by omega); first | assumption | (refine OkS.sto ?_ (by omega); first | assumption | (refine OkS.sto ?_ (by omega); first | assumption | (refine OkS.sto ?_ (by omega); first | assumption | (refine OkS.sto ?_ (by omega); first | assumption | (refine OkS.sto ?_ (by omega); first | assumption)))))) | exact Pfx.refl _ | (apply Pfx.snoc; repeat (first | exact Pfx.refl _ | assumption | apply Pfx.snoc)) | with_unfolding_all exact of_eq_true (eq_true rfl) | (simp only [List.length_append, List.length_cons, List.length_nil]; omega)) only [↓wpre0, ↓wpre1, ↓reduceIte, Int.reduceToNat, Nat.reduceAdd, Nat.reduceMul, Nat.reduceEqDiff, wpost0, wpost1, wpost2, wpost3, wpost4, ite_self, ite_true, ite_false, if_true, if_false, xlen24, bin_neq, bin_lss, xiad24, xld41, tze41, xst41, un_not, bin_add, fr23, wrap_int, wrap_u8, iteP_yes, iteP_no, g1, g2, g15, g16, g17, VS.iad hI Try.underlying24 tsz41, VS.iad hJ Try.underlying24 tsz41, q1, q2, pF1, pF2, hF] | refine iteP_two (fun hc hd => ?_) (fun hc hd => ?_) | refine iteP_intro (fun hc => ?_) (fun hc => ?_))
      exact ⟨_, by omega, i + 1, rfl, by omega, pB, by simp⟩
    · have : i = m := by omega
      subst this
      have ef : endH (.bool true) h h' = h := endH_flat rfl hp
      (repeat' first | simp -dsimp (disch := first | omega | assumption | (refine OkS.sto ?_ (by omega); first | assumption | (refine OkS.sto ?_ (by omega); first | assumption | (refine OkS.sto ?_ (by omega); first | assumption | (refine OkS.sto ?_ (by omega); first | assumption | (refine OkS.sto ?_ (by omega); first | assumption | (refine OkS.sto ?_ (by omega); first | assumption)))))) | exact Pfx.refl _ | (apply Pfx.snoc; repeat (first | exact Pfx.refl _ | assumption | apply Pfx.snoc)) | with_unfolding_all exact of_eq_true (eq_true rfl) | (simp only [List.length_append, List.length_cons, List.length_nil]; omega)) only [↓wpre0, ↓wpre1, ↓reduceIte, Int.reduceToNat, Nat.reduceAdd, Nat.reduceMul, Nat.reduceEqDiff, wpost0, wpost1, wpost2, wpost3, wpost4, ite_self, ite_true, ite_false, if_true, if_false, xlen24, bin_neq, bin_lss, xiad24, xld41, tze41, xst41, un_not, bin_add, fr23, wrap_int, wrap_u8, iteP_yes, iteP_no, g1, g2, g15, g16, g17, ef] | refine iteP_two (fun hc hd => ?_) (fun hc hd => ?_) | refine iteP_intro (fun hc => ?_) (fun hc => ?_))
end Go.Proofs.Yteignhphimfmkaa.Sim

/- Records stored. Lemmas only; no condition. -/
set_option linter.unusedSimpArgs false
set_option linter.unusedVariables false
set_option maxRecDepth 8000
namespace Go.Proofs.Yteignhphimfmkaa.Sim
open Go Go.RowKit
variable {ro : Nat} {X : Ext} {h : Heap} {x y : Value} {n m : Nat} {ix : Nat → Int} {zn : Nat → List (Nat × Nat)}
theorem boxR (h : Heap) (n : Int) {x : Value} (q : one x = true) : boxV h 26 (.agg ⟨[.int .i64 n, x]⟩) = some (.pointer (some ⟨h.length, 0, none⟩), h ++ [⟨26, [.int .i64 n, x]⟩]) := by
  have e : cellsOf (.agg ⟨[.int .i64 n, x]⟩) = [.int .i64 n, x] := rfl
  unfold boxV
  rw [e, if_pos (by simp only [List.all_cons, List.all_nil, q, Bool.and_true]; rfl)]
theorem SameRec_r (hX : XN X) (hB : X 51 = some (ext1 gBits)) (hr : RV h x n m ix zn) (hr' : RV h y n m ix zn) (hd : RD n m ix zn) (hro : ro ≤ h.length) : Ret Try.prog ro X 10 [.agg ⟨[.int .i64 n, x]⟩, .agg ⟨[.int .i64 n, y]⟩] h (.bool true) := by
  have p0 : Pfx h (h ++ [(⟨26, [.int .i64 n, x]⟩ : Blk)] ++ [(⟨26, [.int .i64 n, y]⟩ : Blk)]) := (Pfx.refl h).snoc.snoc
  have k1 := hr.pre p0
  have k2 := hr'.pre p0
  obtain ⟨lo, hi, L, _, hI, hG⟩ := id k1
  obtain ⟨lo', hi', L', _, hJ, hG'⟩ := id k2
  have sx := hI.shape
  have sy := hJ.shape
  have n16 := hd.n16
  have v1 := ValidRec_r (ro := ro) hX k1 hd (by simp; omega)
  have v2 := ValidRec_r (ro := ro) hX k2 hd (by simp; omega)
  have eq := EqF_r (ro := ro) hX hB hI hG hJ hG' hd.len (by omega) (by simp; omega)
  have ef : endH (.bool true) h (h ++ [(⟨26, [.int .i64 n, x]⟩ : Blk)] ++ [(⟨26, [.int .i64 n, y]⟩ : Blk)]) = h := endH_flat rfl p0
  refine ret_of (callR_of (hX _ rfl) Try.func10 rfl (by kernel_rfl) (Nat.le_of_ble_eq_true rfl) ?_)
  (repeat' first | simp -dsimp (disch := first | omega | assumption | (refine OkS.sto ?_ (by omega); first | assumption | (refine OkS.sto ?_ (by omega); first | assumption | (refine OkS.sto ?_ (by omega); first | assumption | (refine OkS.sto ?_ (by omega); first | assumption | (refine OkS.sto ?_ (by omega); first | assumption | (refine OkS.sto ?_ (by omega); first | assumption)))))) | exact Pfx.refl _ | (apply Pfx.snoc; repeat (first | exact Pfx.refl _ | assumption | apply Pfx.snoc)) | with_unfolding_all exact of_eq_true (eq_true rfl) | (simp only [List.length_append, List.length_cons, List.length_nil]; omega)) only [↓wpre0, ↓wpre1, ↓reduceIte, Int.reduceToNat, Nat.reduceAdd, Nat.reduceMul, Nat.reduceEqDiff, wpost0, wpost1, wpost2, wpost3, wpost4, ite_self, ite_true, ite_false, if_true, if_false, xld26, xfad26_0, xld2, bin_eql, xfad26_1, xld24, fr10, wrap_int, wrap_u8, iteP_yes, iteP_no, boxR _ _ sx.2.2, boxR _ _ sy.2.2, v1, v2, eq, ef] | refine iteP_two (fun hc hd => ?_) (fun hc hd => ?_) | refine iteP_intro (fun hc => ?_) (fun hc => ?_))
/-- Frames as bytes, one after another. -/
def frsB (ix : Nat → Int) (zn : Nat → List (Nat × Nat)) : Nat → List UInt8
  | 0 => []
  | m + 1 => frsB ix zn m ++ frB (ix m) (zn m)
/-- The bytes of a record. -/
def recB (n m : Nat) (ix : Nat → Int) (zn : Nat → List (Nat × Nat)) : List UInt8 := [65, 82, 82, 49, UInt8.ofNat n] ++ frsB ix zn m
theorem frsB_len (hd : ∀ j, j < m → (zn j).length = n) : (frsB ix zn m).length = m * (6 + 8 * n) := by
  induction m with
  | zero => simp [frsB]
  | succ m ih =>
    have := ih (fun j hj => hd j (by omega))
    rw [frsB, List.length_append, this, frB_len, hd m (by omega), Nat.add_mul, Nat.one_mul]
theorem BU.pre {lo b : Nat} {h h' : Heap} {bs : List UInt8} (g : BU lo b h bs) (p : Pfx h h') : BU lo b h' bs := by
  obtain ⟨a, x, h1, h2, h3⟩ := g
  refine ⟨a, x, ?_, h2, h3.pre p⟩
  rw [p.get (by rcases Nat.lt_or_ge b h.length with q | q; exact q; rw [List.getElem?_eq_none q] at h1; cases h1)]
  exact h1
set_option maxHeartbeats 4000000 in
theorem Store_c (hU : XU ro X) (hXB : XB X) (hr : RV h x n m ix zn) (hd : RD n m ix zn) (hro : ro ≤ h.length) : CallR Try.prog ro X 6 [.agg ⟨[.int .i64 n, x]⟩] h (fun r h' => r = .tuple ⟨[.string ⟨⟨recB n m ix zn⟩⟩, .bool true]⟩ ∧ h' = h) := by
  have hX := hU.n
  have p0 : Pfx h (h ++ [(⟨26, [.int .i64 n, x]⟩ : Blk)]) := (Pfx.refl h).snoc
  have k1 := hr.pre p0
  obtain ⟨lo, hi, L, hhi, hI, hG⟩ := id hr
  have sx := hI.shape
  have v1 := ValidRec_r (ro := ro) hX k1 hd (by simp; omega)
  refine callR_of (hX _ rfl) Try.func6 rfl (by kernel_rfl) (Nat.le_of_ble_eq_true rfl) ?_
  have n1 := hd.n1
  have n16 := hd.n16
  have m64 := hd.len
  have wn : IntKind.u8.wrap (n : Int) = (n : Int) := by rw [wrap8]; omega
  have un : (.int .u8 (n : Int) : Value) = u8v (UInt8.ofNat n) := by
    unfold u8v
    congr 1
    rw [UInt8.toNat_ofNat']
    omega
  obtain ⟨H1, hH1⟩ : ∃ H, H = h ++ [(⟨26, [.int .i64 n, x]⟩ : Blk)] := ⟨_, rfl⟩
  have l1 : H1.length = h.length + 1 := by rw [hH1]; simp
  rw [← hH1] at p0 k1
  obtain ⟨H2, hH2⟩ : ∃ H, H = H1 ++ [(⟨52, [.pointer none, .slice none 0 0]⟩ : Blk)] := ⟨_, rfl⟩
  have l2 : H2.length = h.length + 2 := by rw [hH2]; simp; omega
  have p1 : Pfx H1 H2 := by rw [hH2]; exact (Pfx.refl _).snoc
  have vB : VS H2.length (H2.length + 1) 1 (H2 ++ [(⟨5, [.int .u8 (n : Int)]⟩ : Blk)]) (.slice (some ⟨H2.length, 0, none⟩) 1 1) 1 ([UInt8.ofNat n].map u8v) := by
    exact ⟨rfl, .inr ⟨H2.length, 0, 1, ⟨5, [.int .u8 (n : Int)]⟩, rfl, Nat.le_refl _, Nat.lt_succ_self _, get_last rfl, by simp, fun j hj => by
      obtain rfl : j = 0 := by omega
      simp [vth, un]⟩⟩
  rw [hH2, hH1] at vB
  (repeat' first | simp -dsimp (disch := first | omega | assumption | (refine OkS.sto ?_ (by omega); first | assumption | (refine OkS.sto ?_ (by omega); first | assumption | (refine OkS.sto ?_ (by omega); first | assumption | (refine OkS.sto ?_ (by omega); first | assumption | (refine OkS.sto ?_ (by omega); first | assumption | (refine OkS.sto ?_ (by omega); first | assumption)))))) | exact Pfx.refl _ | (apply Pfx.snoc; repeat (first | exact Pfx.refl _ | assumption | apply Pfx.snoc)) | with_unfolding_all exact of_eq_true (eq_true rfl) | (simp only [List.length_append, List.length_cons, List.length_nil]; omega)) only [↓wpre0, ↓wpre1, ↓reduceIte, Int.reduceToNat, Nat.reduceAdd, Nat.reduceMul, Nat.reduceEqDiff, wpost0, wpost1, wpost2, wpost3, wpost4, ite_self, ite_true, ite_false, if_true, if_false, xld26, un_not, xbld52, tze52, xst52, xfad26_0, xld2, xcv2_5, xbls22_0, xbls22_1, sadd_bl, xfad26_1, xld24, xlen24, bin_lss, xiad24, xld41, tze41, xst41, bin_add, fr6, wrap_int, wrap_u8, iteP_yes, iteP_no, boxR _ _ sx.2.2, v1, wn, conv_bytes Try.underlying22 Try.underlying9 tbt5 vB] | refine iteP_two (fun hc hd => ?_) (fun hc hd => ?_) | refine iteP_intro (fun hc => ?_) (fun hc => ?_))
  rw [← hH1, ← hH2]
  obtain ⟨H3, hH3⟩ : ∃ H, H = H2 ++ [(⟨5, [.int .u8 (n : Int)]⟩ : Blk)] := ⟨_, rfl⟩
  rw [← hH3]
  have l3 : H3.length = h.length + 3 := by rw [hH3]; simp; omega
  have p2 : Pfx H2 H3 := by rw [hH3]; exact (Pfx.refl _).snoc
  have b2 : H2[H1.length]? = some ⟨52, [.pointer none, .slice none 0 0]⟩ := by rw [hH2]; exact get_last rfl
  have B3 : BU H2.length H1.length H3 [] := ⟨.pointer none, .slice none 0 0, by rw [p2.get (by omega)]; exact b2, .inl rfl, vn_nil _⟩
  refine cf_rel (WriteString_c hU B3 (by omega) (by omega) (by omega) (by simp)) (fun q => by cases q) ?_
  rintro _ H4 ⟨rfl, B4, l4, k4⟩
  have p4 : Pfx H1 H4 := k4 _ (p1.trans p2) (Nat.le_refl _)
  rw [List.nil_append] at B4
  have bR : ∀ {K : Heap}, Pfx H1 K → K[h.length]? = some ⟨26, [.int .i64 n, x]⟩ := fun p => by rw [p.get (by omega), hH1]; exact get_last rfl
  have d4 : cell H4 h.length 1 = some x := cellb (bR p4)
  have hlen := frsB_len (ix := ix) (m := m) hd.row
  have hl64 : m * (6 + 8 * n) ≤ 64 * 134 := Nat.mul_le_mul m64 (by omega)
  (repeat' first | simp -dsimp (disch := first | omega | assumption | (refine OkS.sto ?_ (by omega); first | assumption | (refine OkS.sto ?_ (by omega); first | assumption | (refine OkS.sto ?_ (by omega); first | assumption | (refine OkS.sto ?_ (by omega); first | assumption | (refine OkS.sto ?_ (by omega); first | assumption | (refine OkS.sto ?_ (by omega); first | assumption)))))) | exact Pfx.refl _ | (apply Pfx.snoc; repeat (first | exact Pfx.refl _ | assumption | apply Pfx.snoc)) | with_unfolding_all exact of_eq_true (eq_true rfl) | (simp only [List.length_append, List.length_cons, List.length_nil]; omega)) only [↓wpre0, ↓wpre1, ↓reduceIte, Int.reduceToNat, Nat.reduceAdd, Nat.reduceMul, Nat.reduceEqDiff, wpost0, wpost1, wpost2, wpost3, wpost4, ite_self, ite_true, ite_false, if_true, if_false, xld26, un_not, xbld52, tze52, xst52, xfad26_0, xld2, xcv2_5, xbls22_0, xbls22_1, sadd_bl, xfad26_1, xld24, xlen24, bin_lss, xiad24, xld41, tze41, xst41, bin_add, fr6, wrap_int, wrap_u8, iteP_yes, iteP_no, d4, hI.len Try.underlying24] | refine iteP_two (fun hc hd => ?_) (fun hc hd => ?_) | refine iteP_intro (fun hc => ?_) (fun hc => ?_))
  refine loop_exit 0 (fun e h' => Pfx H1 h' ∧ e 4 = .pointer (some ⟨H1.length, 0, none⟩) ∧ BU H2.length H1.length h' (recB n m ix zn)) ?_ ?_
  · refine loop_rounds (fun k e h' => ∃ i : Nat, k = m - i ∧ i ≤ m ∧ Pfx H1 h' ∧ H2.length ≤ h'.length ∧ e 4 = .pointer (some ⟨H1.length, 0, none⟩) ∧ e 19 = x ∧ e 20 = .int .i64 m ∧ e 21 = .int .i64 i ∧ BU H2.length H1.length h' (recB n i ix zn)) _ ⟨0, rfl, ?_⟩ ?_
    · simp only [updO_at, updO_not, entry_at, List.getD_cons_zero, List.getD_cons_succ, ↓reduceIte, Nat.reduceEqDiff, true_and, and_true]
      have e0 : recB n 0 ix zn = [65, 82, 82, 49, UInt8.ofNat n] := by unfold recB frsB; exact List.append_nil _
      exact ⟨Nat.zero_le _, p4, by omega, rfl, by rw [e0]; exact B4⟩
    · rintro k e h' ⟨i, hk, hle, hp, hl, g4, g19, g20, g21, hB⟩
      have hlp := hp.len
      by_cases hin : i < m
      · have hI2 := hI.pre (p0.trans hp)
        have hG2 := hG.pre (p0.trans hp)
        have q1 := hI2.ld2 (P := Try.prog) tsz41 tag41 hin
        rw [hG2.idx i hin] at q1
        have hrow := hG2.row i hin
        obtain ⟨u, hu⟩ : ∃ u, u = vth L (i * 2 + 1) := ⟨_, rfl⟩
        rw [← hu] at q1 hrow
        have su := hrow.shape
        have hrl := hd.row i hin
        have pF : put ro (h' ++ [(⟨41, [.int .i64 0, .slice none 0 0]⟩ : Blk)]) h'.length 0 2 (.agg ⟨[.int .i64 (ix i), u]⟩) = some (h' ++ [⟨41, [.int .i64 (ix i), u]⟩]) := put_last2 (by omega) rfl su.2.2
        have hlo := hd.lo i hin
        have hhi2 := hd.hi i hin
        have pA : Pfx h' (h' ++ [(⟨41, [.int .i64 (ix i), u]⟩ : Blk)]) := (Pfx.refl h').snoc
        have hrow' := hrow.pre pA
        rw [← hrl] at hrow'
        have hfb := frameBytes_r (ro := ro) hXB (idx := ix i) hrow' (hd.ok i hin) hlo (by omega) (by omega) (by simp; omega)
        have hlen' := frsB_len (ix := ix) (zn := zn) (m := i) (n := n) (fun j hj => hd.row j (by omega))
        have hl64' : i * (6 + 8 * n) ≤ 64 * 134 := Nat.mul_le_mul (by omega) (by omega)
        have hRl : (recB n i ix zn).length = 5 + i * (6 + 8 * n) := by unfold recB; rw [List.length_append, hlen']; rfl
        have hfl : (frB (ix i) (zn i)).length = 6 + 8 * n := by rw [frB_len, hrl]
        (repeat' first | simp -dsimp (disch := first | omega | assumption | (refine OkS.sto ?_ (by omega); first | assumption | (refine OkS.sto ?_ (by omega); first | assumption | (refine OkS.sto ?_ (by omega); first | assumption | (refine OkS.sto ?_ (by omega); first | assumption | (refine OkS.sto ?_ (by omega); first | assumption | (refine OkS.sto ?_ (by omega); first | assumption)))))) | exact Pfx.refl _ | (apply Pfx.snoc; repeat (first | exact Pfx.refl _ | assumption | apply Pfx.snoc)) | with_unfolding_all exact of_eq_true (eq_true rfl) | (simp only [List.length_append, List.length_cons, List.length_nil]; omega)) only [↓wpre0, ↓wpre1, ↓reduceIte, Int.reduceToNat, Nat.reduceAdd, Nat.reduceMul, Nat.reduceEqDiff, wpost0, wpost1, wpost2, wpost3, wpost4, ite_self, ite_true, ite_false, if_true, if_false, xld26, un_not, xbld52, tze52, xst52, xfad26_0, xld2, xcv2_5, xbls22_0, xbls22_1, sadd_bl, xfad26_1, xld24, xlen24, bin_lss, xiad24, xld41, tze41, xst41, bin_add, fr6, wrap_int, wrap_u8, iteP_yes, iteP_no, g4, g19, g20, g21, VS.iad hI2 Try.underlying24 tsz41, q1, pF, hfb] | refine iteP_two (fun hc hd => ?_) (fun hc hd => ?_) | refine iteP_intro (fun hc => ?_) (fun hc => ?_))
        refine cf_rel (WriteString_c hU (hB.pre pA) (by omega) (by omega) (by simp; omega) (by omega)) (fun q => by cases q) ?_
        rintro _ H6 ⟨rfl, B6, l6, k6⟩
        have p6 : Pfx H1 H6 := k6 _ (hp.trans pA) (Nat.le_refl _)
        have l6' : h'.length + 1 ≤ H6.length := by simpa using l6
        have eB : recB n i ix zn ++ frB (ix i) (zn i) = recB n (i + 1) ix zn := by unfold recB; rw [List.append_assoc]; rfl
        rw [eB] at B6
        have hks : (i : Int) + 1 = ((i + 1 : Nat) : Int) := by omega
        (repeat' first | simp -dsimp (disch := first | omega | assumption | (refine OkS.sto ?_ (by omega); first | assumption | (refine OkS.sto ?_ (by omega); first | assumption | (refine OkS.sto ?_ (by omega); first | assumption | (refine OkS.sto ?_ (by omega); first | assumption | (refine OkS.sto ?_ (by omega); first | assumption | (refine OkS.sto ?_ (by omega); first | assumption)))))) | exact Pfx.refl _ | (apply Pfx.snoc; repeat (first | exact Pfx.refl _ | assumption | apply Pfx.snoc)) | with_unfolding_all exact of_eq_true (eq_true rfl) | (simp only [List.length_append, List.length_cons, List.length_nil]; omega)) only [↓wpre0, ↓wpre1, ↓reduceIte, Int.reduceToNat, Nat.reduceAdd, Nat.reduceMul, Nat.reduceEqDiff, wpost0, wpost1, wpost2, wpost3, wpost4, ite_self, ite_true, ite_false, if_true, if_false, xld26, un_not, xbld52, tze52, xst52, xfad26_0, xld2, xcv2_5, xbls22_0, xbls22_1, sadd_bl, xfad26_1, xld24, xlen24, bin_lss, xiad24, xld41, tze41, xst41, bin_add, fr6, wrap_int, wrap_u8, iteP_yes, iteP_no, g4, g19, g20, g21] | refine iteP_two (fun hc hd => ?_) (fun hc hd => ?_) | refine iteP_intro (fun hc => ?_) (fun hc => ?_))
        exact ⟨m - (i + 1), by omega, i + 1, rfl, by omega, p6, by omega, by rw [hks], B6⟩
      · have : i = m := by omega
        subst this
        (repeat' first | simp -dsimp (disch := first | omega | assumption | (refine OkS.sto ?_ (by omega); first | assumption | (refine OkS.sto ?_ (by omega); first | assumption | (refine OkS.sto ?_ (by omega); first | assumption | (refine OkS.sto ?_ (by omega); first | assumption | (refine OkS.sto ?_ (by omega); first | assumption | (refine OkS.sto ?_ (by omega); first | assumption)))))) | exact Pfx.refl _ | (apply Pfx.snoc; repeat (first | exact Pfx.refl _ | assumption | apply Pfx.snoc)) | with_unfolding_all exact of_eq_true (eq_true rfl) | (simp only [List.length_append, List.length_cons, List.length_nil]; omega)) only [↓wpre0, ↓wpre1, ↓reduceIte, Int.reduceToNat, Nat.reduceAdd, Nat.reduceMul, Nat.reduceEqDiff, wpost0, wpost1, wpost2, wpost3, wpost4, ite_self, ite_true, ite_false, if_true, if_false, xld26, un_not, xbld52, tze52, xst52, xfad26_0, xld2, xcv2_5, xbls22_0, xbls22_1, sadd_bl, xfad26_1, xld24, xlen24, bin_lss, xiad24, xld41, tze41, xst41, bin_add, fr6, wrap_int, wrap_u8, iteP_yes, iteP_no, g4, g19, g20, g21] | refine iteP_two (fun hc hd => ?_) (fun hc hd => ?_) | refine iteP_intro (fun hc => ?_) (fun hc => ?_))
        exact ⟨hp, hB⟩
  · rintro e h' ⟨hp, g4, hB⟩
    have hRl : (recB n m ix zn).length = 5 + m * (6 + 8 * n) := by unfold recB; rw [List.length_append, hlen]; rfl
    (repeat' first | simp -dsimp (disch := first | omega | assumption | (refine OkS.sto ?_ (by omega); first | assumption | (refine OkS.sto ?_ (by omega); first | assumption | (refine OkS.sto ?_ (by omega); first | assumption | (refine OkS.sto ?_ (by omega); first | assumption | (refine OkS.sto ?_ (by omega); first | assumption | (refine OkS.sto ?_ (by omega); first | assumption)))))) | exact Pfx.refl _ | (apply Pfx.snoc; repeat (first | exact Pfx.refl _ | assumption | apply Pfx.snoc)) | with_unfolding_all exact of_eq_true (eq_true rfl) | (simp only [List.length_append, List.length_cons, List.length_nil]; omega)) only [↓wpre0, ↓wpre1, ↓reduceIte, Int.reduceToNat, Nat.reduceAdd, Nat.reduceMul, Nat.reduceEqDiff, wpost0, wpost1, wpost2, wpost3, wpost4, ite_self, ite_true, ite_false, if_true, if_false, xld26, un_not, xbld52, tze52, xst52, xfad26_0, xld2, xcv2_5, xbls22_0, xbls22_1, sadd_bl, xfad26_1, xld24, xlen24, bin_lss, xiad24, xld41, tze41, xst41, bin_add, fr6, wrap_int, wrap_u8, iteP_yes, iteP_no, g4] | refine iteP_two (fun hc hd => ?_) (fun hc hd => ?_) | refine iteP_intro (fun hc => ?_) (fun hc => ?_))
    refine cf_rel (String_c hU hB (by omega) (by omega) (by omega) (fun q => by rw [q] at hRl; simp at hRl; omega)) (fun q => by cases q) ?_
    rintro _ H7 ⟨rfl, k7⟩
    have p7 := k7 _ (p0.trans hp) (by omega)
    have ef : endH (.tuple ⟨[.string ⟨⟨recB n m ix zn⟩⟩, .bool true]⟩) h H7 = h := endH_flat rfl p7
    (repeat' first | simp -dsimp (disch := first | omega | assumption | (refine OkS.sto ?_ (by omega); first | assumption | (refine OkS.sto ?_ (by omega); first | assumption | (refine OkS.sto ?_ (by omega); first | assumption | (refine OkS.sto ?_ (by omega); first | assumption | (refine OkS.sto ?_ (by omega); first | assumption | (refine OkS.sto ?_ (by omega); first | assumption)))))) | exact Pfx.refl _ | (apply Pfx.snoc; repeat (first | exact Pfx.refl _ | assumption | apply Pfx.snoc)) | with_unfolding_all exact of_eq_true (eq_true rfl) | (simp only [List.length_append, List.length_cons, List.length_nil]; omega)) only [↓wpre0, ↓wpre1, ↓reduceIte, Int.reduceToNat, Nat.reduceAdd, Nat.reduceMul, Nat.reduceEqDiff, wpost0, wpost1, wpost2, wpost3, wpost4, ite_self, ite_true, ite_false, if_true, if_false, xld26, un_not, xbld52, tze52, xst52, xfad26_0, xld2, xcv2_5, xbls22_0, xbls22_1, sadd_bl, xfad26_1, xld24, xlen24, bin_lss, xiad24, xld41, tze41, xst41, bin_add, fr6, wrap_int, wrap_u8, iteP_yes, iteP_no, g4, ef] | refine iteP_two (fun hc hd => ?_) (fun hc hd => ?_) | refine iteP_intro (fun hc => ?_) (fun hc => ?_))
end Go.Proofs.Yteignhphimfmkaa.Sim

/- Bytes of records: what they are read as, cut or bent. In plain Lean. Lemmas only; no condition. -/
set_option linter.unusedSimpArgs false
set_option linter.unusedVariables false
set_option maxRecDepth 8000
namespace Go.Proofs.Yteignhphimfmkaa.Sim
open Go Go.RowKit
theorem bth_l {A B : List UInt8} {i : Nat} (h : i < A.length) : bth (A ++ B) i = bth A i := by simp [bth, List.getD_eq_getElem?_getD, List.getElem?_append_left h]
theorem bth_r {A B : List UInt8} {i : Nat} : bth (A ++ B) (A.length + i) = bth B i := by simp [bth, List.getD_eq_getElem?_getD, List.getElem?_append_right]
theorem bth_low {v : Int} {c k : Nat} (hk : k < c) : bth (lowB v c) k = v / 256 ^ k % 256 := by
  have e : bth (lowB v c) k = ((byteAt v k).toNat : Int) := by simp [bth, lowB, List.getD_eq_getElem?_getD, hk]
  have h := u8v_byteAt v k
  unfold u8v at h
  rw [e]
  injection h
theorem wd_low {P Q : List UInt8} {v : Int} (h0 : 0 ≤ v) (h1 : v ≤ 4294967295) : wd (P ++ (lowB v 4 ++ Q)) P.length = v := by
  have e : ∀ i, i < 4 → bth (P ++ (lowB v 4 ++ Q)) (P.length + i) = v / 256 ^ i % 256 := fun i hi => by
    rw [bth_r, bth_l (by rw [lowB_len]; exact hi), bth_low hi]
  unfold wd
  have e0 := e 0 (by decide)
  rw [Nat.add_zero] at e0
  rw [e 3 (by decide), e 2 (by decide), e 1 (by decide), e0]
  have p1 : (256 : Int) ^ 1 = 256 := by decide
  have p2 : (256 : Int) ^ 2 = 65536 := by decide
  have p3 : (256 : Int) ^ 3 = 16777216 := by decide
  have p0 : (256 : Int) ^ 0 = 1 := by decide
  rw [p0, p1, p2, p3]
  omega
theorem cB_at {zs : List (Nat × Nat)} {i : Nat} (h : i < zs.length) : cB zs = cB (zs.take i) ++ (lowB zs[i].1 4 ++ (lowB zs[i].2 4 ++ cB (zs.drop (i + 1)))) := by
  have e : zs = zs.take i ++ zs[i] :: zs.drop (i + 1) := by simp
  conv => lhs; rw [e]
  unfold cB
  rw [List.flatMap_append, List.flatMap_cons, List.append_assoc]
theorem atZ_fr {idx : Int} {zs : List (Nat × Nat)} {R : List UInt8} (hz : ∀ z ∈ zs, okZ z) : atZ (frB idx zs ++ R) 0 zs.length = zs := by
  refine List.ext_getElem (by rw [atZ_len]) fun i h1 h2 => ?_
  have hzi := hz zs[i] (List.getElem_mem h2)
  have z1 := hzi.1.2
  have z2 := hzi.2.2
  have ec := cB_at h2
  obtain ⟨C, hC⟩ : ∃ C, C = lowB (chk 0 (fnB idx zs)) 2 := ⟨_, rfl⟩
  have e1 : frB idx zs ++ R = (lowB idx 4 ++ cB (zs.take i)) ++ (lowB zs[i].1 4 ++ (lowB zs[i].2 4 ++ cB (zs.drop (i + 1)) ++ C ++ R)) := by
    have : frB idx zs = lowB idx 4 ++ cB zs ++ C := by rw [hC]; rfl
    rw [this, ec]
    simp only [List.append_assoc]
  have e2 : frB idx zs ++ R = (lowB idx 4 ++ cB (zs.take i) ++ lowB zs[i].1 4) ++ (lowB zs[i].2 4 ++ (cB (zs.drop (i + 1)) ++ C ++ R)) := by
    rw [e1]
    simp only [List.append_assoc]
  have l1 : (lowB idx 4 ++ cB (zs.take i)).length = 0 + 4 + 8 * i := by
    rw [List.length_append, lowB_len, cB_len, List.length_take]; omega
  have l2 : (lowB idx 4 ++ cB (zs.take i) ++ lowB zs[i].1 4).length = 0 + 8 + 8 * i := by
    rw [List.length_append, l1, lowB_len]; omega
  have w1 : wd (frB idx zs ++ R) (0 + 4 + 8 * i) = (zs[i].1 : Int) := by
    rw [e1, ← l1]; exact wd_low (Int.natCast_nonneg _) (by omega)
  have w2 : wd (frB idx zs ++ R) (0 + 8 + 8 * i) = (zs[i].2 : Int) := by
    rw [e2, ← l2]; exact wd_low (Int.natCast_nonneg _) (by omega)
  have : (atZ (frB idx zs ++ R) 0 zs.length)[i] = (cf .f32 (wd (frB idx zs ++ R) (0 + 4 + 8 * i)).toNat, cf .f32 (wd (frB idx zs ++ R) (0 + 8 + 8 * i)).toNat) := by simp [atZ]
  rw [this, w1, w2, Int.toNat_natCast, Int.toNat_natCast, hzi.1.1, hzi.2.1]
theorem fr_read {l : List UInt8} {a n : Nat} {idx : Int} {zs : List (Nat × Nat)} (hn : zs.length = n) (h : (l.drop a).take (6 + 8 * n) = frB idx zs) (hz : ∀ z ∈ zs, okZ z) (h0 : 0 ≤ idx) (h1 : idx ≤ 1000000) : atOk l a n = true ∧ wd l a = idx ∧ atZ l a n = zs := by
  have hl : (frB idx zs).length = 6 + 8 * n := by rw [frB_len, hn]
  have e : l.drop a = frB idx zs ++ (l.drop a).drop (6 + 8 * n) := by rw [← h]; exact (List.take_append_drop _ _).symm
  have w : wd l a = idx := by
    have := wd_drop l a 0
    rw [Nat.add_zero] at this
    rw [← this, e]
    have e2 : frB idx zs ++ (l.drop a).drop (6 + 8 * n) = [] ++ (lowB idx 4 ++ (cB zs ++ lowB (chk 0 (fnB idx zs)) 2 ++ (l.drop a).drop (6 + 8 * n))) := by
      simp only [frB, fnB, List.append_assoc, List.nil_append]
    rw [e2]
    exact wd_low (P := []) h0 (by omega)
  have z : atZ l a n = zs := by
    rw [← atZ_drop, e, ← hn]
    exact atZ_fr hz
  refine ⟨?_, w, z⟩
  unfold atOk
  rw [w, z, h]
  have hle : a + (6 + 8 * n) ≤ l.length := by
    have := congrArg List.length h
    rw [hl, List.length_take, List.length_drop] at this
    omega
  rw [decide_eq_true hle, decide_eq_true h1]
  simp
/-! ### The bytes of a record -/
variable {n m : Nat} {ix : Nat → Int} {zn : Nat → List (Nat × Nat)}
theorem frs_at : ∀ {m j : Nat}, j < m → (∀ j, j < m → (zn j).length = n) → ((frsB ix zn m).drop (j * (6 + 8 * n))).take (6 + 8 * n) = frB (ix j) (zn j)
  | m + 1, j, hj, hd => by
    have hlen := frsB_len (ix := ix) (zn := zn) (m := m) (n := n) (fun j hj => hd j (by omega))
    have hF : (frB (ix m) (zn m)).length = 6 + 8 * n := by rw [frB_len, hd m (by omega)]
    rw [frsB]
    by_cases q : j < m
    · have ih := frs_at (j := j) q (fun j hj => hd j (by omega))
      have hle : j * (6 + 8 * n) + (6 + 8 * n) ≤ m * (6 + 8 * n) := by
        have := Nat.mul_le_mul_right (6 + 8 * n) (show j + 1 ≤ m from q)
        rw [Nat.add_mul, Nat.one_mul] at this
        exact this
      rw [List.drop_append_of_le_length (by omega), List.take_append_of_le_length (by rw [List.length_drop]; omega)]
      exact ih
    · obtain rfl : j = m := by omega
      rw [← hlen, List.drop_left, ← hF, List.take_length]
theorem frs_take : ∀ {m q : Nat}, q ≤ m → (∀ j, j < m → (zn j).length = n) → (frsB ix zn m).take (q * (6 + 8 * n)) = frsB ix zn q
  | 0, q, hq, _ => by
    obtain rfl : q = 0 := by omega
    rw [Nat.zero_mul]; rfl
  | m + 1, q, hq, hd => by
    have hlen := frsB_len (ix := ix) (zn := zn) (m := m) (n := n) (fun j hj => hd j (by omega))
    by_cases e : q = m + 1
    · subst e
      rw [List.take_of_length_le]
      rw [frsB_len hd]
      exact Nat.le_refl _
    · rw [frsB, List.take_append_of_le_length (by rw [hlen]; exact Nat.mul_le_mul_right _ (by omega))]
      exact frs_take (by omega) fun j hj => hd j (by omega)
theorem rec_len (hd : ∀ j, j < m → (zn j).length = n) : (recB n m ix zn).length = 5 + m * (6 + 8 * n) := by
  unfold recB
  rw [List.length_append, frsB_len hd]
  rfl
theorem rec_drop (n m : Nat) (ix : Nat → Int) (zn : Nat → List (Nat × Nat)) (c : Nat) : (recB n m ix zn).drop (5 + c) = (frsB ix zn m).drop c := by
  have e : (recB n m ix zn).drop 5 = frsB ix zn m := rfl
  rw [← List.drop_drop, e]
theorem rec_at {j : Nat} (hj : j < m) (hd : ∀ j, j < m → (zn j).length = n) : ((recB n m ix zn).drop (5 + j * (6 + 8 * n))).take (6 + 8 * n) = frB (ix j) (zn j) := by
  rw [rec_drop]; exact frs_at hj hd
theorem rec_take {q : Nat} (hq : q ≤ m) (hd : ∀ j, j < m → (zn j).length = n) : (recB n m ix zn).take (5 + q * (6 + 8 * n)) = recB n q ix zn := by
  have e : recB n m ix zn = [65, 82, 82, 49, UInt8.ofNat n] ++ frsB ix zn m := rfl
  rw [e, List.take_append]
  have e2 : List.take (5 + q * (6 + 8 * n)) [65, 82, 82, 49, UInt8.ofNat n] = [65, 82, 82, 49, UInt8.ofNat n] := List.take_of_length_le (by simp)
  have e3 : 5 + q * (6 + 8 * n) - [(65 : UInt8), 82, 82, 49, UInt8.ofNat n].length = q * (6 + 8 * n) := by simp
  rw [e2, e3, frs_take hq hd]
  rfl
/-- Bytes that begin as a record's. -/
theorem hdr_ok {T : List UInt8} (n1 : 1 ≤ n) (n16 : n ≤ 16) : hdrOk ([65, 82, 82, 49, UInt8.ofNat n] ++ T) = true ∧ elN ([65, 82, 82, 49, UInt8.ofNat n] ++ T) = n := by
  have eb : bt ⟨⟨[65, 82, 82, 49, UInt8.ofNat n] ++ T⟩⟩ 4 = (n : Int) := by
    have e1 : bt ⟨⟨[65, 82, 82, 49, UInt8.ofNat n] ++ T⟩⟩ 4 = ((UInt8.ofNat n).toNat : Int) := rfl
    rw [e1, UInt8.toNat_ofNat']
    omega
  refine ⟨?_, by unfold elN; rw [eb]; exact Int.toNat_natCast _⟩
  unfold hdrOk
  rw [eb]
  have hc : count (n : Int) = true := by simp only [count, Bool.and_eq_true, decide_eq_true_eq]; omega
  rw [hc, Bool.and_true]
  rw [hdr_iff]
  refine ⟨by rw [ba_size]; simp, ?_⟩
  rw [ba_extract]
  exact beq_self_eq_true _
/-! ### One byte that is another one -/
theorem chk_step {a a' c : Int} (h0 : 0 ≤ a) (h1 : a < 65003) (h2 : 0 ≤ a') (h3 : a' < 65003) (h : (641 * a + c) % 65003 = (641 * a' + c) % 65003) : a = a' := by
  have e1 := Int.mul_ediv_add_emod (641 * a + c) 65003
  have e2 := Int.mul_ediv_add_emod (641 * a' + c) 65003
  generalize (641 * a + c) / 65003 = p at *
  generalize (641 * a' + c) / 65003 = q at *
  have d : a - a' = 65003 * (39448 * (p - q) - 389 * (a - a')) := by omega
  omega
theorem chk_inj : ∀ (Q : List UInt8) {a a' : Int}, 0 ≤ a → a < 65003 → 0 ≤ a' → a' < 65003 → chk a Q = chk a' Q → a = a'
  | [], a, a', _, _, _, _, h => h
  | q :: Q, a, a', h0, h1, h2, h3, h => by
    have h' : chk ((641 * a + (q.toNat : Int) + 27) % 65003) Q = chk ((641 * a' + (q.toNat : Int) + 27) % 65003) Q := h
    have := chk_inj Q (Int.emod_nonneg _ (by decide)) (Int.emod_lt_of_pos _ (by decide)) (Int.emod_nonneg _ (by decide)) (Int.emod_lt_of_pos _ (by decide)) h'
    rw [Int.add_assoc, Int.add_assoc] at this
    exact chk_step h0 h1 h2 h3 this
theorem chk_app (n : Int) (A B : List UInt8) : chk n (A ++ B) = chk (chk n A) B := by simp [chk, List.foldl_append]
theorem chk_set {A : List UInt8} {r : Nat} {b : UInt8} (hr : r < A.length) (h : chk 0 (A.set r b) = chk 0 A) : b = A[r] := by
  have e1 : A = A.take r ++ A[r] :: A.drop (r + 1) := by simp
  have e2 : A.set r b = A.take r ++ b :: A.drop (r + 1) := by rw [List.set_eq_take_append_cons_drop, if_pos hr]
  rw [e2] at h
  conv at h => rhs; rw [e1]
  rw [chk_app, chk_app] at h
  obtain ⟨s, hs⟩ : ∃ s, s = chk 0 (A.take r) := ⟨_, rfl⟩
  rw [← hs] at h
  have h' : chk ((641 * s + (b.toNat : Int) + 27) % 65003) (A.drop (r + 1)) = chk ((641 * s + (A[r].toNat : Int) + 27) % 65003) (A.drop (r + 1)) := h
  have := chk_inj _ (Int.emod_nonneg _ (by decide)) (Int.emod_lt_of_pos _ (by decide)) (Int.emod_nonneg _ (by decide)) (Int.emod_lt_of_pos _ (by decide)) h'
  have b1 := b.toNat_lt
  have b2 := A[r].toNat_lt
  have : b.toNat = A[r].toNat := by omega
  exact UInt8.toNat_inj.1 this
theorem low2_inj {v w : Int} (h0 : 0 ≤ v) (h1 : v ≤ 65002) (h2 : 0 ≤ w) (h3 : w ≤ 65002) (h : lowB v 2 = lowB w 2) : v = w := by
  have e0 := congrArg (fun l => bth l 0) h
  have e1 := congrArg (fun l => bth l 1) h
  change bth (lowB v 2) 0 = bth (lowB w 2) 0 at e0
  change bth (lowB v 2) 1 = bth (lowB w 2) 1 at e1
  rw [bth_low (by decide), bth_low (by decide)] at e0 e1
  have p0 : (256 : Int) ^ 0 = 1 := by decide
  have p1 : (256 : Int) ^ 1 = 256 := by decide
  rw [p0] at e0
  rw [p1] at e1
  omega
/-- A frame in which one byte is another one is no frame. -/
theorem fr_bent {idx idx' : Int} {zs zs' : List (Nat × Nat)} {r : Nat} {b : UInt8} (hl : zs'.length = zs.length) (hr : r < (frB idx zs).length) (hb : b ≠ (frB idx zs)[r]) : frB idx' zs' ≠ (frB idx zs).set r b := by
  intro h
  have lA := fnB_len idx zs
  have lA' := fnB_len idx' zs'
  have c1 := chk_range (n := 0) ⟨by omega, by omega⟩ (fnB idx zs)
  have c2 := chk_range (n := 0) ⟨by omega, by omega⟩ (fnB idx' zs')
  have eF : frB idx zs = fnB idx zs ++ lowB (chk 0 (fnB idx zs)) 2 := rfl
  have eF' : frB idx' zs' = fnB idx' zs' ++ lowB (chk 0 (fnB idx' zs')) 2 := rfl
  by_cases q : r < (fnB idx zs).length
  · rw [eF, eF', List.set_append_left _ _ q] at h
    obtain ⟨h1, h2⟩ := List.append_inj h (by rw [List.length_set]; omega)
    have hc := low2_inj c2.1 c2.2 c1.1 c1.2 h2
    rw [h1] at hc
    have hbb := chk_set q hc
    apply hb
    simp only [eF]
    rw [List.getElem_append_left q]
    exact hbb
  · rw [eF, eF', List.set_append_right _ _ (by omega)] at h
    obtain ⟨h1, h2⟩ := List.append_inj h (by omega)
    rw [h1] at h2
    apply hb
    have hr' : r - (fnB idx zs).length < (lowB (chk 0 (fnB idx zs)) 2).length := by
      rw [eF, List.length_append] at hr; omega
    simp only [eF]
    rw [List.getElem_append_right (by omega)]
    have := congrArg (fun l => l[r - (fnB idx zs).length]?) h2
    simp only [List.getElem?_eq_getElem hr', List.getElem?_set_self hr'] at this
    exact (Option.some.inj this).symm
/-! ### How many frames -/
theorem cnt_of {l : List UInt8} {q : Nat} (hd : RD n q ix zn) (hh : hdrOk l = true) (he : elN l = n) (h : ∀ j, j < q → (l.drop (5 + j * (6 + 8 * n))).take (6 + 8 * n) = frB (ix j) (zn j)) (hbad : q = 64 ∨ atOk l (5 + q * (6 + 8 * n)) n = false) : Cnt l q ∧ (∀ j, j < q → ixN l j = ix j ∧ zsN l j = (zn j).map cpx) ∧ posN l q = 5 + q * (6 + 8 * n) := by
  have hp : ∀ j, posN l j = 5 + j * (6 + 8 * n) := fun j => by unfold posN; rw [he]
  have rd : ∀ j, j < q → atOk l (posN l j) (elN l) = true ∧ ixN l j = ix j ∧ zsN l j = (zn j).map cpx := fun j hj => by
    obtain ⟨a, b, c⟩ := fr_read (hd.row j hj) (h j hj) (hd.ok j hj) (hd.lo j hj) (hd.hi j hj)
    refine ⟨by rw [hp, he]; exact a, by unfold ixN; rw [hp]; exact b, by unfold zsN; rw [hp, he, c]⟩
  refine ⟨⟨hd.len, fun j hj => ?_, ?_⟩, fun j hj => (rd j hj).2, hp q⟩
  · unfold okJ
    rw [(rd j hj).1, Bool.true_and, decide_eq_true_eq]
    unfold lastN
    rw [(rd j hj).2.1]
    split
    · have := hd.lo j hj; omega
    · rename_i q0
      rw [(rd (j - 1) (by omega)).2.1]
      have := hd.inc (j - 1) (by omega)
      rw [show j - 1 + 1 = j by omega] at this
      exact this
  · rcases hbad with q64 | q0
    · exact .inl q64
    · right
      unfold okJ
      rw [hp, he, q0]
      rfl
theorem at_short {l : List UInt8} {a n : Nat} (h : l.length < a + (6 + 8 * n)) : atOk l a n = false := by
  unfold atOk
  rw [decide_eq_false (by omega)]
  rfl
theorem RD.le {q : Nat} (hd : RD n m ix zn) (h : q ≤ m) : RD n q ix zn := ⟨hd.n1, hd.n16, Nat.le_trans h hd.len, fun j hj => hd.row j (by omega), fun j hj => hd.ok j (by omega), fun j hj => hd.lo j (by omega), fun j hj => hd.hi j (by omega), fun j hj => hd.inc j (by omega)⟩
/-- The bytes of a record, cut. -/
theorem cut_ok {c : Nat} (hd : RD n m ix zn) (hc : c ≤ m * (6 + 8 * n)) : hdrOk ((recB n m ix zn).take (5 + c)) = true ∧ elN ((recB n m ix zn).take (5 + c)) = n ∧ ((recB n m ix zn).take (5 + c)).length = 5 + c ∧ c / (6 + 8 * n) ≤ m ∧ Cnt ((recB n m ix zn).take (5 + c)) (c / (6 + 8 * n)) ∧ (∀ j, j < c / (6 + 8 * n) → ixN ((recB n m ix zn).take (5 + c)) j = ix j ∧ zsN ((recB n m ix zn).take (5 + c)) j = (zn j).map cpx) ∧ posN ((recB n m ix zn).take (5 + c)) (c / (6 + 8 * n)) = 5 + c / (6 + 8 * n) * (6 + 8 * n) := by
  have hl := rec_len (ix := ix) hd.row
  have e : (recB n m ix zn).take (5 + c) = [65, 82, 82, 49, UInt8.ofNat n] ++ (frsB ix zn m).take c := by
    have e1 : recB n m ix zn = [65, 82, 82, 49, UInt8.ofNat n] ++ frsB ix zn m := rfl
    rw [e1, List.take_append]
    have e2 : List.take (5 + c) [65, 82, 82, 49, UInt8.ofNat n] = [65, 82, 82, 49, UInt8.ofNat n] := List.take_of_length_le (by simp)
    have e3 : 5 + c - [(65 : UInt8), 82, 82, 49, UInt8.ofNat n].length = c := by simp
    rw [e2, e3]
  obtain ⟨h1, h2⟩ := hdr_ok (T := (frsB ix zn m).take c) hd.n1 hd.n16
  rw [← e] at h1 h2
  have hlt : ((recB n m ix zn).take (5 + c)).length = 5 + c := by rw [List.length_take]; omega
  obtain ⟨S, hS⟩ : ∃ S, S = 6 + 8 * n := ⟨_, rfl⟩
  have dm := Nat.div_add_mod c S
  have ml := Nat.mod_lt c (show 0 < S by omega)
  have hq : c / S ≤ m := by
    rw [Nat.div_le_iff_le_mul_add_pred (by omega)]
    rw [← hS] at hc
    rw [Nat.mul_comm S m]
    omega
  rw [← hS]
  refine ⟨h1, h2, hlt, hq, ?_⟩
  have := cnt_of (l := (recB n m ix zn).take (5 + c)) (hd.le hq) h1 h2 (fun j hj => ?_) (.inr (at_short ?_))
  · rw [← hS] at this
    exact this
  · rw [← hS]
    have hj1 : (j + 1) * S ≤ c / S * S := Nat.mul_le_mul_right _ hj
    rw [Nat.add_mul, Nat.one_mul] at hj1
    rw [Nat.mul_comm S] at dm
    rw [List.drop_take, List.take_take, Nat.min_eq_left (by omega)]
    have := rec_at (ix := ix) (zn := zn) (n := n) (m := m) (j := j) (by omega) hd.row
    rw [← hS] at this
    exact this
  · rw [hlt, ← hS, Nat.mul_comm]
    omega
/-- The bytes of a record with one byte that is another one. -/
theorem bent_ok {p : Nat} {b : UInt8} (hd : RD n m ix zn) (hp : p < m * (6 + 8 * n)) (hb : b.toNat ≠ ((recB n m ix zn).getD (5 + p) 0).toNat) : hdrOk ((recB n m ix zn).set (5 + p) b) = true ∧ elN ((recB n m ix zn).set (5 + p) b) = n ∧ p / (6 + 8 * n) < m ∧ (∀ j, j < m → j ≠ p / (6 + 8 * n) → (((recB n m ix zn).set (5 + p) b).drop (5 + j * (6 + 8 * n))).take (6 + 8 * n) = frB (ix j) (zn j)) ∧ atOk ((recB n m ix zn).set (5 + p) b) (5 + p / (6 + 8 * n) * (6 + 8 * n)) n = false := by
  have hl := rec_len (ix := ix) hd.row
  have e : (recB n m ix zn).set (5 + p) b = [65, 82, 82, 49, UInt8.ofNat n] ++ (frsB ix zn m).set p b := by
    have e1 : recB n m ix zn = [65, 82, 82, 49, UInt8.ofNat n] ++ frsB ix zn m := rfl
    rw [e1, List.set_append_right _ _ (by simp)]
    congr 2
    simp
  obtain ⟨h1, h2⟩ := hdr_ok (T := (frsB ix zn m).set p b) hd.n1 hd.n16
  rw [← e] at h1 h2
  obtain ⟨S, hS⟩ : ∃ S, S = 6 + 8 * n := ⟨_, rfl⟩
  have dm := Nat.div_add_mod p S
  have ml := Nat.mod_lt p (show 0 < S by omega)
  have hq : p / S < m := by
    rw [← hS] at hp
    exact Nat.div_lt_of_lt_mul (by rw [Nat.mul_comm]; exact hp)
  have rat : ∀ j, j < m → ((recB n m ix zn).drop (5 + j * S)).take S = frB (ix j) (zn j) := fun j hj => by
    have := rec_at (ix := ix) (zn := zn) (n := n) (m := m) (j := j) hj hd.row
    rw [← hS] at this
    exact this
  rw [← hS]
  refine ⟨h1, h2, hq, fun j hj hne => ?_, ?_⟩
  · rw [List.drop_set]
    rcases Nat.lt_or_ge j (p / S) with q | q
    · have h3 : (j + 1) * S ≤ p / S * S := Nat.mul_le_mul_right _ q
      rw [Nat.add_mul, Nat.one_mul, Nat.mul_comm (p / S)] at h3
      rw [if_neg (by omega), List.take_set_of_le (by omega)]
      exact rat j hj
    · have h3 : (p / S + 1) * S ≤ j * S := Nat.mul_le_mul_right _ (by omega)
      rw [Nat.add_mul, Nat.one_mul, Nat.mul_comm (p / S)] at h3
      rw [if_pos (by omega)]
      exact rat j hj
  · have hr := rat (p / S) hq
    have hw : (((recB n m ix zn).set (5 + p) b).drop (5 + p / S * S)).take S = (frB (ix (p / S)) (zn (p / S))).set (p % S) b := by
      rw [← hr, List.drop_set, if_neg (by rw [Nat.mul_comm]; omega), List.take_set]
      congr 1
      rw [Nat.mul_comm]; omega
    have hfl : (frB (ix (p / S)) (zn (p / S))).length = S := by rw [frB_len, hd.row _ hq, hS]
    have hbb : b ≠ (frB (ix (p / S)) (zn (p / S)))[p % S]'(by rw [hfl]; exact ml) := fun q => by
      apply hb
      rw [q]
      have e3 : (frB (ix (p / S)) (zn (p / S)))[p % S]? = (recB n m ix zn)[5 + p]? := by
        rw [← hr, List.getElem?_take_of_lt ml, List.getElem?_drop]
        congr 1
        rw [Nat.mul_comm]; omega
      rw [List.getD_eq_getElem?_getD, ← e3, List.getElem?_eq_getElem (by rw [hfl]; exact ml)]
      rfl
    have nb := fr_bent (idx' := wd ((recB n m ix zn).set (5 + p) b) (5 + p / S * S)) (zs' := atZ ((recB n m ix zn).set (5 + p) b) (5 + p / S * S) n) (by rw [atZ_len, hd.row _ hq]) (by rw [hfl]; exact ml) hbb
    rw [← hw] at nb
    unfold atOk
    rw [← hS, beq_eq_false_iff_ne.2 nb, Bool.and_false]
end Go.Proofs.Yteignhphimfmkaa.Sim

/- The law FnKept. Lemmas only; no condition. -/
set_option linter.unusedSimpArgs false
set_option linter.unusedVariables false
set_option maxRecDepth 8000
namespace Go.Proofs.Yteignhphimfmkaa.Sim
open Go Go.RowKit
variable {ro : Nat} {X : Ext}
theorem r8LongK_r (hX : X 4 = none) {lo hi lo' hi' n n' : Nat} {x y : Value} {L M : List Value} {h : Heap} (hV : VS lo hi 1 h x n L) (hU : VS lo' hi' 1 h y n' M) (hn : n ≤ 140737488355328) (hn' : n' ≤ 140737488355328) : Ret Try.prog ro X 4 [x, y] h (.bool (decide (48 < n) || decide (48 < n'))) := by
  refine ret_of (callR_of hX Try.func4 rfl (by kernel_rfl) (Nat.le_of_ble_eq_true rfl) ?_)
  (repeat' first | simp -dsimp (disch := first | omega | assumption | (refine OkS.sto ?_ (by omega); first | assumption | (refine OkS.sto ?_ (by omega); first | assumption | (refine OkS.sto ?_ (by omega); first | assumption | (refine OkS.sto ?_ (by omega); first | assumption | (refine OkS.sto ?_ (by omega); first | assumption | (refine OkS.sto ?_ (by omega); first | assumption)))))) | exact Pfx.refl _ | (apply Pfx.snoc; repeat (first | exact Pfx.refl _ | assumption | apply Pfx.snoc)) | with_unfolding_all exact of_eq_true (eq_true rfl) | (simp only [List.length_append, List.length_cons, List.length_nil]; omega)) only [↓wpre0, ↓wpre1, ↓reduceIte, Int.reduceToNat, Nat.reduceAdd, Nat.reduceMul, Nat.reduceEqDiff, wpost0, wpost1, wpost2, wpost3, wpost4, ite_self, ite_true, ite_false, if_true, if_false, xlen22, bin_gtr, fr4, wrap_int, wrap_u8, iteP_yes, iteP_no, hV.len Try.underlying22, hU.len Try.underlying22] | refine iteP_two (fun hc hd => ?_) (fun hc hd => ?_) | refine iteP_intro (fun hc => ?_) (fun hc => ?_))
  all_goals first
    | (rw [decide_eq_true (p := 48 < n) (by omega)]; rfl)
    | (rw [decide_eq_false (p := 48 < n) (by omega), Bool.false_or]; congr 1; exact decide_eq_decide.2 (by omega))
theorem r8AtK_all (hX : X 11 = none) {x : Value} {cd : List UInt8} {i n : Int} (h0 : 0 ≤ i) (h1 : i ≤ 100000) (hn : 2 ≤ n) (hn2 : n ≤ 100000) (hl : cd.length ≤ 1099511627776) : ∃ v : Nat, (v : Int) < n ∧ ∀ {lo hi : Nat} {h : Heap}, VS lo hi 1 h x cd.length (cd.map u8v) → Ret Try.prog ro X 11 [x, .int .i64 i, .int .i64 n] h (.int .i64 v) := by
  by_cases hin : i < cd.length
  · obtain ⟨m, rfl⟩ : ∃ m : Nat, i = m := ⟨i.toNat, by omega⟩
    have hm : m < cd.length := by omega
    have hld : ∀ {lo hi : Nat} {h : Heap}, VS lo hi 1 h x cd.length (cd.map u8v) → ld Try.prog h 5 (ea x (m * 1)) = some (.int .u8 ((cd[m]'hm).toNat : Int)) := fun hV => by
      rw [hV.ld1 tsz5 tag5 (by omega), Nat.mul_one]
      simp [vth, u8v, List.getD_eq_getElem?_getD, hm]
    have hb := (cd[m]'hm).toNat_lt
    generalize (cd[m]'hm).toNat = w at *
    have hmod : ((w : Int).tmod n) = ((w % n.toNat : Nat) : Int) := by
      rw [Int.tmod_eq_emod_of_nonneg (by omega)]
      conv => lhs; rw [show n = (n.toNat : Int) by omega]
      rfl
    have hlt : w % n.toNat < n.toNat := Nat.mod_lt _ (by omega)
    refine ⟨w % n.toNat, by omega, ?_⟩
    intro lo hi h hV
    have hld := hld hV
    refine ret_of (callR_of hX Try.func11 rfl (by kernel_rfl) (Nat.le_of_ble_eq_true rfl) ?_)
    (repeat' first | simp -dsimp (disch := first | omega | assumption | (refine OkS.sto ?_ (by omega); first | assumption | (refine OkS.sto ?_ (by omega); first | assumption | (refine OkS.sto ?_ (by omega); first | assumption | (refine OkS.sto ?_ (by omega); first | assumption | (refine OkS.sto ?_ (by omega); first | assumption | (refine OkS.sto ?_ (by omega); first | assumption)))))) | exact Pfx.refl _ | (apply Pfx.snoc; repeat (first | exact Pfx.refl _ | assumption | apply Pfx.snoc)) | with_unfolding_all exact of_eq_true (eq_true rfl) | (simp only [List.length_append, List.length_cons, List.length_nil]; omega)) only [↓wpre0, ↓wpre1, ↓reduceIte, Int.reduceToNat, Nat.reduceAdd, Nat.reduceMul, Nat.reduceEqDiff, wpost0, wpost1, wpost2, wpost3, wpost4, ite_self, ite_true, ite_false, if_true, if_false, bin_leq, xlen22, bin_geq, xiad22, xld5, xcv5_2, bin_rem, fr11, wrap_int, wrap_u8, iteP_yes, iteP_no, hV.len Try.underlying22, hV.iad Try.underlying22 tsz5, Int.toNat_natCast, hld, bin_rem, hmod] | refine iteP_two (fun hc hd => ?_) (fun hc hd => ?_) | refine iteP_intro (fun hc => ?_) (fun hc => ?_))
  · refine ⟨0, by omega, ?_⟩
    intro lo hi h hV
    refine ret_of (callR_of hX Try.func11 rfl (by kernel_rfl) (Nat.le_of_ble_eq_true rfl) ?_)
    (repeat' first | simp -dsimp (disch := first | omega | assumption | (refine OkS.sto ?_ (by omega); first | assumption | (refine OkS.sto ?_ (by omega); first | assumption | (refine OkS.sto ?_ (by omega); first | assumption | (refine OkS.sto ?_ (by omega); first | assumption | (refine OkS.sto ?_ (by omega); first | assumption | (refine OkS.sto ?_ (by omega); first | assumption)))))) | exact Pfx.refl _ | (apply Pfx.snoc; repeat (first | exact Pfx.refl _ | assumption | apply Pfx.snoc)) | with_unfolding_all exact of_eq_true (eq_true rfl) | (simp only [List.length_append, List.length_cons, List.length_nil]; omega)) only [↓wpre0, ↓wpre1, ↓reduceIte, Int.reduceToNat, Nat.reduceAdd, Nat.reduceMul, Nat.reduceEqDiff, wpost0, wpost1, wpost2, wpost3, wpost4, ite_self, ite_true, ite_false, if_true, if_false, bin_leq, xlen22, bin_geq, xiad22, xld5, xcv5_2, bin_rem, fr11, wrap_int, wrap_u8, iteP_yes, iteP_no, hV.len Try.underlying22] | refine iteP_two (fun hc hd => ?_) (fun hc hd => ?_) | refine iteP_intro (fun hc => ?_) (fun hc => ?_))
    rfl
variable {n m lo hi lo' hi' : Nat} {ix : Nat → Int} {zn : Nat → List (Nat × Nat)} {h : Heap} {x y : Value} {cd md : List UInt8}
theorem full_ok (hd : RD n m ix zn) : hdrOk (recB n m ix zn) = true ∧ elN (recB n m ix zn) = n ∧ (recB n m ix zn).length = 5 + m * (6 + 8 * n) ∧ Cnt (recB n m ix zn) m ∧ (∀ j, j < m → ixN (recB n m ix zn) j = ix j ∧ zsN (recB n m ix zn) j = (zn j).map cpx) ∧ posN (recB n m ix zn) m = 5 + m * (6 + 8 * n) := by
  have hl := rec_len (ix := ix) hd.row
  obtain ⟨h1, h2⟩ := hdr_ok (T := frsB ix zn m) hd.n1 hd.n16
  exact ⟨h1, h2, hl, cnt_of hd h1 h2 (fun j hj => rec_at hj hd.row) (.inr (at_short (by rw [hl]; omega)))⟩
theorem rv_of {l : List UInt8} {L : List Value} {lo : Nat} (g : FrS lo h x (elN l) m L (ixN l) (zsN l)) (he : elN l = n) (hx : ∀ j, j < m → ixN l j = ix j ∧ zsN l j = (zn j).map cpx) : RV h x n m ix zn := by
  rw [he] at g
  exact ⟨lo, h.length, L, Nat.le_refl _, g.v.1, g.v.2.cg (fun j hj => (hx j hj).1) (fun j hj => (hx j hj).2)⟩
/-- One byte that is another one. -/
theorem xor_b {P : Program} {t : TypeId} {a c : Nat} (ha : a < 256) (hc0 : 0 < c) (hc : c < 256) : ∃ w : Nat, w < 256 ∧ w ≠ a ∧ abin P .xor t (.int .u8 (a : Int)) (.int .u8 (c : Int)) = some (.int .u8 (w : Int)) := by
  refine ⟨a ^^^ c, Nat.xor_lt_two_pow (n := 8) ha hc, fun q => ?_, ?_⟩
  · have : a ^^^ (a ^^^ c) = a ^^^ a := by rw [q]
    rw [← Nat.xor_assoc, Nat.xor_self, Nat.zero_xor] at this
    omega
  · rw [bin_xor]
    have hx := Nat.xor_lt_two_pow (n := 8) ha hc
    have e : (BitVec.ofInt IntKind.u8.bits (a : Int) ^^^ BitVec.ofInt IntKind.u8.bits (c : Int)).toNat = a ^^^ c := by
      rw [BitVec.toNat_xor]
      congr 1 <;> (rw [BitVec.toNat_ofInt]; show (_ % ((2 ^ 8 : Nat) : Int)).toNat = _; omega)
    rw [e, wrap8]
    congr 2
    omega
theorem vs_byte (h : Heap) (b : UInt8) : VS h.length (h.length + 1) 1 (h ++ [(⟨5, [u8v b]⟩ : Blk)]) (.slice (some ⟨h.length, 0, none⟩) 1 1) 1 ([b].map u8v) :=
  ⟨rfl, .inr ⟨h.length, 0, 1, ⟨5, [u8v b]⟩, rfl, Nat.le_refl _, Nat.lt_succ_self _, get_last rfl, by simp, fun j hj => by
    obtain rfl : j = 0 := by omega
    simp [vth]⟩⟩
theorem fd_bent {l : List UInt8} {p n : Nat} {b : UInt8} {r : Value} (h1 : hdrOk l = true) (h2 : hdrOk (l.set (5 + p) b) = true) (e1 : elN l = n) (e2 : elN (l.set (5 + p) b) = n) (hp : 5 + p < l.length) (hb : b.toNat ≠ (l.getD (5 + p) 0).toNat) (h : FdR ⟨⟨l⟩⟩ ⟨⟨l.set (5 + p) b⟩⟩ r) : r = .tuple ⟨[.int .i64 ((p : Int).tdiv (6 + 8 * (n : Int))), .int .i64 ((p : Int).tmod (6 + 8 * (n : Int))), .bool true]⟩ := by
  have b1 := (hdrOk_n h1).1
  have b2 := (hdrOk_n h2).1
  rw [e1] at b1
  rw [e2] at b2
  have at_ : (l.set (5 + p) b).getD (5 + p) 0 = b := by rw [List.getD_eq_getElem?_getD, List.getElem?_set_self hp]; rfl
  have hne : l ≠ l.set (5 + p) b := fun q => by
    apply hb
    rw [← at_, ← q]
  have bad : badD ⟨⟨l⟩⟩ ⟨⟨l.set (5 + p) b⟩⟩ = false := by
    have o1 : okr ⟨⟨l⟩⟩ = true := h1
    have o2 : okr ⟨⟨l.set (5 + p) b⟩⟩ = true := h2
    unfold badD
    rw [o1, o2, b1, b2, ba_toList, ba_toList, beq_eq_false_iff_ne.2 hne]
    simp
  have hF : Fst ⟨⟨l⟩⟩ ⟨⟨l.set (5 + p) b⟩⟩ ((5 + p : Nat) : Int) := by
    have s1 : (ByteArray.mk ⟨l⟩).size = l.length := rfl
    have s2 : (ByteArray.mk ⟨l.set (5 + p) b⟩).size = l.length := by show (l.set (5 + p) b).length = _; rw [List.length_set]
    refine ⟨by omega, by rw [s1]; omega, by rw [s2]; omega, fun j h5 hj => ?_, fun ⟨_, _, q⟩ => ?_⟩
    · show ((l.getD j.toNat 0).toNat : Int) = (((l.set (5 + p) b).getD j.toNat 0).toNat : Int)
      rw [List.getD_eq_getElem?_getD, List.getD_eq_getElem?_getD, List.getElem?_set_ne (by omega)]
    · change ((l.getD ((5 + p : Nat) : Int).toNat 0).toNat : Int) = (((l.set (5 + p) b).getD ((5 + p : Nat) : Int).toNat 0).toNat : Int) at q
      rw [Int.toNat_natCast, at_] at q
      omega
  rcases h with ⟨a, _⟩ | ⟨_, i, hi, rfl⟩
  · rw [bad] at a; cases a
  · obtain rfl := hi.uniq hF
    rw [b1, show ((5 + p : Nat) : Int) - 5 = (p : Int) by omega]
theorem fd_same {s : ByteArray} {r : Value} (h : FdR s s r) : r = .tuple ⟨[.int .i64 0, .int .i64 0, .bool false]⟩ := by
  have bad : badD s s = true := by unfold badD; simp
  rcases h with ⟨_, rfl⟩ | ⟨a, _⟩
  · rfl
  · rw [bad] at a; cases a
theorem env_cut {P : Program} {c : Code} {Q : Ex → Env → Heap → Prop} {e : Env} {h : Heap} (M : Env → Heap → Prop) (h1 : M e h) (k : ∀ e h, M e h → W P ro X c Q e h) : W P ro X c Q e h := k e h h1
set_option maxHeartbeats 16000000 in
theorem lawKept_c (hV : VS lo hi 1 h x cd.length (cd.map u8v)) (hU : VS lo' hi' 1 h y md.length (md.map u8v)) (hhi : hi ≤ h.length) (hhi' : hi' ≤ h.length) (hro : ro ≤ h.length) (hl : cd.length ≤ 140737488351232) (hl' : md.length ≤ 140737488351232) :
    CallR Try.prog ro (extK ro) 3 [x, y] h (fun r h' => r = .bool true) := by
  have hX := xn_extK ro
  have hXB := xb_extK ro
  have hXU := xu_extK ro
  have hB : extK ro 51 = some (ext1 gBits) := rfl
  refine callR_of (hX _ rfl) Try.func3 rfl (by kernel_rfl) (Nat.le_of_ble_eq_true rfl) ?_
  by_cases hlong : (decide (48 < cd.length) || decide (48 < md.length)) = true
  · (repeat' first | simp -dsimp (disch := first | omega | assumption | (refine OkS.sto ?_ (by omega); first | assumption | (refine OkS.sto ?_ (by omega); first | assumption | (refine OkS.sto ?_ (by omega); first | assumption | (refine OkS.sto ?_ (by omega); first | assumption | (refine OkS.sto ?_ (by omega); first | assumption | (refine OkS.sto ?_ (by omega); first | assumption)))))) | exact Pfx.refl _ | (apply Pfx.snoc; repeat (first | exact Pfx.refl _ | assumption | apply Pfx.snoc)) | with_unfolding_all exact of_eq_true (eq_true rfl) | (simp only [List.length_append, List.length_cons, List.length_nil]; omega)) only [↓wpre0, ↓wpre1, ↓reduceIte, Int.reduceToNat, Nat.reduceAdd, Nat.reduceMul, Nat.reduceEqDiff, wpost0, wpost1, wpost2, wpost3, wpost4, ite_self, ite_true, ite_false, if_true, if_false, tze26, xst26, xld26, xfad26_0, xld2, xfad26_1, xld24, xlen24, un_not, xlen9, bin_mul, bin_add, bin_neq, bin_rem, xsl9, xslo9, xshi9, bin_sub, bin_quo, bin_sneq, bin_eql, tze41, xst41, xidx9, xcv2_5, xbls22_0, xbls22_1, bin_sadd, bin_lss, xfad41_0, xiad24, xfad41_1, xld39, fr3, wrap_int, wrap_u8, iteP_yes, iteP_no, r8LongK_r (hX _ rfl) hV hU (by omega) (by omega), hlong] | refine iteP_two (fun hc hd => ?_) (fun hc hd => ?_) | refine iteP_intro (fun hc => ?_) (fun hc => ?_))
  have hlong' : (decide (48 < cd.length) || decide (48 < md.length)) = false := by simpa using hlong
  have hc1 : cd.length ≤ 48 := by simp at hlong'; omega
  have hm1 : md.length ≤ 48 := by simp at hlong'; omega
  (repeat' first | simp -dsimp (disch := first | omega | assumption | (refine OkS.sto ?_ (by omega); first | assumption | (refine OkS.sto ?_ (by omega); first | assumption | (refine OkS.sto ?_ (by omega); first | assumption | (refine OkS.sto ?_ (by omega); first | assumption | (refine OkS.sto ?_ (by omega); first | assumption | (refine OkS.sto ?_ (by omega); first | assumption)))))) | exact Pfx.refl _ | (apply Pfx.snoc; repeat (first | exact Pfx.refl _ | assumption | apply Pfx.snoc)) | with_unfolding_all exact of_eq_true (eq_true rfl) | (simp only [List.length_append, List.length_cons, List.length_nil]; omega)) only [↓wpre0, ↓wpre1, ↓reduceIte, Int.reduceToNat, Nat.reduceAdd, Nat.reduceMul, Nat.reduceEqDiff, wpost0, wpost1, wpost2, wpost3, wpost4, ite_self, ite_true, ite_false, if_true, if_false, tze26, xst26, xld26, xfad26_0, xld2, xfad26_1, xld24, xlen24, un_not, xlen9, bin_mul, bin_add, bin_neq, bin_rem, xsl9, xslo9, xshi9, bin_sub, bin_quo, bin_sneq, bin_eql, tze41, xst41, xidx9, xcv2_5, xbls22_0, xbls22_1, bin_sadd, bin_lss, xfad41_0, xiad24, xfad41_1, xld39, fr3, wrap_int, wrap_u8, iteP_yes, iteP_no, r8LongK_r (hX _ rfl) hV hU (by omega) (by omega), hlong'] | refine iteP_two (fun hc hd => ?_) (fun hc hd => ?_) | refine iteP_intro (fun hc => ?_) (fun hc => ?_))
  refine cf_rel (Rec_c hV hhi (by omega) hro) (fun q => by cases q) ?_
  rintro _ H1 ⟨n, fs, yr, L, rfl, n3, hok, h5, hF, p1⟩
  have l1 := p1.len
  have hd := hok.rd
  have n1 := hd.n1
  have n16 := hd.n16
  obtain ⟨m, hm⟩ : ∃ m, m = fs.length := ⟨_, rfl⟩
  obtain ⟨ix, hix⟩ : ∃ ix, ix = rIx fs := ⟨_, rfl⟩
  obtain ⟨zn, hzn⟩ : ∃ zn, zn = rZn fs := ⟨_, rfl⟩
  have hR1 : RV H1 yr n m ix zn := by rw [hm, hix, hzn]; exact ⟨_, _, L, Nat.le_refl _, hF⟩
  have m5 : m ≤ 5 := by omega
  rw [← hm, ← hix, ← hzn] at hd
  have fR1 := fr_shape hF
  clear hix hzn hm hF h5 hok fs L
  obtain ⟨K1, hK1⟩ : ∃ K, K = H1 ++ [(⟨26, [.int .i64 n, yr]⟩ : Blk)] := ⟨_, rfl⟩
  have q1 : Pfx H1 K1 := by rw [hK1]; exact (Pfx.refl _).snoc
  have lK1 : K1.length = H1.length + 1 := by rw [hK1]; simp
  have pR : put ro (H1 ++ [(⟨26, [.int .i64 0, .slice none 0 0]⟩ : Blk)]) H1.length 0 2 (.agg ⟨[.int .i64 n, yr]⟩) = some (H1 ++ [⟨26, [.int .i64 n, yr]⟩]) := put_last2 (by omega) rfl fR1.2.2
  have dR : ∀ {K : Heap}, Pfx K1 K → K[H1.length]? = some ⟨26, [.int .i64 n, yr]⟩ := fun p => by rw [p.get (by omega), hK1]; exact get_last rfl
  have cR : ∀ {K : Heap}, Pfx K1 K → cells K H1.length 0 2 = some (.agg ⟨[.int .i64 n, yr]⟩) := fun p => cellsb (dR p) (by simp)
  have cR0 : ∀ {K : Heap}, Pfx K1 K → cell K H1.length 0 = some (.int .i64 n) := fun p => cellb (dR p)
  have cR1 : ∀ {K : Heap}, Pfx K1 K → cell K H1.length 1 = some yr := fun p => cellb (dR p)
  have mR : ∀ {K : Heap}, Pfx K1 K → RV K yr n m ix zn := fun p => hR1.pre (q1.trans p)
  have cRk := cR (Pfx.refl K1)
  have fR := fR1
  obtain ⟨l, hlr⟩ : ∃ l, l = recB n m ix zn := ⟨_, rfl⟩
  obtain ⟨f1, f2, f3, f4, f5, f6⟩ := full_ok hd
  rw [← hlr] at f1 f2 f3 f4 f5 f6
  have S30 : m * (6 + 8 * n) ≤ 5 * 30 := Nat.mul_le_mul m5 (by omega)
  (repeat' first | simp -dsimp (disch := first | omega | assumption | (refine OkS.sto ?_ (by omega); first | assumption | (refine OkS.sto ?_ (by omega); first | assumption | (refine OkS.sto ?_ (by omega); first | assumption | (refine OkS.sto ?_ (by omega); first | assumption | (refine OkS.sto ?_ (by omega); first | assumption | (refine OkS.sto ?_ (by omega); first | assumption)))))) | exact Pfx.refl _ | (apply Pfx.snoc; repeat (first | exact Pfx.refl _ | assumption | apply Pfx.snoc)) | with_unfolding_all exact of_eq_true (eq_true rfl) | (simp only [List.length_append, List.length_cons, List.length_nil]; omega)) only [↓wpre0, ↓wpre1, ↓reduceIte, Int.reduceToNat, Nat.reduceAdd, Nat.reduceMul, Nat.reduceEqDiff, wpost0, wpost1, wpost2, wpost3, wpost4, ite_self, ite_true, ite_false, if_true, if_false, tze26, xst26, xld26, xfad26_0, xld2, xfad26_1, xld24, xlen24, un_not, xlen9, bin_mul, bin_add, bin_neq, bin_rem, xsl9, xslo9, xshi9, bin_sub, bin_quo, bin_sneq, bin_eql, tze41, xst41, xidx9, xcv2_5, xbls22_0, xbls22_1, bin_sadd, bin_lss, xfad41_0, xiad24, xfad41_1, xld39, fr3, wrap_int, wrap_u8, iteP_yes, iteP_no, pR] | refine iteP_two (fun hc hd => ?_) (fun hc hd => ?_) | refine iteP_intro (fun hc => ?_) (fun hc => ?_))
  rw [← hK1]
  refine cf_rel (Store_c hXU hXB (mR (Pfx.refl K1)) hd (by omega)) (fun q => by cases q) ?_
  rintro _ KK ⟨rfl, e1⟩
  rw [e1, ← hlr]
  clear e1 KK
  (repeat' first | simp -dsimp (disch := first | omega | assumption | (refine OkS.sto ?_ (by omega); first | assumption | (refine OkS.sto ?_ (by omega); first | assumption | (refine OkS.sto ?_ (by omega); first | assumption | (refine OkS.sto ?_ (by omega); first | assumption | (refine OkS.sto ?_ (by omega); first | assumption | (refine OkS.sto ?_ (by omega); first | assumption)))))) | exact Pfx.refl _ | (apply Pfx.snoc; repeat (first | exact Pfx.refl _ | assumption | apply Pfx.snoc)) | with_unfolding_all exact of_eq_true (eq_true rfl) | (simp only [List.length_append, List.length_cons, List.length_nil]; omega)) only [↓wpre0, ↓wpre1, ↓reduceIte, Int.reduceToNat, Nat.reduceAdd, Nat.reduceMul, Nat.reduceEqDiff, wpost0, wpost1, wpost2, wpost3, wpost4, ite_self, ite_true, ite_false, if_true, if_false, tze26, xst26, xld26, xfad26_0, xld2, xfad26_1, xld24, xlen24, un_not, xlen9, bin_mul, bin_add, bin_neq, bin_rem, xsl9, xslo9, xshi9, bin_sub, bin_quo, bin_sneq, bin_eql, tze41, xst41, xidx9, xcv2_5, xbls22_0, xbls22_1, bin_sadd, bin_lss, xfad41_0, xiad24, xfad41_1, xld39, fr3, wrap_int, wrap_u8, iteP_yes, iteP_no] | refine iteP_two (fun hc hd => ?_) (fun hc hd => ?_) | refine iteP_intro (fun hc => ?_) (fun hc => ?_))
  refine cf_rel (iLoad_c hXB (l := l) (by omega) (by omega)) (fun q => by cases q) ?_
  rintro _ K2 ⟨q2, ⟨hbad, _⟩ | ⟨_, m2, x2, L2, hc2, hp2, rfl, hFS⟩⟩
  · rcases hbad with hb | ⟨m', hb1, hb2⟩
    · rw [f1] at hb; cases hb
    · obtain rfl := f4.uniq hb1
      exact absurd (by rw [f6, f3]) hb2
  obtain rfl := f4.uniq hc2
  have lK2 := q2.len
  have hR2 := rv_of hFS f2 f5
  rw [f2]
  have fX : flat x2 = false ∧ cellsOf x2 = [x2] ∧ one x2 = true := hFS.v.1.shape
  obtain ⟨K3, hK3⟩ : ∃ K, K = K2 ++ [(⟨26, [.int .i64 n, x2]⟩ : Blk)] := ⟨_, rfl⟩
  have q3 : Pfx K2 K3 := by rw [hK3]; exact (Pfx.refl _).snoc
  have lK3 : K3.length = K2.length + 1 := by rw [hK3]; simp
  have pX : put ro (K2 ++ [(⟨26, [.int .i64 0, .slice none 0 0]⟩ : Blk)]) K2.length 0 2 (.agg ⟨[.int .i64 n, x2]⟩) = some (K2 ++ [⟨26, [.int .i64 n, x2]⟩]) := put_last2 (by omega) rfl fX.2.2
  have q13 := q2.trans q3
  have cX : cells K3 K2.length 0 2 = some (.agg ⟨[.int .i64 n, x2]⟩) := by rw [hK3]; exact cellsb (get_last rfl) (by simp)
  have hcn : count (n : Int) = true := by simp only [count, Bool.and_eq_true, decide_eq_true_eq]; omega
  have hsz := iFrameSize_c (ro := ro) hX (n : Int) hcn
  obtain ⟨lo3, hi3, L3, hh3, hI3, hG3⟩ := id (mR q13)
  have hlI := hI3.len (P := Try.prog) (ro := ro) Try.underlying24
  have v3 := ValidRec_r (ro := ro) hX (mR q13) hd (by omega)
  have s3 := SameRec_r (ro := ro) hX hB (hR2.pre q3) (mR q13) hd (by omega)
  have hmul : (m : Int) * (6 + 8 * (n : Int)) = ((m * (6 + 8 * n) : Nat) : Int) := by rw [Int.natCast_mul]; rfl
  have c2R : cell (K2 ++ [(⟨26, [.int .i64 n, x2]⟩ : Blk)]) H1.length 0 = some (.int .i64 n) := by rw [← hK3]; exact cR0 q13
  (repeat' first | simp -dsimp (disch := first | omega | assumption | (refine OkS.sto ?_ (by omega); first | assumption | (refine OkS.sto ?_ (by omega); first | assumption | (refine OkS.sto ?_ (by omega); first | assumption | (refine OkS.sto ?_ (by omega); first | assumption | (refine OkS.sto ?_ (by omega); first | assumption | (refine OkS.sto ?_ (by omega); first | assumption)))))) | exact Pfx.refl _ | (apply Pfx.snoc; repeat (first | exact Pfx.refl _ | assumption | apply Pfx.snoc)) | with_unfolding_all exact of_eq_true (eq_true rfl) | (simp only [List.length_append, List.length_cons, List.length_nil]; omega)) only [↓thenQ_normal, ↓thenQ_exit, ↓thenQ_ret, ↓blockQ_normal, ↓blockQ_exit, ↓blockQ_ret, ↓o_plain, ↓o_nil, ↓o_guard, ↓gvl_zero, ↓gvl_succ, ↓p_move, ↓p_assign, ↓p_pick, ↓p_binOp, ↓p_unOp, ↓wpre1, ↓reduceIte, Int.reduceToNat, Nat.reduceAdd, Nat.reduceMul, Nat.reduceEqDiff, wpost0, wpost1, wpost2, wpost3, wpost4, ite_self, ite_true, ite_false, if_true, if_false, tze26, xst26, xld26, xfad26_0, xld2, xfad26_1, xld24, xlen24, un_not, xlen9, bin_mul, bin_add, bin_neq, bin_rem, xsl9, xslo9, xshi9, bin_sub, bin_quo, bin_sneq, bin_eql, tze41, xst41, xidx9, xcv2_5, xbls22_0, xbls22_1, bin_sadd, bin_lss, xfad41_0, xiad24, xfad41_1, xld39, fr3, wrap_int, wrap_u8, iteP_yes, iteP_no, pX] | refine iteP_two (fun hc hd => ?_) (fun hc hd => ?_) | refine iteP_intro (fun hc => ?_) (fun hc => ?_))
  rw [← hK3]
  refine env_cut (fun e h2 => h2 = K3 ∧ e 1 = y ∧ e 5 = .pointer (some ⟨H1.length, 0, none⟩) ∧ e 6 = .string ⟨⟨l⟩⟩ ∧ e 7 = .bool true ∧ e 8 = .pointer (some ⟨K2.length, 0, none⟩) ∧ e 9 = .bool true) ?_ ?_
  · simp only [updO_at, updO_not, entry_at, List.getD_cons_zero, List.getD_cons_succ, ↓reduceIte, Nat.reduceEqDiff, true_and, and_true]
    (repeat' (first | assumption | rfl | omega | refine And.intro ?_ ?_))
  rintro e K3 ⟨rfl, z1, z5, z6, z7, z8, z9⟩
  have cm : ((5 : Int) + ((m * (6 + 8 * n) : Nat) : Int)) = ((5 + m * (6 + 8 * n) : Nat) : Int) := by omega
  (repeat' first | simp -dsimp (disch := first | omega | assumption | (refine OkS.sto ?_ (by omega); first | assumption | (refine OkS.sto ?_ (by omega); first | assumption | (refine OkS.sto ?_ (by omega); first | assumption | (refine OkS.sto ?_ (by omega); first | assumption | (refine OkS.sto ?_ (by omega); first | assumption | (refine OkS.sto ?_ (by omega); first | assumption)))))) | exact Pfx.refl _ | (apply Pfx.snoc; repeat (first | exact Pfx.refl _ | assumption | apply Pfx.snoc)) | with_unfolding_all exact of_eq_true (eq_true rfl) | (simp only [List.length_append, List.length_cons, List.length_nil]; omega)) only [↓wpre0, ↓wpre1, ↓reduceIte, Int.reduceToNat, Nat.reduceAdd, Nat.reduceMul, Nat.reduceEqDiff, wpost0, wpost1, wpost2, wpost3, wpost4, ite_self, ite_true, ite_false, if_true, if_false, tze26, xst26, xld26, xfad26_0, xld2, xfad26_1, xld24, xlen24, un_not, len_bl Try.underlying9, bin_mul, bin_add, bin_neq, bin_rem, sl_bl Try.underlying9, slo_bl Try.underlying9, shi_bl Try.underlying9, bin_sub, bin_quo, sneq_bl, bin_eql, tze41, xst41, idx_bl Try.underlying9, xcv2_5, xbls22_0, xbls22_1, sadd_bl, bin_lss, xfad41_0, xiad24, xfad41_1, xld39, fr3, wrap_int, wrap_u8, iteP_yes, iteP_no, z1, z5, z6, z7, z8, z9, cR0 q13, cR1 q13, cR q13, cX, cf_eq (hsz _), hlI, v3, s3, f3, hmul, cm] | refine iteP_two (fun hc hd => ?_) (fun hc hd => ?_) | refine iteP_intro (fun hc => ?_) (fun hc => ?_))
  have mU : ∀ {K : Heap}, Pfx K1 K → VS lo' hi' 1 K y md.length (md.map u8v) := fun p => hU.pre (p1.trans (q1.trans p))
  obtain ⟨a0, ha0, hat0⟩ := r8AtK_all (ro := ro) (X := extK ro) (x := y) (cd := md) (hX _ rfl) (i := 0) (n := 256) (by omega) (by omega) (by omega) (by omega) (by omega)
  obtain ⟨a1, ha1, hat1⟩ := r8AtK_all (ro := ro) (X := extK ro) (x := y) (cd := md) (hX _ rfl) (i := 1) (n := 256) (by omega) (by omega) (by omega) (by omega) (by omega)
  obtain ⟨S, hS⟩ : ∃ S, S = 6 + 8 * n := ⟨_, rfl⟩
  obtain ⟨T, hT⟩ : ∃ T, T = m * (6 + 8 * n) := ⟨_, rfl⟩
  rw [← hT] at hmul f3 f6 S30
  obtain ⟨c, hc⟩ : ∃ c, c = (256 * a0 + a1) % (T + 1) := ⟨_, rfl⟩
  have hcT : c ≤ T := by have := Nat.mod_lt (256 * a0 + a1) (show 0 < T + 1 by omega); omega
  have hcut : (256 * (a0 : Int) + (a1 : Int)).tmod ((T : Int) + 1) = (c : Int) := by
    rw [Int.tmod_eq_emod_of_nonneg (by omega), hc]
    rfl
  have cc5 : (5 : Int) + (c : Int) = ((5 + c : Nat) : Int) := by omega
  obtain ⟨g1, g2, g3, g4, g5, g6, g7⟩ := cut_ok (c := c) hd (by rw [← hT]; exact hcT)
  rw [← hlr] at g1 g2 g3 g5 g6 g7
  rw [← hS] at g4 g5 g6 g7
  obtain ⟨l', hl'⟩ : ∃ l', l' = l.take (5 + c) := ⟨_, rfl⟩
  rw [← hl'] at g1 g2 g3 g5 g6 g7
  obtain ⟨q, hq⟩ : ∃ q, q = c / S := ⟨_, rfl⟩
  rw [← hq] at g4 g5 g6 g7
  (repeat' first | simp -dsimp (disch := first | omega | assumption | (refine OkS.sto ?_ (by omega); first | assumption | (refine OkS.sto ?_ (by omega); first | assumption | (refine OkS.sto ?_ (by omega); first | assumption | (refine OkS.sto ?_ (by omega); first | assumption | (refine OkS.sto ?_ (by omega); first | assumption | (refine OkS.sto ?_ (by omega); first | assumption)))))) | exact Pfx.refl _ | (apply Pfx.snoc; repeat (first | exact Pfx.refl _ | assumption | apply Pfx.snoc)) | with_unfolding_all exact of_eq_true (eq_true rfl) | (simp only [List.length_append, List.length_cons, List.length_nil]; omega)) only [↓wpre0, ↓wpre1, ↓reduceIte, Int.reduceToNat, Nat.reduceAdd, Nat.reduceMul, Nat.reduceEqDiff, wpost0, wpost1, wpost2, wpost3, wpost4, ite_self, ite_true, ite_false, if_true, if_false, tze26, xst26, xld26, xfad26_0, xld2, xfad26_1, xld24, xlen24, un_not, len_bl Try.underlying9, bin_mul, bin_add, bin_neq, bin_rem, sl_bl Try.underlying9, slo_bl Try.underlying9, shi_bl Try.underlying9, bin_sub, bin_quo, sneq_bl, bin_eql, tze41, xst41, idx_bl Try.underlying9, xcv2_5, xbls22_0, xbls22_1, sadd_bl, bin_lss, xfad41_0, xiad24, xfad41_1, xld39, fr3, wrap_int, wrap_u8, iteP_yes, iteP_no, z1, z5, z6, z7, z8, z9, hat0 (mU q13), hat1 (mU q13), bin_rem, hmul, hcut, cc5, Int.toNat_natCast, ← hl'] | refine iteP_two (fun hc hd => ?_) (fun hc hd => ?_) | refine iteP_intro (fun hc => ?_) (fun hc => ?_))
  refine cf_rel (iRecover_c hXB (l := l') (by omega) (by omega)) (fun q => by cases q) ?_
  rintro _ K4 ⟨q4, ⟨hbad, _⟩ | ⟨_, m4, x4, L4, hc4, rfl, hFS4⟩⟩
  · rw [g1] at hbad; cases hbad
  obtain rfl := g5.uniq hc4
  have lK4 := q4.len
  have hR4 := rv_of hFS4 g2 g6
  rw [g2, g7]
  have fX4 : flat x4 = false ∧ cellsOf x4 = [x4] ∧ one x4 = true := hFS4.v.1.shape
  have lI4 := hFS4.v.1.len (P := Try.prog) (ro := ro) Try.underlying24
  obtain ⟨K5, hK5⟩ : ∃ K, K = K4 ++ [(⟨26, [.int .i64 n, x4]⟩ : Blk)] := ⟨_, rfl⟩
  have q5 : Pfx K4 K5 := by rw [hK5]; exact (Pfx.refl _).snoc
  have lK5 : K5.length = K4.length + 1 := by rw [hK5]; simp
  have pX4 : put ro (K4 ++ [(⟨26, [.int .i64 0, .slice none 0 0]⟩ : Blk)]) K4.length 0 2 (.agg ⟨[.int .i64 n, x4]⟩) = some (K4 ++ [⟨26, [.int .i64 n, x4]⟩]) := put_last2 (by omega) rfl fX4.2.2
  have q15 := q13.trans (q4.trans q5)
  (repeat' first | simp -dsimp (disch := first | omega | assumption | (refine OkS.sto ?_ (by omega); first | assumption | (refine OkS.sto ?_ (by omega); first | assumption | (refine OkS.sto ?_ (by omega); first | assumption | (refine OkS.sto ?_ (by omega); first | assumption | (refine OkS.sto ?_ (by omega); first | assumption | (refine OkS.sto ?_ (by omega); first | assumption)))))) | exact Pfx.refl _ | (apply Pfx.snoc; repeat (first | exact Pfx.refl _ | assumption | apply Pfx.snoc)) | with_unfolding_all exact of_eq_true (eq_true rfl) | (simp only [List.length_append, List.length_cons, List.length_nil]; omega)) only [↓wpre0, ↓wpre1, ↓reduceIte, Int.reduceToNat, Nat.reduceAdd, Nat.reduceMul, Nat.reduceEqDiff, wpost0, wpost1, wpost2, wpost3, wpost4, ite_self, ite_true, ite_false, if_true, if_false, tze26, xst26, xld26, xfad26_0, xld2, xfad26_1, xld24, xlen24, un_not, len_bl Try.underlying9, bin_mul, bin_add, bin_neq, bin_rem, sl_bl Try.underlying9, slo_bl Try.underlying9, shi_bl Try.underlying9, bin_sub, bin_quo, sneq_bl, bin_eql, tze41, xst41, idx_bl Try.underlying9, xcv2_5, xbls22_0, xbls22_1, sadd_bl, bin_lss, xfad41_0, xiad24, xfad41_1, xld39, fr3, wrap_int, wrap_u8, iteP_yes, iteP_no, z1, z5, z6, z7, z8, z9, pX4] | refine iteP_two (fun hc hd => ?_) (fun hc hd => ?_) | refine iteP_intro (fun hc => ?_) (fun hc => ?_))
  rw [← hK5]
  refine cf_rel (Store_c hXU hXB (hR4.pre q5) (hd.le g4) (by omega)) (fun q => by cases q) ?_
  rintro _ KK ⟨rfl, e1⟩
  rw [e1]
  clear e1 KK
  have hown : l.take (5 + q * S) = recB n q ix zn := by rw [hlr, hS]; exact rec_take g4 hd.row
  have hqS : q * S ≤ c := by rw [hq]; exact Nat.div_mul_le_self c S
  have c5 : cell K5 K4.length 1 = some x4 := by rw [hK5]; exact cellb (get_last rfl)
  have ec5 : ((5 + c : Nat) : Int) - 5 = (c : Int) := by omega
  have esz : (6 : Int) + 8 * (n : Int) = (S : Int) := by omega
  have etd : (c : Int).tdiv (S : Int) = (q : Int) := by rw [hq]; rfl
  have eqS : (q : Int) * (S : Int) = ((q * S : Nat) : Int) := (Int.natCast_mul q S).symm
  have e5q : (5 : Int) + ((q * S : Nat) : Int) = ((5 + q * S : Nat) : Int) := by omega
  (repeat' first | simp -dsimp (disch := first | omega | assumption | (refine OkS.sto ?_ (by omega); first | assumption | (refine OkS.sto ?_ (by omega); first | assumption | (refine OkS.sto ?_ (by omega); first | assumption | (refine OkS.sto ?_ (by omega); first | assumption | (refine OkS.sto ?_ (by omega); first | assumption | (refine OkS.sto ?_ (by omega); first | assumption)))))) | exact Pfx.refl _ | (apply Pfx.snoc; repeat (first | exact Pfx.refl _ | assumption | apply Pfx.snoc)) | with_unfolding_all exact of_eq_true (eq_true rfl) | (simp only [List.length_append, List.length_cons, List.length_nil]; omega)) only [↓thenQ_normal, ↓thenQ_exit, ↓thenQ_ret, ↓blockQ_normal, ↓blockQ_exit, ↓blockQ_ret, ↓o_plain, ↓o_nil, ↓o_guard, ↓gvl_zero, ↓gvl_succ, ↓p_move, ↓p_assign, ↓p_pick, ↓p_binOp, ↓p_unOp, ↓wpre1, ↓reduceIte, Int.reduceToNat, Nat.reduceAdd, Nat.reduceMul, Nat.reduceEqDiff, wpost0, wpost1, wpost2, wpost3, wpost4, ite_self, ite_true, ite_false, if_true, if_false, tze26, xst26, xld26, xfad26_0, xld2, xfad26_1, xld24, xlen24, un_not, len_bl Try.underlying9, bin_mul, bin_add, bin_neq, bin_rem, sl_bl Try.underlying9, slo_bl Try.underlying9, shi_bl Try.underlying9, bin_sub, bin_quo, sneq_bl, bin_eql, tze41, xst41, idx_bl Try.underlying9, xcv2_5, xbls22_0, xbls22_1, sadd_bl, bin_lss, xfad41_0, xiad24, xfad41_1, xld39, fr3, wrap_int, wrap_u8, iteP_yes, iteP_no, z1, z5, z6, z7, z8, z9] | refine iteP_two (fun hc hd => ?_) (fun hc hd => ?_) | refine iteP_intro (fun hc => ?_) (fun hc => ?_))
  refine env_cut (fun e h2 => h2 = K5 ∧ e 1 = y ∧ e 5 = .pointer (some ⟨H1.length, 0, none⟩) ∧ e 6 = .string ⟨⟨l⟩⟩ ∧ e 10 = .int .i64 S ∧ e 12 = .int .i64 m ∧ e 13 = .int .i64 ((5 + c : Nat) : Int) ∧ e 14 = .pointer (some ⟨K4.length, 0, none⟩) ∧ e 15 = .int .i64 ((5 + q * S : Nat) : Int) ∧ e 16 = .bool true ∧ e 17 = .string ⟨⟨recB n q ix zn⟩⟩ ∧ e 18 = .bool true) ?_ ?_
  · simp only [updO_at, updO_not, entry_at, List.getD_cons_zero, List.getD_cons_succ, ↓reduceIte, Nat.reduceEqDiff, true_and, and_true]
    (repeat' (first | assumption | rfl | omega | exact z1 | exact z5 | exact z6 | (rw [esz]) | refine And.intro ?_ ?_))
  clear z1 z5 z6 z7 z8 z9
  rintro e K5 ⟨rfl, z1, z5, z6, z10, z12, z13, z14, z15, z16, z17, z18⟩
  have q15' : Pfx K1 K5 := q15
  have lK15 := q15'.len
  clear hR4 hFS4 hc4 g1 g2 g3 g5 g6 g7 hR2 hFS v3 s3 hI3 hG3 hlI hc2
  by_cases m0 : m = 0
  · have m0' : (m : Int) = 0 := by omega
    (repeat' first | simp -dsimp (disch := first | omega | assumption | (refine OkS.sto ?_ (by omega); first | assumption | (refine OkS.sto ?_ (by omega); first | assumption | (refine OkS.sto ?_ (by omega); first | assumption | (refine OkS.sto ?_ (by omega); first | assumption | (refine OkS.sto ?_ (by omega); first | assumption | (refine OkS.sto ?_ (by omega); first | assumption)))))) | exact Pfx.refl _ | (apply Pfx.snoc; repeat (first | exact Pfx.refl _ | assumption | apply Pfx.snoc)) | with_unfolding_all exact of_eq_true (eq_true rfl) | (simp only [List.length_append, List.length_cons, List.length_nil]; omega)) only [↓wpre0, ↓wpre1, ↓reduceIte, Int.reduceToNat, Nat.reduceAdd, Nat.reduceMul, Nat.reduceEqDiff, wpost0, wpost1, wpost2, wpost3, wpost4, ite_self, ite_true, ite_false, if_true, if_false, tze26, xst26, xld26, xfad26_0, xld2, xfad26_1, xld24, xlen24, un_not, len_bl Try.underlying9, bin_mul, bin_add, bin_neq, bin_rem, sl_bl Try.underlying9, slo_bl Try.underlying9, shi_bl Try.underlying9, bin_sub, bin_quo, sneq_bl, bin_eql, tze41, xst41, idx_bl Try.underlying9, xcv2_5, xbls22_0, xbls22_1, sadd_bl, bin_lss, xfad41_0, xiad24, xfad41_1, xld39, fr3, wrap_int, wrap_u8, iteP_yes, iteP_no, z1, z5, z6, z10, z12, z13, z14, z15, z16, z17, z18, c5, lI4, ec5, etd, eqS, e5q, bin_quo, Int.toNat_natCast, hown, beq_self_eq_true, m0'] | refine iteP_two (fun hc hd => ?_) (fun hc hd => ?_) | refine iteP_intro (fun hc => ?_) (fun hc => ?_))
    refine cf_rel (iFrameAt_c hXB (l := l) (k := 0) (by omega) (by omega)) (fun q => by cases q) ?_
    rintro _ K6 ⟨q6, ⟨_, rfl⟩ | ⟨hf, _⟩⟩
    · have lK6 := q6.len
      have pF : put ro (K6 ++ [(⟨41, [.int .i64 0, .slice none 0 0]⟩ : Blk)]) K6.length 0 2 (.agg ⟨[.int .i64 0, .slice none 0 0]⟩) = some (K6 ++ [⟨41, [.int .i64 0, .slice none 0 0]⟩]) := put_last2 (by omega) rfl rfl
      (repeat' first | simp -dsimp (disch := first | omega | assumption | (refine OkS.sto ?_ (by omega); first | assumption | (refine OkS.sto ?_ (by omega); first | assumption | (refine OkS.sto ?_ (by omega); first | assumption | (refine OkS.sto ?_ (by omega); first | assumption | (refine OkS.sto ?_ (by omega); first | assumption | (refine OkS.sto ?_ (by omega); first | assumption)))))) | exact Pfx.refl _ | (apply Pfx.snoc; repeat (first | exact Pfx.refl _ | assumption | apply Pfx.snoc)) | with_unfolding_all exact of_eq_true (eq_true rfl) | (simp only [List.length_append, List.length_cons, List.length_nil]; omega)) only [↓wpre0, ↓wpre1, ↓reduceIte, Int.reduceToNat, Nat.reduceAdd, Nat.reduceMul, Nat.reduceEqDiff, wpost0, wpost1, wpost2, wpost3, wpost4, ite_self, ite_true, ite_false, if_true, if_false, tze26, xst26, xld26, xfad26_0, xld2, xfad26_1, xld24, xlen24, un_not, len_bl Try.underlying9, bin_mul, bin_add, bin_neq, bin_rem, sl_bl Try.underlying9, slo_bl Try.underlying9, shi_bl Try.underlying9, bin_sub, bin_quo, sneq_bl, bin_eql, tze41, xst41, idx_bl Try.underlying9, xcv2_5, xbls22_0, xbls22_1, sadd_bl, bin_lss, xfad41_0, xiad24, xfad41_1, xld39, fr3, wrap_int, wrap_u8, iteP_yes, iteP_no, pF] | refine iteP_two (fun hc hd => ?_) (fun hc hd => ?_) | refine iteP_intro (fun hc => ?_) (fun hc => ?_))
    · exfalso
      unfold frOk at hf
      rw [Bool.and_eq_true] at hf
      have := atOk_len hf.2
      unfold frPos at this
      rw [f2] at this
      simp at this
      have hT0 : T = 0 := by rw [hT, m0, Nat.zero_mul]
      omega
  have m0' : ¬ (m : Int) = 0 := by omega
  (repeat' first | simp -dsimp (disch := first | omega | assumption | (refine OkS.sto ?_ (by omega); first | assumption | (refine OkS.sto ?_ (by omega); first | assumption | (refine OkS.sto ?_ (by omega); first | assumption | (refine OkS.sto ?_ (by omega); first | assumption | (refine OkS.sto ?_ (by omega); first | assumption | (refine OkS.sto ?_ (by omega); first | assumption)))))) | exact Pfx.refl _ | (apply Pfx.snoc; repeat (first | exact Pfx.refl _ | assumption | apply Pfx.snoc)) | with_unfolding_all exact of_eq_true (eq_true rfl) | (simp only [List.length_append, List.length_cons, List.length_nil]; omega)) only [↓wpre0, ↓wpre1, ↓reduceIte, Int.reduceToNat, Nat.reduceAdd, Nat.reduceMul, Nat.reduceEqDiff, wpost0, wpost1, wpost2, wpost3, wpost4, ite_self, ite_true, ite_false, if_true, if_false, tze26, xst26, xld26, xfad26_0, xld2, xfad26_1, xld24, xlen24, un_not, len_bl Try.underlying9, bin_mul, bin_add, bin_neq, bin_rem, sl_bl Try.underlying9, slo_bl Try.underlying9, shi_bl Try.underlying9, bin_sub, bin_quo, sneq_bl, bin_eql, tze41, xst41, idx_bl Try.underlying9, xcv2_5, xbls22_0, xbls22_1, sadd_bl, bin_lss, xfad41_0, xiad24, xfad41_1, xld39, fr3, wrap_int, wrap_u8, iteP_yes, iteP_no, z1, z5, z6, z10, z12, z13, z14, z15, z16, z17, z18, c5, lI4, ec5, etd, eqS, e5q, bin_quo, Int.toNat_natCast, hown, beq_self_eq_true, m0'] | refine iteP_two (fun hc hd => ?_) (fun hc hd => ?_) | refine iteP_intro (fun hc => ?_) (fun hc => ?_))
  obtain ⟨a2, ha2, hat2⟩ := r8AtK_all (ro := ro) (X := extK ro) (x := y) (cd := md) (hX _ rfl) (i := 2) (n := 256) (by omega) (by omega) (by omega) (by omega) (by omega)
  obtain ⟨a3, ha3, hat3⟩ := r8AtK_all (ro := ro) (X := extK ro) (x := y) (cd := md) (hX _ rfl) (i := 3) (n := 256) (by omega) (by omega) (by omega) (by omega) (by omega)
  obtain ⟨a4, ha4, hat4⟩ := r8AtK_all (ro := ro) (X := extK ro) (x := y) (cd := md) (hX _ rfl) (i := 4) (n := 255) (by omega) (by omega) (by omega) (by omega) (by omega)
  have hT1 : 14 ≤ T := by
    rw [hT]
    have := Nat.mul_le_mul (show 1 ≤ m by omega) (show 14 ≤ 6 + 8 * n by omega)
    omega
  obtain ⟨p, hp⟩ : ∃ p, p = (256 * a2 + a3) % T := ⟨_, rfl⟩
  have hpT : p < T := by rw [hp]; exact Nat.mod_lt _ (by omega)
  have hmS : (m : Int) * (S : Int) = (T : Int) := by rw [hT, hS, Int.natCast_mul]
  have hpp : (256 * (a2 : Int) + (a3 : Int)).tmod (T : Int) = (p : Int) := by
    rw [Int.tmod_eq_emod_of_nonneg (by omega), hp]
    rfl
  have e5p : (5 : Int) + (p : Int) = ((5 + p : Nat) : Int) := by omega
  have e5p1 : ((5 + p : Nat) : Int) + 1 = ((5 + p + 1 : Nat) : Int) := by omega
  obtain ⟨a, ha⟩ : ∃ a, a = (l.getD (5 + p) 0).toNat := ⟨_, rfl⟩
  have ha256 : a < 256 := by rw [ha]; exact UInt8.toNat_lt _
  have hba : bth l (5 + p) = (a : Int) := by rw [ha]; rfl
  obtain ⟨w, hw1, hw2, hxor⟩ := xor_b (P := Try.prog) (t := 5) ha256 (c := 1 + a4) (by omega) (by omega)
  have w8 : IntKind.u8.wrap (1 + (a4 : Int)) = ((1 + a4 : Nat) : Int) := by rw [wrap8]; omega
  obtain ⟨b8, hb8⟩ : ∃ b, b = UInt8.ofNat w := ⟨_, rfl⟩
  have hbn : b8.toNat = w := by rw [hb8, UInt8.toNat_ofNat']; omega
  have hu8 : u8v b8 = .int .u8 (w : Int) := by unfold u8v; rw [hbn]
  have vb := vs_byte K5 b8
  rw [hu8] at vb
  obtain ⟨l2, hl2⟩ : ∃ l2, l2 = l.set (5 + p) b8 := ⟨_, rfl⟩
  have hset : (l.take (5 + p) ++ [b8]) ++ l.drop (5 + p + 1) = l2 := by
    rw [hl2, List.set_eq_take_append_cons_drop, if_pos (by omega), List.append_assoc]; rfl
  have hl2l : l2.length = l.length := by rw [hl2, List.length_set]
  obtain ⟨j1, j2, j3, j4, j5⟩ := bent_ok (p := p) (b := b8) hd (by rw [← hT]; exact hpT) (by rw [hbn, ← hlr, ← ha]; exact hw2)
  rw [← hlr, ← hl2] at j1 j2 j4 j5
  rw [← hS] at j3 j4 j5
  have lt5 : (l.take (5 + p)).length = 5 + p := by rw [List.length_take]; omega
  have ld5 : (l.drop (5 + p + 1)).length = T - p - 1 := by rw [List.length_drop]; omega
  (repeat' first | simp -dsimp (disch := first | omega | assumption | (refine OkS.sto ?_ (by omega); first | assumption | (refine OkS.sto ?_ (by omega); first | assumption | (refine OkS.sto ?_ (by omega); first | assumption | (refine OkS.sto ?_ (by omega); first | assumption | (refine OkS.sto ?_ (by omega); first | assumption | (refine OkS.sto ?_ (by omega); first | assumption)))))) | exact Pfx.refl _ | (apply Pfx.snoc; repeat (first | exact Pfx.refl _ | assumption | apply Pfx.snoc)) | with_unfolding_all exact of_eq_true (eq_true rfl) | (simp only [List.length_append, List.length_cons, List.length_nil]; omega)) only [↓wpre0, ↓wpre1, ↓reduceIte, Int.reduceToNat, Nat.reduceAdd, Nat.reduceMul, Nat.reduceEqDiff, wpost0, wpost1, wpost2, wpost3, wpost4, ite_self, ite_true, ite_false, if_true, if_false, tze26, xst26, xld26, xfad26_0, xld2, xfad26_1, xld24, xlen24, un_not, len_bl Try.underlying9, bin_mul, bin_add, bin_neq, bin_rem, sl_bl Try.underlying9, slo_bl Try.underlying9, shi_bl Try.underlying9, bin_sub, bin_quo, sneq_bl, bin_eql, tze41, xst41, idx_bl Try.underlying9, xcv2_5, xbls22_0, xbls22_1, sadd_bl, bin_lss, xfad41_0, xiad24, xfad41_1, xld39, fr3, wrap_int, wrap_u8, iteP_yes, iteP_no, z1, z5, z6, z10, z12, hat2 (mU q15'), hat3 (mU q15'), hat4 (mU q15'), hmS, bin_rem, hpp, e5p, e5p1, Int.toNat_natCast, hba, w8, hxor, conv_bytes Try.underlying22 Try.underlying9 tbt5 vb] | refine iteP_two (fun hc hd => ?_) (fun hc hd => ?_) | refine iteP_intro (fun hc => ?_) (fun hc => ?_))
  have ep5 : ((5 + p : Nat) : Int) - 5 = (p : Int) := by omega
  obtain ⟨kb, hkb⟩ : ∃ k, k = p / S := ⟨_, rfl⟩
  rw [← hkb] at j3 j4 j5
  have etp : (p : Int).tdiv (S : Int) = (kb : Int) := by rw [hkb]; rfl
  have erp : (p : Int).tmod (S : Int) = ((p % S : Nat) : Int) := rfl
  have hfp : ∀ k : Nat, frPos l2 k = 5 + k * S := fun k => by unfold frPos; rw [j2, hS]; rfl
  refine loop_exit 0 (fun e h' => Pfx K5 h' ∧ e 6 = .string ⟨⟨l⟩⟩ ∧ e 10 = .int .i64 S ∧ e 21 = .int .i64 ((5 + p : Nat) : Int) ∧ e 22 = .string ⟨⟨l2⟩⟩) ?_ ?_
  · refine loop_rounds (fun mm e h' => ∃ k : Nat, mm = m - k ∧ k ≤ m ∧ Pfx K5 h' ∧ e 5 = .pointer (some ⟨H1.length, 0, none⟩) ∧ e 6 = .string ⟨⟨l⟩⟩ ∧ e 10 = .int .i64 S ∧ e 12 = .int .i64 m ∧ e 21 = .int .i64 ((5 + p : Nat) : Int) ∧ e 22 = .string ⟨⟨l2⟩⟩ ∧ e 23 = .int .i64 k) _ ⟨0, rfl, ?_⟩ ?_
    · simp only [updO_at, updO_not, entry_at, List.getD_cons_zero, List.getD_cons_succ, ↓reduceIte, Nat.reduceEqDiff, true_and, and_true]
      exact ⟨Nat.zero_le _, (Pfx.refl _).snoc, z5, z6, z10, z12, by rw [hset], rfl⟩
    · clear z1 z5 z6 z10 z12 z13 z14 z15 z16 z17 z18
      rintro mm e h' ⟨k, hmm, hle, hpf, z5, z6, z10, z12, z21, z22, z23⟩
      have hlp := hpf.len
      have hks : (k : Int) + 1 = ((k + 1 : Nat) : Int) := by omega
      by_cases hkm : k < m
      · (repeat' first | simp -dsimp (disch := first | omega | assumption | (refine OkS.sto ?_ (by omega); first | assumption | (refine OkS.sto ?_ (by omega); first | assumption | (refine OkS.sto ?_ (by omega); first | assumption | (refine OkS.sto ?_ (by omega); first | assumption | (refine OkS.sto ?_ (by omega); first | assumption | (refine OkS.sto ?_ (by omega); first | assumption)))))) | exact Pfx.refl _ | (apply Pfx.snoc; repeat (first | exact Pfx.refl _ | assumption | apply Pfx.snoc)) | with_unfolding_all exact of_eq_true (eq_true rfl) | (simp only [List.length_append, List.length_cons, List.length_nil]; omega)) only [↓wpre0, ↓wpre1, ↓reduceIte, Int.reduceToNat, Nat.reduceAdd, Nat.reduceMul, Nat.reduceEqDiff, wpost0, wpost1, wpost2, wpost3, wpost4, ite_self, ite_true, ite_false, if_true, if_false, tze26, xst26, xld26, xfad26_0, xld2, xfad26_1, xld24, xlen24, un_not, len_bl Try.underlying9, bin_mul, bin_add, bin_neq, bin_rem, sl_bl Try.underlying9, slo_bl Try.underlying9, shi_bl Try.underlying9, bin_sub, bin_quo, sneq_bl, bin_eql, tze41, xst41, idx_bl Try.underlying9, xcv2_5, xbls22_0, xbls22_1, sadd_bl, bin_lss, xfad41_0, xiad24, xfad41_1, xld39, fr3, wrap_int, wrap_u8, iteP_yes, iteP_no, z5, z6, z10, z12, z21, z22, z23] | refine iteP_two (fun hc hd => ?_) (fun hc hd => ?_) | refine iteP_intro (fun hc => ?_) (fun hc => ?_))
        have hkl : k ≤ l2.length := by
          rw [hl2l, f3, hT]
          have := Nat.mul_le_mul_left k (show 1 ≤ 6 + 8 * n by omega)
          have := Nat.mul_le_mul_right (6 + 8 * n) (show k ≤ m by omega)
          omega
        refine cf_rel (iFrameAt_c hXB (l := l2) (k := (k : Int)) (by omega) (by omega)) (fun q => by cases q) ?_
        by_cases hkk : k = kb
        · subst hkk
          rintro _ K6 ⟨q6, ⟨_, rfl⟩ | ⟨hf, _⟩⟩
          · have lK6 := q6.len
            have pF : put ro (K6 ++ [(⟨41, [.int .i64 0, .slice none 0 0]⟩ : Blk)]) K6.length 0 2 (.agg ⟨[.int .i64 0, .slice none 0 0]⟩) = some (K6 ++ [⟨41, [.int .i64 0, .slice none 0 0]⟩]) := put_last2 (by omega) rfl rfl
            have pN := (hpf.trans q6).snoc (C := ⟨41, [.int .i64 0, .slice none 0 0]⟩)
            (repeat' first | simp -dsimp (disch := first | omega | assumption | (refine OkS.sto ?_ (by omega); first | assumption | (refine OkS.sto ?_ (by omega); first | assumption | (refine OkS.sto ?_ (by omega); first | assumption | (refine OkS.sto ?_ (by omega); first | assumption | (refine OkS.sto ?_ (by omega); first | assumption | (refine OkS.sto ?_ (by omega); first | assumption)))))) | exact Pfx.refl _ | (apply Pfx.snoc; repeat (first | exact Pfx.refl _ | assumption | apply Pfx.snoc)) | with_unfolding_all exact of_eq_true (eq_true rfl) | (simp only [List.length_append, List.length_cons, List.length_nil]; omega)) only [↓wpre0, ↓wpre1, ↓reduceIte, Int.reduceToNat, Nat.reduceAdd, Nat.reduceMul, Nat.reduceEqDiff, wpost0, wpost1, wpost2, wpost3, wpost4, ite_self, ite_true, ite_false, if_true, if_false, tze26, xst26, xld26, xfad26_0, xld2, xfad26_1, xld24, xlen24, un_not, len_bl Try.underlying9, bin_mul, bin_add, bin_neq, bin_rem, sl_bl Try.underlying9, slo_bl Try.underlying9, shi_bl Try.underlying9, bin_sub, bin_quo, sneq_bl, bin_eql, tze41, xst41, idx_bl Try.underlying9, xcv2_5, xbls22_0, xbls22_1, sadd_bl, bin_lss, xfad41_0, xiad24, xfad41_1, xld39, fr3, wrap_int, wrap_u8, iteP_yes, iteP_no, z5, z6, z10, z12, z21, z22, z23, pF, ep5, etp, bin_quo] | refine iteP_two (fun hc hd => ?_) (fun hc hd => ?_) | refine iteP_intro (fun hc => ?_) (fun hc => ?_))
            exact ⟨m - (k + 1), by omega, k + 1, rfl, by omega, pN, by rw [hks]⟩
          · exfalso
            unfold frOk at hf
            rw [Bool.and_eq_true, hfp, j2, j5] at hf
            cases hf.2
        · obtain ⟨r1, r2, r3⟩ := fr_read (l := l2) (a := 5 + k * S) (n := n) (hd.row k hkm) (by rw [← hS]; exact j4 k hkm hkk) (hd.ok k hkm) (hd.lo k hkm) (hd.hi k hkm)
          rintro _ K6 ⟨q6, ⟨hf, _⟩ | ⟨_, yf, rfl, hVf⟩⟩
          · exfalso
            unfold frOk at hf
            rw [j1, hfp, j2, r1] at hf
            simp at hf
            omega
          · rw [hfp, j2, r3] at hVf
            rw [hfp, r2]
            have lK6 := q6.len
            have sf := hVf.vs.shape
            have pF : put ro (K6 ++ [(⟨41, [.int .i64 0, .slice none 0 0]⟩ : Blk)]) K6.length 0 2 (.agg ⟨[.int .i64 (ix k), yf]⟩) = some (K6 ++ [⟨41, [.int .i64 (ix k), yf]⟩]) := put_last2 (by omega) rfl sf.2.2
            have pN := (hpf.trans q6).snoc (C := ⟨41, [.int .i64 (ix k), yf]⟩)
            have pNN := q15'.trans pN
            obtain ⟨lo6, hi6, L6, hh6, hI6, hG6⟩ := mR pNN
            have lt1 : H1.length < K6.length := by omega
            have c61 : cell K6 H1.length 1 = some yr := cR1 (q15'.trans (hpf.trans q6))
            have u1 := hI6.ld1 (P := Try.prog) tsz2 tag2 (c := k * 2) (by omega)
            rw [hG6.idx k hkm] at u1
            have u2 := hI6.ld1 (P := Try.prog) tsz39 tag39 (c := k * 2 + 1) (by omega)
            have hrow := hG6.row k hkm
            obtain ⟨v, hv⟩ : ∃ v, v = vth L6 (k * 2 + 1) := ⟨_, rfl⟩
            rw [← hv] at u2 hrow
            have hVf' := hVf.vsl.pre ((Pfx.refl K6).snoc (C := ⟨41, [.int .i64 (ix k), yf]⟩))
            have hsame := r8Same_r (ro := ro) hX hB hVf' hrow (by omega)
            have hkb' : ¬ (k : Int) = (kb : Int) := by omega
            (repeat' first | simp -dsimp (disch := first | omega | assumption | (refine OkS.sto ?_ (by omega); first | assumption | (refine OkS.sto ?_ (by omega); first | assumption | (refine OkS.sto ?_ (by omega); first | assumption | (refine OkS.sto ?_ (by omega); first | assumption | (refine OkS.sto ?_ (by omega); first | assumption | (refine OkS.sto ?_ (by omega); first | assumption)))))) | exact Pfx.refl _ | (apply Pfx.snoc; repeat (first | exact Pfx.refl _ | assumption | apply Pfx.snoc)) | with_unfolding_all exact of_eq_true (eq_true rfl) | (simp only [List.length_append, List.length_cons, List.length_nil]; omega)) only [↓wpre0, ↓wpre1, ↓reduceIte, Int.reduceToNat, Nat.reduceAdd, Nat.reduceMul, Nat.reduceEqDiff, wpost0, wpost1, wpost2, wpost3, wpost4, ite_self, ite_true, ite_false, if_true, if_false, tze26, xst26, xld26, xfad26_0, xld2, xfad26_1, xld24, xlen24, un_not, len_bl Try.underlying9, bin_mul, bin_add, bin_neq, bin_rem, sl_bl Try.underlying9, slo_bl Try.underlying9, shi_bl Try.underlying9, bin_sub, bin_quo, sneq_bl, bin_eql, tze41, xst41, idx_bl Try.underlying9, xcv2_5, xbls22_0, xbls22_1, sadd_bl, bin_lss, xfad41_0, xiad24, xfad41_1, xld39, fr3, wrap_int, wrap_u8, iteP_yes, iteP_no, z5, z6, z10, z12, z21, z22, z23, pF, ep5, etp, bin_quo, hkb', c61, VS.iad hI6 Try.underlying24 tsz41, VS.fad hI6 tfi41_0 (by decide), VS.fad hI6 tfi41_1 (by decide), Nat.add_zero, Int.toNat_natCast, u1, u2, hsame] | refine iteP_two (fun hc hd => ?_) (fun hc hd => ?_) | refine iteP_intro (fun hc => ?_) (fun hc => ?_))
            exact ⟨m - (k + 1), by omega, k + 1, rfl, by omega, pN, by rw [hks]⟩
      · have ek : k = m := by omega
        subst ek
        (repeat' first | simp -dsimp (disch := first | omega | assumption | (refine OkS.sto ?_ (by omega); first | assumption | (refine OkS.sto ?_ (by omega); first | assumption | (refine OkS.sto ?_ (by omega); first | assumption | (refine OkS.sto ?_ (by omega); first | assumption | (refine OkS.sto ?_ (by omega); first | assumption | (refine OkS.sto ?_ (by omega); first | assumption)))))) | exact Pfx.refl _ | (apply Pfx.snoc; repeat (first | exact Pfx.refl _ | assumption | apply Pfx.snoc)) | with_unfolding_all exact of_eq_true (eq_true rfl) | (simp only [List.length_append, List.length_cons, List.length_nil]; omega)) only [↓wpre0, ↓wpre1, ↓reduceIte, Int.reduceToNat, Nat.reduceAdd, Nat.reduceMul, Nat.reduceEqDiff, wpost0, wpost1, wpost2, wpost3, wpost4, ite_self, ite_true, ite_false, if_true, if_false, tze26, xst26, xld26, xfad26_0, xld2, xfad26_1, xld24, xlen24, un_not, len_bl Try.underlying9, bin_mul, bin_add, bin_neq, bin_rem, sl_bl Try.underlying9, slo_bl Try.underlying9, shi_bl Try.underlying9, bin_sub, bin_quo, sneq_bl, bin_eql, tze41, xst41, idx_bl Try.underlying9, xcv2_5, xbls22_0, xbls22_1, sadd_bl, bin_lss, xfad41_0, xiad24, xfad41_1, xld39, fr3, wrap_int, wrap_u8, iteP_yes, iteP_no, z5, z6, z10, z12, z21, z22, z23] | refine iteP_two (fun hc hd => ?_) (fun hc hd => ?_) | refine iteP_intro (fun hc => ?_) (fun hc => ?_))
        exact hpf
  · clear z1 z5 z6 z10 z12 z13 z14 z15 z16 z17 z18
    rintro e h' ⟨hpf, z6, z10, z21, z22⟩
    have hlp := hpf.len
    have fd1 := iFirst_c (ro := ro) hX ⟨⟨l⟩⟩ ⟨⟨l2⟩⟩ (by show l.length ≤ _; omega) (by show l2.length ≤ _; omega) h'
    simp only [blockQ_exit, thenQ_normal, ↓reduceIte]
    (repeat' first | simp -dsimp (disch := first | omega | assumption | (refine OkS.sto ?_ (by omega); first | assumption | (refine OkS.sto ?_ (by omega); first | assumption | (refine OkS.sto ?_ (by omega); first | assumption | (refine OkS.sto ?_ (by omega); first | assumption | (refine OkS.sto ?_ (by omega); first | assumption | (refine OkS.sto ?_ (by omega); first | assumption)))))) | exact Pfx.refl _ | (apply Pfx.snoc; repeat (first | exact Pfx.refl _ | assumption | apply Pfx.snoc)) | with_unfolding_all exact of_eq_true (eq_true rfl) | (simp only [List.length_append, List.length_cons, List.length_nil]; omega)) only [↓wpre0, ↓wpre1, ↓reduceIte, Int.reduceToNat, Nat.reduceAdd, Nat.reduceMul, Nat.reduceEqDiff, wpost0, wpost1, wpost2, wpost3, wpost4, ite_self, ite_true, ite_false, if_true, if_false, tze26, xst26, xld26, xfad26_0, xld2, xfad26_1, xld24, xlen24, un_not, len_bl Try.underlying9, bin_mul, bin_add, bin_neq, bin_rem, sl_bl Try.underlying9, slo_bl Try.underlying9, shi_bl Try.underlying9, bin_sub, bin_quo, sneq_bl, bin_eql, tze41, xst41, idx_bl Try.underlying9, xcv2_5, xbls22_0, xbls22_1, sadd_bl, bin_lss, xfad41_0, xiad24, xfad41_1, xld39, fr3, wrap_int, wrap_u8, iteP_yes, iteP_no, z6, z10, z21, z22] | refine iteP_two (fun hc hd => ?_) (fun hc hd => ?_) | refine iteP_intro (fun hc => ?_) (fun hc => ?_))
    refine cf_rel fd1 (fun q => by cases q) ?_
    rintro r7 h7 ⟨e7, hr7⟩
    rw [e7]
    clear e7 h7
    rw [hl2] at hr7
    obtain rfl := fd_bent f1 (by rw [← hl2]; exact j1) f2 (by rw [← hl2]; exact j2) (by omega) (by rw [hbn, ← ha]; exact hw2) hr7
    rw [esz, etp, erp]
    have fd2 := iFirst_c (ro := ro) hX ⟨⟨l⟩⟩ ⟨⟨l⟩⟩ (by show l.length ≤ _; omega) (by show l.length ≤ _; omega) h'
    (repeat' first | simp -dsimp (disch := first | omega | assumption | (refine OkS.sto ?_ (by omega); first | assumption | (refine OkS.sto ?_ (by omega); first | assumption | (refine OkS.sto ?_ (by omega); first | assumption | (refine OkS.sto ?_ (by omega); first | assumption | (refine OkS.sto ?_ (by omega); first | assumption | (refine OkS.sto ?_ (by omega); first | assumption)))))) | exact Pfx.refl _ | (apply Pfx.snoc; repeat (first | exact Pfx.refl _ | assumption | apply Pfx.snoc)) | with_unfolding_all exact of_eq_true (eq_true rfl) | (simp only [List.length_append, List.length_cons, List.length_nil]; omega)) only [↓wpre0, ↓wpre1, ↓reduceIte, Int.reduceToNat, Nat.reduceAdd, Nat.reduceMul, Nat.reduceEqDiff, wpost0, wpost1, wpost2, wpost3, wpost4, ite_self, ite_true, ite_false, if_true, if_false, tze26, xst26, xld26, xfad26_0, xld2, xfad26_1, xld24, xlen24, un_not, len_bl Try.underlying9, bin_mul, bin_add, bin_neq, bin_rem, sl_bl Try.underlying9, slo_bl Try.underlying9, shi_bl Try.underlying9, bin_sub, bin_quo, sneq_bl, bin_eql, tze41, xst41, idx_bl Try.underlying9, xcv2_5, xbls22_0, xbls22_1, sadd_bl, bin_lss, xfad41_0, xiad24, xfad41_1, xld39, fr3, wrap_int, wrap_u8, iteP_yes, iteP_no, z6, z10, z21, z22] | refine iteP_two (fun hc hd => ?_) (fun hc hd => ?_) | refine iteP_intro (fun hc => ?_) (fun hc => ?_))
    refine cf_rel fd2 (fun q => by cases q) ?_
    rintro r8 h8 ⟨e8, hr8⟩
    rw [e8]
    clear e8 h8
    obtain rfl := fd_same hr8
    (repeat' first | simp -dsimp (disch := first | omega | assumption | (refine OkS.sto ?_ (by omega); first | assumption | (refine OkS.sto ?_ (by omega); first | assumption | (refine OkS.sto ?_ (by omega); first | assumption | (refine OkS.sto ?_ (by omega); first | assumption | (refine OkS.sto ?_ (by omega); first | assumption | (refine OkS.sto ?_ (by omega); first | assumption)))))) | exact Pfx.refl _ | (apply Pfx.snoc; repeat (first | exact Pfx.refl _ | assumption | apply Pfx.snoc)) | with_unfolding_all exact of_eq_true (eq_true rfl) | (simp only [List.length_append, List.length_cons, List.length_nil]; omega)) only [↓wpre0, ↓wpre1, ↓reduceIte, Int.reduceToNat, Nat.reduceAdd, Nat.reduceMul, Nat.reduceEqDiff, wpost0, wpost1, wpost2, wpost3, wpost4, ite_self, ite_true, ite_false, if_true, if_false, tze26, xst26, xld26, xfad26_0, xld2, xfad26_1, xld24, xlen24, un_not, len_bl Try.underlying9, bin_mul, bin_add, bin_neq, bin_rem, sl_bl Try.underlying9, slo_bl Try.underlying9, shi_bl Try.underlying9, bin_sub, bin_quo, sneq_bl, bin_eql, tze41, xst41, idx_bl Try.underlying9, xcv2_5, xbls22_0, xbls22_1, sadd_bl, bin_lss, xfad41_0, xiad24, xfad41_1, xld39, fr3, wrap_int, wrap_u8, iteP_yes, iteP_no, z6, z10, z21, z22] | refine iteP_two (fun hc hd => ?_) (fun hc hd => ?_) | refine iteP_intro (fun hc => ?_) (fun hc => ?_))
    refine cf_rel (iRecover_c hXB (l := l2) (by omega) (by omega)) (fun q => by cases q) ?_
    rintro _ K9 ⟨q9, ⟨hbad, _⟩ | ⟨_, m9, x9, L9, hc9, rfl, hFS9⟩⟩
    · rw [j1] at hbad; cases hbad
    obtain ⟨w1, w2, w3⟩ := cnt_of (l := l2) (q := kb) (hd.le (by omega)) j1 j2 (fun j hj => by rw [← hS]; exact j4 j (by omega) (by omega)) (.inr (by rw [← hS]; exact j5))
    obtain rfl := w1.uniq hc9
    have lK9 := q9.len
    have f9 : flat x9 = false ∧ cellsOf x9 = [x9] ∧ one x9 = true := hFS9.v.1.shape
    have lI9 := hFS9.v.1.len (P := Try.prog) (ro := ro) Try.underlying24
    have pX9 : put ro (K9 ++ [(⟨26, [.int .i64 0, .slice none 0 0]⟩ : Blk)]) K9.length 0 2 (.agg ⟨[.int .i64 (elN l2), x9]⟩) = some (K9 ++ [⟨26, [.int .i64 (elN l2), x9]⟩]) := put_last2 (by omega) rfl f9.2.2
    have c9 : cell (K9 ++ [(⟨26, [.int .i64 (elN l2), x9]⟩ : Blk)]) K9.length 1 = some x9 := cellb (get_last rfl)
    (repeat' first | simp -dsimp (disch := first | omega | assumption | (refine OkS.sto ?_ (by omega); first | assumption | (refine OkS.sto ?_ (by omega); first | assumption | (refine OkS.sto ?_ (by omega); first | assumption | (refine OkS.sto ?_ (by omega); first | assumption | (refine OkS.sto ?_ (by omega); first | assumption | (refine OkS.sto ?_ (by omega); first | assumption)))))) | exact Pfx.refl _ | (apply Pfx.snoc; repeat (first | exact Pfx.refl _ | assumption | apply Pfx.snoc)) | with_unfolding_all exact of_eq_true (eq_true rfl) | (simp only [List.length_append, List.length_cons, List.length_nil]; omega)) only [↓wpre0, ↓wpre1, ↓reduceIte, Int.reduceToNat, Nat.reduceAdd, Nat.reduceMul, Nat.reduceEqDiff, wpost0, wpost1, wpost2, wpost3, wpost4, ite_self, ite_true, ite_false, if_true, if_false, tze26, xst26, xld26, xfad26_0, xld2, xfad26_1, xld24, xlen24, un_not, len_bl Try.underlying9, bin_mul, bin_add, bin_neq, bin_rem, sl_bl Try.underlying9, slo_bl Try.underlying9, shi_bl Try.underlying9, bin_sub, bin_quo, sneq_bl, bin_eql, tze41, xst41, idx_bl Try.underlying9, xcv2_5, xbls22_0, xbls22_1, sadd_bl, bin_lss, xfad41_0, xiad24, xfad41_1, xld39, fr3, wrap_int, wrap_u8, iteP_yes, iteP_no, z6, z10, z21, z22, pX9, c9, lI9, ep5, etp, erp, bin_quo, bin_rem] | refine iteP_two (fun hc hd => ?_) (fun hc hd => ?_) | refine iteP_intro (fun hc => ?_) (fun hc => ?_))
    simp
end Go.Proofs.Yteignhphimfmkaa.Sim
