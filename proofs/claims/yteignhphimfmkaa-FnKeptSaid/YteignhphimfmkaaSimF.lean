/- That appends of the abstract machine stand for those of the model. Lemmas only; no condition. -/
import Derived.Test.YteignhphimfmkaaSimE
set_option linter.unusedSimpArgs false
namespace Go.Proofs.Yteignhphimfmkaa.Sim
open Go Go.RowKit

variable {P : Program} {ro : Nat} {B : Base}

theorem SR.grow {ρ : List Loc} {h : Heap} {w : World} (s : SR P ro B ρ h w) (g : Nat) (C : Array Value) (ty : TypeId) (cs : List Value) (hg : w.heap[g]? = some (.cells C ty (0, 0))) (hB : B.n ≤ g)
    (hfree : ∀ (b : Nat) (L : Loc) (Bk : Blk), ρ[b]? = some L → h[b]? = some Bk → Bk.cells ≠ [] → L.g ≠ g)
    (hc : ∀ (i : Nat) (v : Value), cs[i]? = some v → ∃ v', C[i]? = some v' ∧ VR P ro ρ v v' ∧ one v' = true) : SR P ro B (ρ ++ [⟨g, 0, C.size, ty⟩]) (h ++ [⟨ty, cs⟩]) w := by
  have hp : Pre ρ (ρ ++ [(⟨g, 0, C.size, ty⟩ : Loc)]) := ⟨_, rfl⟩
  have hlen := s.len
  refine ⟨by simp [hlen], ty_snoc s.len s.ty, ?_, ?_, s.glob⟩
  · intro b L Bk h1 h2 h3
    rw [getElem?_snoc] at h1 h2
    split at h1
    · rename_i hb
      rw [if_pos (by omega)] at h2
      obtain ⟨C', ty', fr, k1, k2, k3⟩ := s.blk b L Bk h1 h2 h3
      exact ⟨C', ty', fr, k1, fun i v hv => by obtain ⟨v', q1, q2, q3⟩ := k2 i v hv; exact ⟨v', q1, q2.mono hp, q3⟩, k3⟩
    · split at h1
      · rename_i hb
        cases h1
        rw [if_neg (by omega), if_pos (by omega)] at h2
        cases h2
        refine ⟨C, ty, (0, 0), hg, fun i v hv => ?_, fun _ => ⟨rfl, rfl, rfl, hB, rfl, rfl⟩⟩
        obtain ⟨v', q1, q2, q3⟩ := hc i v hv
        exact ⟨v', by simpa using q1, q2.mono hp, q3⟩
      · cases h1
  · intro b b' L L' Bk Bk' hne hro h1 h1' h2 h2' h3 h3'
    rw [getElem?_snoc] at h1 h1' h2 h2'
    split at h1
    · rename_i hb
      rw [if_pos (by omega)] at h2
      split at h1'
      · rename_i hb'
        rw [if_pos (by omega)] at h2'
        exact s.apart b b' L L' Bk Bk' hne hro h1 h1' h2 h2' h3 h3'
      · split at h1'
        · cases h1'
          exact hfree b L Bk h1 h2 h3
        · cases h1'
    · split at h1
      · rename_i hb
        cases h1
        split at h1'
        · rename_i hb'
          rw [if_pos (by omega)] at h2'
          exact (hfree b' L' Bk' h1' h2' h3').symm
        · split at h1'
          · omega
          · cases h1'
      · cases h1

theorem row_snd {ρ : List Loc} {h : Heap} {w : World} (s : SR P ro B ρ h w) {x x' : Value} {sz : Nat} {row : List Value} (hr : rowOf h x sz = some row) (hx : VR P ro ρ x x') :
    ∃ cs, VRs P ro ρ row cs ∧ cs.all one = true ∧ row.length = lenV x * sz ∧ (Builtin.lenOf x' = pure (lenV x)) ∧ (∃ a n c, x' = .slice a n c ∧ n = lenV x ∧ (∀ a', a = some a' → ∀ (j : Nat) (u : Value), cs[j]? = some u → w.cell? (a'.add j) = some u)) ∧
      ∀ W, W.heap = w.heap → (Builtin.firstCells sz (lenV x) x').run P W = .ok cs.toArray W := by
  cases hx <;> simp only [rowOf] at hr <;> try (cases hr; done)
  case snil =>
    cases hr
    exact ⟨[], .nil, rfl, by simp [lenV], rfl, ⟨none, 0, 0, rfl, rfl, fun _ h => by cases h⟩, fun W _ => by simp [Builtin.firstCells]⟩
  case slc b o L len cap cap' hL h1 h2 h3 =>
    simp only [Option.bind_eq_some_iff] at hr
    obtain ⟨Bk, hb, hr⟩ := hr
    split at hr
    · rename_i hle
      cases hr
      by_cases h0 : len * sz = 0
      · refine ⟨[], by rw [h0]; exact .nil, rfl, by simp [lenV, h0], rfl, ⟨_, _, _, rfl, rfl, fun _ _ j u hu => by simp at hu⟩, fun W _ => ?_⟩
        simp [Builtin.firstCells, lenV, h0, loadCells, loadCellsFrom]
      · obtain ⟨cs, c1, c2, c3, c4⟩ := s.range hL hb hle (by omega)
        refine ⟨cs, c2, c4, by simp [lenV]; omega, rfl, ⟨_, _, _, rfl, rfl, ?_⟩, fun W hW => ?_⟩
        · intro a' ha' j u hu
          cases ha'
          rw [add_lit]; exact c3 j u hu
        · refine run_firstCells_some (P := P) W sz len ⟨L.g, L.s + o, none⟩ len cap' cs c1 fun j v hv => ?_
          rw [add_lit]
          have := c3 j v hv
          simp only [World.cell?] at this ⊢
          rw [hW]; exact this
    · cases hr
  case slz b o cap a L hL =>
    simp only [Option.bind_eq_some_iff] at hr
    obtain ⟨Bk, hb, hr⟩ := hr
    split at hr
    · cases hr
      exact ⟨[], by simpa using VRs.nil, rfl, by simp [lenV], rfl, ⟨_, _, _, rfl, rfl, fun _ _ j u hu => by simp at hu⟩, fun W _ => by simp [Builtin.firstCells, lenV, loadCells, loadCellsFrom]⟩
    · cases hr

theorem news_snd {ρ : List Loc} {h : Heap} {w : World} (s : SR P ro B ρ h w) {x x' : Value} {sz : Nat} {row : List Value} (hr : newsOf h x sz = some row) (hx : VR P ro ρ x x') :
    ∃ cs, VRs P ro ρ row cs ∧ cs.all one = true ∧ (Builtin.lenOf x' = pure (lenV x)) ∧ ∀ W, W.heap = w.heap → (Builtin.firstCells sz (lenV x) x').run P W = .ok cs.toArray W := by
  by_cases hs : ∃ b, x = .string b
  · obtain ⟨b, rfl⟩ := hs
    cases hx
    simp only [newsOf] at hr
    cases hr
    refine ⟨b.data.toList.map fun c => .int .u8 c.toNat, ?_, ?_, rfl, fun W _ => ?_⟩
    · refine VRs.plainC (List.all_eq_true.2 fun v hv => ?_)
      obtain ⟨c, _, rfl⟩ := List.mem_map.1 hv
      rfl
    · refine List.all_eq_true.2 fun v hv => ?_
      obtain ⟨c, _, rfl⟩ := List.mem_map.1 hv
      rfl
    · have := Lib.run_firstCells_string (P := P) W sz b
      rw [lenV, this]
      rfl
  · have hr' : rowOf h x sz = some row := by
      cases x <;> first | exact hr | exact absurd ⟨_, rfl⟩ hs
    obtain ⟨cs, c1, c2, _, c4, _, c6⟩ := row_snd s hr' hx
    exact ⟨cs, c1, c2, c4, c6⟩

theorem run_app_none {w : World} {t u ty e : TypeId} {i : TypeInfo} {d : TypeDesc} (ht : P.underlying t = some (.slice e)) (hu : P.underlying u = some d) (hd : ∀ k, d ≠ .int k) (hi : P.info? e = some i)
    (base : Option Addr) (sLen sCap : Nat) (x' : Value) (hl : Builtin.lenOf x' = pure 0) (hx : (Builtin.firstCells i.size 0 x').run P w = .ok #[] w) (hc : sLen ≤ sCap) :
    (Builtin.append_ #[t, u] ty #[.slice base sLen sCap, x']).run P w = .ok (.slice base sLen sCap) w := by
  have hz : (match d with | .int _ => true | _ => false) = false := by cases d <;> first | rfl | exact absurd rfl (hd _)
  cases base with
  | none => simp [Builtin.append_, run_underlying ht, run_underlying hu, sizeOf, typeInfo, hi, hl, hz, hx, hc]
  | some a => simp [Builtin.append_, run_underlying ht, run_underlying hu, sizeOf, typeInfo, hi, hl, hz, hx, hc, storeCells]
theorem run_app_room {w : World} {t u ty e : TypeId} {i : TypeInfo} {d : TypeDesc} (ht : P.underlying t = some (.slice e)) (hu : P.underlying u = some d) (hd : ∀ k, d ≠ .int k) (hi : P.info? e = some i)
    (g sLen sCap n : Nat) (cur : Array Value) (hg : w.heap[g]? = some (.cells cur e (0, 0))) (x' : Value) (news : List Value) (hl : Builtin.lenOf x' = pure n) (hx : (Builtin.firstCells i.size n x').run P w = .ok news.toArray w)
    (h1 : ∀ u ∈ news, u.oneCell' = true) (hc : sLen + n ≤ sCap) (hfit : sLen * i.size + news.length ≤ cur.size) :
    (Builtin.append_ #[t, u] ty #[.slice (some ⟨g, 0, none⟩) sLen sCap, x']).run P w =
      .ok (.slice (some ⟨g, 0, none⟩) (sLen + n) sCap) (w.setRow g (cur.toList.take (sLen * i.size) ++ news ++ cur.toList.drop (sLen * i.size + news.length)).toArray) := by
  have hz : (match d with | .int _ => true | _ => false) = false := by cases d <;> first | rfl | exact absurd rfl (hd _)
  have hst := run_storeCells_at P g (sLen * i.size) e news 0 cur w hg (by simpa using hfit) h1
  simp only [Nat.add_zero] at hst
  simp [Builtin.append_, run_underlying ht, run_underlying hu, sizeOf, typeInfo, hi, hl, hz, hx, hc, Addr.add_lit, hst]
theorem run_app_grow {w : World} {t u ty e : TypeId} {i : TypeInfo} {d : TypeDesc} {z : Value} (ht : P.underlying t = some (.slice e)) (hu : P.underlying u = some d) (hd : ∀ k, d ≠ .int k) (hi : P.info? e = some i) (hz0 : i.zero = some z)
    (base : Option Addr) (sLen sCap n : Nat) (x' : Value) (olds news : List Value) (hl : Builtin.lenOf x' = pure n) (hx : ∀ W, W.heap = w.heap → (Builtin.firstCells i.size n x').run P W = .ok news.toArray W)
    (ho : ∀ W, W.heap = w.heap → (Builtin.firstCells i.size sLen (.slice base sLen sCap)).run P W = .ok olds.toArray W)
    (hc : sCap < sLen + n) (h63 : sLen + n ≤ 9223372036854775807) (h48 : Builtin.nextslicecap (sLen + n) sCap * i.bytes ≤ 281474976710656) :
    (Builtin.append_ #[t, u] ty #[.slice base sLen sCap, x']).run P w =
      .ok (.slice (some ⟨w.heap.size, 0, none⟩) (sLen + n) (grownCap w (sLen + n) sCap e))
        (w.drew.alloc (.cells (olds.toArray ++ news.toArray ++ Builtin.zeroCells z.cells (grownCap w (sLen + n) sCap e - (sLen + n))) e)) := by
  have hz : (match d with | .int _ => true | _ => false) = false := by cases d <;> first | rfl | exact absurd rfl (hd _)
  have hn : ¬ (sLen + n ≤ sCap) := by omega
  have h63' : ¬ (9223372036854775807 < ((sLen : Int) + (n : Int))) := by omega
  have h48' : ¬ (281474976710656 < Builtin.nextslicecap (sLen + n) sCap * i.bytes) := by omega
  have hf := hx w.drew rfl
  have hfo := ho w.drew rfl
  simp [Builtin.append_, run_underlying ht, run_underlying hu, sizeOf, typeInfo, zeroValue, hi, hz0, hl, hz, hn, h63', h48', Question.forced, hf, hfo, newRow, grownCap]
  simp only [← List.append_toArray, Array.append_assoc]

theorem app_snd {ρ : List Loc} {h h' : Heap} {w : World} (s : SR P ro B ρ h w) (hB : B.n ≤ w.heap.size) {t u ty : TypeId} {s0 s0' x x' v : Value} (ha : app P ro h t s0 x = some (v, h')) (hs : VR P ro ρ s0 s0') (hx : VR P ro ρ x x')
    (hu : u = t ∨ strT P u = true) : Fine P ro B ρ h' w v (Builtin.append_ #[t, u] ty #[s0', x']) := by
  unfold app at ha
  simp only [Option.bind_eq_some_iff, elemT] at ha
  obtain ⟨e, he, sz, hsz, by_, hby, old, hold, new, hnew, ha⟩ := ha
  split at he <;> cases he
  rename_i ht
  obtain ⟨i, d0, hi, rfl, hd0⟩ := szT_some hsz
  have hud : ∃ d, P.underlying u = some d ∧ ∀ k, d ≠ .int k := by
    rcases hu with rfl | hu
    · exact ⟨_, ht, fun k => by simp⟩
    · unfold strT at hu
      split at hu
      · rename_i q; exact ⟨_, q, fun k => by simp⟩
      · cases hu
  obtain ⟨d, hud, hdk⟩ := hud
  have hby' : i.bytes = by_ := by simpa [byT, hi] using hby
  obtain ⟨ocs, o1, o2, o3, o4, ⟨a0, n0, c0, rfl, rfl, o5⟩, o6⟩ := row_snd s hold hs
  obtain ⟨ncs, n1, n2, n4, n6⟩ := news_snd s hnew hx
  split at ha
  · cases ha
  rename_i hsz0
  simp only [not_or, Decidable.not_not] at hsz0
  obtain ⟨hsz0, hzs⟩ := hsz0
  obtain ⟨z, hz⟩ := Option.isSome_iff_exists.1 hzs
  obtain ⟨i', hi', hiz, hpl, hon, hsi⟩ := zeroT_some hz
  rw [hi] at hi'; cases hi'
  have hcap : lenV s0 ≤ c0 := by
    cases hs with
    | snil => simp [lenV]
    | slc b o L len cap cap' hL h1 h2 h3 => simpa [lenV] using h1
    | slz => simp [lenV]
  split at ha
  · -- nothing to append
    rename_i h0
    cases ha
    rw [h0] at n4 n6
    have hn0 : ncs = [] := by
      have := n6 w rfl
      cases hx <;> simp only [newsOf, rowOf] at hnew <;> try (cases hnew; done)
      case str b =>
        simp only [lenV] at h0
        cases hnew
        have h2 := n1.len
        rw [List.length_map, Array.length_toList] at h2
        exact List.eq_nil_of_length_eq_zero (h2.symm.trans h0)
      case snil => cases hnew; cases n1; rfl
      case slc b o L len cap cap' hL h1 h2 h3 =>
        simp only [lenV] at h0
        subst h0
        simp only [Option.bind_eq_some_iff] at hnew
        obtain ⟨_, _, hnew⟩ := hnew
        split at hnew
        · cases hnew; have := n1.len; simp at this; exact List.eq_nil_of_length_eq_zero this.symm
        · cases hnew
      case slz b o cap a L hL =>
        simp only [Option.bind_eq_some_iff] at hnew
        obtain ⟨_, _, hnew⟩ := hnew
        split at hnew
        · cases hnew; have := n1.len; simp at this; exact List.eq_nil_of_length_eq_zero this.symm
        · cases hnew
    subst hn0
    exact ⟨_, w, ρ, run_app_none ht hud hdk hi a0 (lenV s0) c0 x' n4 (n6 w rfl) hcap, Pre.refl _, s, hs, Below.refl _ _⟩
  rename_i hlx
  split at ha
  · cases ha
  rename_i hcond
  simp only [Decidable.not_not] at hcond
  obtain ⟨k1, k2, k3, k4⟩ := hcond
  have hnl : ncs.length = lenV x * i.size := by rw [← n1.len]; exact k4
  have hol : ocs.length = lenV s0 * i.size := by rw [← o1.len]; exact o3
  have hone : (old ++ new).all one = true := by
    rw [List.all_append]
    rw [show old.all one = true from by rw [← o1.one]; exact o2, k3]; rfl
  -- a new block
  have grow : c0 < lenV s0 + lenV x → ∀ hh, (∃ b, hh = h.set b ⟨e, []⟩) ∨ hh = h → SR P ro B ρ hh w →
      Fine P ro B ρ (hh ++ [⟨e, old ++ new⟩]) w (.slice (some ⟨hh.length, 0, none⟩) (lenV s0 + lenV x) (lenV s0 + lenV x + 1)) (Builtin.append_ #[t, u] ty #[.slice a0 (lenV s0) c0, x']) := by
    intro hlt hh _ s'
    have hnx := nextslicecap_le hlt
    have h48 : Builtin.nextslicecap (lenV s0 + lenV x) c0 * i.bytes ≤ 281474976710656 := by
      have := Nat.mul_le_mul_right i.bytes hnx
      rw [hby'] at this ⊢
      rw [Nat.mul_assoc] at this
      omega
    have hrun := run_app_grow (ty := ty) ht hud hdk hi hiz a0 (lenV s0) c0 (lenV x) x' ocs ncs n4 n6 o6 hlt k2 h48
    have hge := grownCap_ge w (lenV s0 + lenV x) c0 e
    have hsize : (ocs.toArray ++ ncs.toArray ++ Builtin.zeroCells z.cells (grownCap w (lenV s0 + lenV x) c0 e - (lenV s0 + lenV x))).size = grownCap w (lenV s0 + lenV x) c0 e * i.size := by
      have hzc : z.cells.size = i.size := by rw [cells_size, hsi]
      simp only [Array.size_append, List.size_toArray, size_zeroCells, hzc, hol, hnl, ← Nat.add_mul]
      congr 1
      omega
    have s2 := new_snd (s'.drew) (by simpa using hB) (ocs.toArray ++ ncs.toArray ++ Builtin.zeroCells z.cells (grownCap w (lenV s0 + lenV x) c0 e - (lenV s0 + lenV x))) e (old ++ new) (fun j v hv => by
      obtain ⟨v', q1, q2⟩ := rel_get (o1.append n1) hone j v hv
      refine ⟨v', ?_, q2⟩
      have hj : j < (ocs ++ ncs).length := by
        rcases Nat.lt_or_ge j (ocs ++ ncs).length with q | q
        · exact q
        · rw [List.getElem?_eq_none q] at q1; cases q1
      rw [Array.getElem?_append_left (by simpa using hj)]
      simpa using q1)
    refine ⟨_, _, _, hrun, ⟨_, rfl⟩, s2, ?_, ?_⟩
    · have := VR.slc (P := P) (ro := ro) hh.length 0 _ (lenV s0 + lenV x) (lenV s0 + lenV x + 1) (grownCap w (lenV s0 + lenV x) c0 e) (last_loc s' (⟨w.heap.size, 0, (ocs.toArray ++ ncs.toArray ++ Builtin.zeroCells z.cells (grownCap w (lenV s0 + lenV x) c0 e - (lenV s0 + lenV x))).size, e⟩ : Loc)) hge (by omega) (by
        intro _ sz' hsz'
        rw [hsz] at hsz'; cases hsz'
        rw [hsize]; simp)
      simpa using this
    · exact ((Below.refl B.n w).drew).alloc (by simpa using hB) _
  generalize lenV x = N at *
  cases hs with
  | snil =>
    simp only at ha
    cases ha
    have := grow (by simp only [lenV]; omega) h (.inr rfl) s
    have ho : old = [] := by simpa [lenV] using o3
    subst ho
    simpa [lenV] using this
  | slc b o L len cap cap' hL h1 h2 h3 =>
    simp only [lenV] at *
    split at ha
    · rename_i hcl
      cases ha
      exact grow (by rw [h2 hcl]; omega) h (.inr rfl) s
    · split at ha
      · rename_i hcl hq
        obtain ⟨q1, rfl, q3, q4⟩ := hq
        cases ha
        simp only [Option.map_eq_some_iff, Prod.mk.injEq] at q4
        obtain ⟨Bk, hb, rfl, hbl⟩ := q4
        have hne : Bk.cells ≠ [] := by
          intro e0
          have := Nat.mul_pos q3 (Nat.pos_of_ne_zero hsz0)
          rw [e0, List.length_nil] at hbl
          omega
        obtain ⟨C, ty', fr, m1, m2, m3⟩ := s.blk b L Bk hL hb hne
        obtain ⟨m4, rfl, rfl, m5, m6, m7⟩ := m3 q1
        have hkill : SR P ro B ρ (h.set b ⟨Bk.ty, []⟩) w := by
          have := s.put hL hb hne q1 C [] (fun C2 _ _ h2 => by rw [m1] at h2; cases h2; rfl) (fun j v hv => by simp at hv)
          rwa [setRow_self w L.g C _ _ m1] at this
        have hlen' : (h.set b ⟨Bk.ty, []⟩).length = h.length := by simp
        by_cases hroom : len + N ≤ c0
        · -- in place
          have hfit : c0 * i.size ≤ C.size := by have := h3 q1 i.size (by rw [m4]; exact hsz); omega
          have hmul : (len + N) * i.size ≤ c0 * i.size := Nat.mul_le_mul_right _ hroom
          rw [Nat.add_mul] at hmul
          have hrun := run_app_room (ty := ty) ht hud hdk hi L.g len c0 N C m1 x' ncs n4 (n6 w rfl) (fun u hu => List.all_eq_true.1 n2 u hu) hroom (by omega)
          have hC' : ((C.toList.take (len * i.size) ++ ncs ++ C.toList.drop (len * i.size + ncs.length)).toArray).size = C.size := by simp; omega
          have s1 := s.put hL hb hne q1 (C.toList.take (len * i.size) ++ ncs ++ C.toList.drop (len * i.size + ncs.length)).toArray [] (fun C2 _ _ h2 => by rw [m1] at h2; cases h2; exact hC') (fun j v hv => by simp at hv)
          have hrow := setRow_heap w L.g C (C.toList.take (len * i.size) ++ ncs ++ C.toList.drop (len * i.size + ncs.length)).toArray _ _ m1
          have s2 := s1.grow L.g _ Bk.ty (old ++ new) hrow m5 (fun b2 L2 Bk2 g1 g2 g3 => by
            by_cases hbb : b2 = b
            · subst hbb
              rw [List.getElem?_set] at g2
              split at g2
              · split at g2
                · cases g2; exact absurd rfl g3
                · cases g2
              · rename_i hbad; exact absurd rfl hbad
            · rw [List.getElem?_set_ne (Ne.symm hbb)] at g2
              exact (s.apart b b2 L L2 Bk Bk2 (Ne.symm hbb) q1 hL g1 hb g2 hne g3).symm) (fun j v hv => by
            have hocs : ocs = C.toList.take (len * i.size) := by
              apply List.ext_getElem?
              intro k
              by_cases hk : k < len * i.size
              · rw [List.getElem?_take_of_lt hk]
                have hok : k < ocs.length := by rw [hol]; exact hk
                have := o5 _ rfl k _ (List.getElem?_eq_getElem hok)
                rw [add_lit, cell_at m1] at this
                rw [List.getElem?_eq_getElem hok, ← this]
                simp [m6]
              · rw [List.getElem?_eq_none (by rw [hol]; omega), List.getElem?_eq_none (by simp; omega)]
            obtain ⟨v', p1, p2⟩ := rel_get (o1.append n1) hone j v hv
            refine ⟨v', ?_, p2⟩
            rw [hocs] at p1
            have hj : j < (C.toList.take (len * i.size) ++ ncs).length := by
              rcases Nat.lt_or_ge j (C.toList.take (len * i.size) ++ ncs).length with q | q
              · exact q
              · rw [List.getElem?_eq_none q] at p1; cases p1
            rw [List.getElem?_toArray, List.getElem?_append_left hj]
            exact p1)
          have hm6 : (⟨L.g, L.s + 0, none⟩ : Addr) = ⟨L.g, 0, none⟩ := by rw [m6]
          rw [hm6]
          refine ⟨_, _, _, hrun, ⟨_, rfl⟩, s2, ?_, ?_⟩
          · have hl2 : (ρ ++ [(⟨L.g, 0, ((C.toList.take (len * i.size) ++ ncs ++ C.toList.drop (len * i.size + ncs.length)).toArray).size, Bk.ty⟩ : Loc)])[h.length]? = some ⟨L.g, 0, ((C.toList.take (len * i.size) ++ ncs ++ C.toList.drop (len * i.size + ncs.length)).toArray).size, Bk.ty⟩ := last_loc s _
            have := VR.slc (P := P) (ro := ro) h.length 0 _ (len + N) (len + N + 1) c0 hl2 hroom (by omega) (by
              intro _ sz' hsz'
              rw [hsz] at hsz'; cases hsz'
              simp only [hC']; omega)
            simpa using this
          · exact (Below.refl B.n w).trans ⟨rfl, rfl, rfl, by simp [World.setRow], fun k hk => setRow_other w L.g k _ (by omega)⟩
        · have := grow (by omega) _ (.inl ⟨b, rfl⟩) hkill
          rw [hlen'] at this
          exact this
      · cases ha
  | slz b o cap a L hL =>
    simp only [lenV] at *
    split at ha
    · cases ha
      have := grow (by omega) h (.inr rfl) s
      simpa using this
    · split at ha
      · rename_i hq
        exact absurd hq.2.2.1 (by omega)
      · cases ha
end Go.Proofs.Yteignhphimfmkaa.Sim
