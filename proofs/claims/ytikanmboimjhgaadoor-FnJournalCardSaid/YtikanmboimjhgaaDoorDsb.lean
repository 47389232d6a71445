/- The builder of texts on the abstract machine. Lemmas only; no condition. -/
import Derived.Test.YtikanmboimjhgaaDoorDsa
import Derived.Test.YtikanmboimjhgaaDoorDrd
set_option linter.unusedSimpArgs false
set_option linter.unusedVariables false
set_option maxRecDepth 8000
namespace Go.Proofs.YtikanmboimjhgaaDoor.Sim
open Go Go.RowKit
noncomputable def extE (ro : Nat) : Ext := fun f => if f = 30 then some (fChk ro) else if f = 19 then some (fStr ro) else extD f
theorem extE_ok {ro : Nat} {B : Base} (ht : TabB B) : XOk Tryd.prog ro B (extE ro) := by
  intro f F hF args h r h' hr ρ w args' hs hB hargs
  unfold extE at hF
  split at hF
  · rename_i e; subst e; cases hF; exact fChk_ok hr hs hB hargs
  · split at hF
    · rename_i e; subst e; cases hF; exact fStr_ok hr hs hB hargs
    · exact extD_ok ht f F hF args h r h' hr ρ w args' hs hB hargs
/-- .. and of the builder's functions. -/
structure XE (ro : Nat) (X : Ext) : Prop where
  d : XD X
  chk : X 30 = some (fChk ro)
  str : X 19 = some (fStr ro)
theorem xe_extE (ro : Nat) : XE ro (extE ro) := by
  refine ⟨⟨fun f hf => ?_, rfl, rfl, rfl⟩, rfl, rfl⟩
  unfold extE
  split
  · rename_i e; subst e; exact absurd hf (by decide)
  · split
    · rename_i e; subst e; exact absurd hf (by decide)
    · exact xd_extD.n f hf
variable {ro : Nat} {X : Ext}
/-- A builder in block 'b' that holds these bytes. -/
def BU (lo b : Nat) (h : Heap) (bs : List UInt8) : Prop := ∃ a x, h[b]? = some ⟨45, [a, x]⟩ ∧ (a = .pointer none ∨ a = .pointer (some ⟨b, 0, none⟩)) ∧ VN lo 5 1 h x bs.length (bs.map u8v)
theorem copyCheck_c (hX : XE ro X) {b : Nat} {h : Heap} {a x : Value} (hb : h[b]? = some ⟨45, [a, x]⟩) (ha : a = .pointer none ∨ a = .pointer (some ⟨b, 0, none⟩)) (hro : ro ≤ b) :
    CallR Tryd.prog ro X 30 [.pointer (some ⟨b, 0, none⟩)] h (fun r h' => r = unit ∧ h' = h.set b ⟨45, [.pointer (some ⟨b, 0, none⟩), x]⟩) := by
  rcases ha with rfl | rfl
  · refine ⟨_, _, call_ext hX.chk ?_, rfl, rfl⟩
    simp only [fChk, hb, Option.bind_some]
    rw [if_pos ⟨hro, trivial, rfl⟩]
    rfl
  · refine ⟨_, h, call_ext hX.chk ?_, rfl, ?_⟩
    · simp only [fChk, hb, Option.bind_some]
      rw [if_pos ⟨hro, trivial, rfl⟩]
      simp
    · obtain ⟨hl, e⟩ := List.getElem?_eq_some_iff.1 hb
      rw [← e]
      exact (List.set_getElem_self hl).symm
set_option maxHeartbeats 1000000 in
theorem WriteString_c (hX : XE ro X) {lo b : Nat} {h : Heap} {bs m : List UInt8} (hB : BU lo b h bs) (hro : ro ≤ b) (hlo : b < lo) (hlh : lo ≤ h.length) (hlen : bs.length + m.length ≤ 140737488355328) :
    CallR Tryd.prog ro X 16 [.pointer (some ⟨b, 0, none⟩), .string ⟨⟨m⟩⟩] h (fun r h' => r = .tuple ⟨[.int .i64 m.length, .nilIface]⟩ ∧ BU lo b h' (bs ++ m) ∧ h.length ≤ h'.length ∧ ∀ h0, Pfx h0 h → h0.length ≤ b → Pfx h0 h') := by
  obtain ⟨a, x, hb, ha, hV⟩ := hB
  have hX' := hX.d.n
  refine callR_of (hX' _ rfl) Tryd.func16 rfl (by kernel_rfl) (Nat.le_of_ble_eq_true rfl) ?_
  (repeat' first | simp -dsimp (disch := first | omega | assumption | (refine OkS.sto ?_ (by omega); first | assumption | (refine OkS.sto ?_ (by omega); first | assumption | (refine OkS.sto ?_ (by omega); first | assumption | (refine OkS.sto ?_ (by omega); first | assumption | (refine OkS.sto ?_ (by omega); first | assumption | (refine OkS.sto ?_ (by omega); first | assumption)))))) | exact Pfx.refl _ | (apply Pfx.snoc; repeat (first | exact Pfx.refl _ | assumption | apply Pfx.snoc)) | with_unfolding_all exact of_eq_true (eq_true rfl) | (simp only [List.length_append, List.length_cons, List.length_nil]; omega)) only [↓wpre0, ↓wpre1, ↓reduceIte, Int.reduceToNat, Nat.reduceAdd, Nat.reduceMul, Nat.reduceEqDiff, wpost0, wpost1, wpost2, wpost3, wpost4, ite_self, ite_true, ite_false, if_true, if_false, nilV_ptr, xfad45_1, xld22, xst22, len_bl Tryd.underlying9, fr16, wrap_int, wrap_u8, iteP_yes, iteP_no] | refine iteP_two (fun hc hd => ?_) (fun hc hd => ?_) | refine iteP_intro (fun hc => ?_) (fun hc => ?_))
  refine cf_rel (copyCheck_c hX hb ha hro) (fun q => by cases q) ?_
  rintro r H1 ⟨rfl, hH1⟩
  have hbl : b < h.length := (List.getElem?_eq_some_iff.1 hb).1
  have l1 : H1.length = h.length := by rw [hH1]; simp
  have b1 : H1[b]? = some ⟨45, [.pointer (some ⟨b, 0, none⟩), x]⟩ := by rw [hH1, List.getElem?_set_self hbl]
  have o1 : ∀ k, k ≠ b → H1[k]? = h[k]? := fun k hk => by rw [hH1, List.getElem?_set_ne (Ne.symm hk)]
  have V1 : VN lo 5 1 H1 x bs.length (bs.map u8v) := by
    rcases hV with hV | hV
    · exact .inl (hV.frame (o1 _ (by have := hV.bof.1; omega)))
    · exact .inr hV
  have c1 : cell H1 b 1 = some x := cellb b1
  obtain ⟨y, H2, ap, V2, old, _⟩ := accS (P := Tryd.prog) (ro := ro) (T := 22) (u := 9) (m := m.length) (y := .string ⟨⟨m⟩⟩) (M := m.map u8v) (h := H1) tel22 tsz5 tby5 tze5 (by decide) (.inr (by kernel_rfl)) V1 (by omega) (by omega) rfl rfl (by simp) (one_u8 m) (by omega) (by omega)
  have b2 : H2[b]? = some ⟨45, [.pointer (some ⟨b, 0, none⟩), x]⟩ := by
    rw [old.2.1 b (by omega) ?_]
    · exact b1
    · rcases V1 with g | g
      · exact .inr (by have := g.bof.1; omega)
      · exact .inl g.2.2
  have l2 := old.2.2
  have sh := V2.vs.shape
  have pt : put ro H2 b 1 1 y = some (H2.set b ⟨45, [.pointer (some ⟨b, 0, none⟩), y]⟩) := by
    have := putb (ro := ro) (n := 1) (o := 1) (v := y) b2 hro (by rw [sh.2.1]; rfl) (Nat.le_refl _) (by rw [sh.2.1]; simp [sh.2.2])
    rw [sh.2.1] at this
    exact this
  (repeat' first | simp -dsimp (disch := first | omega | assumption | (refine OkS.sto ?_ (by omega); first | assumption | (refine OkS.sto ?_ (by omega); first | assumption | (refine OkS.sto ?_ (by omega); first | assumption | (refine OkS.sto ?_ (by omega); first | assumption | (refine OkS.sto ?_ (by omega); first | assumption | (refine OkS.sto ?_ (by omega); first | assumption)))))) | exact Pfx.refl _ | (apply Pfx.snoc; repeat (first | exact Pfx.refl _ | assumption | apply Pfx.snoc)) | with_unfolding_all exact of_eq_true (eq_true rfl) | (simp only [List.length_append, List.length_cons, List.length_nil]; omega)) only [↓wpre0, ↓wpre1, ↓reduceIte, Int.reduceToNat, Nat.reduceAdd, Nat.reduceMul, Nat.reduceEqDiff, wpost0, wpost1, wpost2, wpost3, wpost4, ite_self, ite_true, ite_false, if_true, if_false, nilV_ptr, xfad45_1, xld22, xst22, len_bl Tryd.underlying9, fr16, wrap_int, wrap_u8, iteP_yes, iteP_no, c1, ap, pt] | refine iteP_two (fun hc hd => ?_) (fun hc hd => ?_) | refine iteP_intro (fun hc => ?_) (fun hc => ?_))
  refine ⟨⟨_, y, List.getElem?_set_self (by omega), .inr rfl, ?_⟩, by rw [List.length_set]; omega, fun h0 p hl => ?_⟩
  · rw [List.map_append, List.length_append]
    rcases V2 with g | g
    · exact .inl (g.frame (List.getElem?_set_ne (by have := g.bof.1; omega)))
    · exact .inr g
  · have p1 : Pfx h0 H1 := by rw [hH1]; exact p.set hl
    exact (old.1 h0 p1 (by omega)).set hl
theorem Len_r (hX : XE ro X) {lo b : Nat} {h : Heap} {bs : List UInt8} (hB : BU lo b h bs) :
    Ret Tryd.prog ro X 18 [.pointer (some ⟨b, 0, none⟩)] h (.int .i64 bs.length) := by
  obtain ⟨a, x, hb, ha, hV⟩ := hB
  have hX' := hX.d.n
  refine ret_of (callR_of (hX' _ rfl) Tryd.func18 rfl (by kernel_rfl) (Nat.le_of_ble_eq_true rfl) ?_)
  have c1 : cell h b 1 = some x := cellb hb
  (repeat' first | simp -dsimp (disch := first | omega | assumption | (refine OkS.sto ?_ (by omega); first | assumption | (refine OkS.sto ?_ (by omega); first | assumption | (refine OkS.sto ?_ (by omega); first | assumption | (refine OkS.sto ?_ (by omega); first | assumption | (refine OkS.sto ?_ (by omega); first | assumption | (refine OkS.sto ?_ (by omega); first | assumption)))))) | exact Pfx.refl _ | (apply Pfx.snoc; repeat (first | exact Pfx.refl _ | assumption | apply Pfx.snoc)) | with_unfolding_all exact of_eq_true (eq_true rfl) | (simp only [List.length_append, List.length_cons, List.length_nil]; omega)) only [↓wpre0, ↓wpre1, ↓reduceIte, Int.reduceToNat, Nat.reduceAdd, Nat.reduceMul, Nat.reduceEqDiff, wpost0, wpost1, wpost2, wpost3, wpost4, ite_self, ite_true, ite_false, if_true, if_false, nilV_ptr, xfad45_1, xld22, xlen22, fr18, wrap_int, wrap_u8, iteP_yes, iteP_no, c1, hV.vs.len Tryd.underlying22] | refine iteP_two (fun hc hd => ?_) (fun hc hd => ?_) | refine iteP_intro (fun hc => ?_) (fun hc => ?_))
theorem bytesOf_u8c (l : List UInt8) : bytesOf (l.map u8v) = some l := bytesOf_u8 l
theorem String_c (hX : XE ro X) {lo b : Nat} {h : Heap} {bs : List UInt8} (hB : BU lo b h bs) (hro : ro ≤ b) (hlo : b < lo) (h63 : bs.length ≤ 9223372036854775807) (hne : bs = [] → ∃ a, h[b]? = some ⟨45, [a, .slice none 0 0]⟩) :
    CallR Tryd.prog ro X 19 [.pointer (some ⟨b, 0, none⟩)] h (fun r h' => r = .string ⟨⟨bs⟩⟩ ∧ ∀ h0, Pfx h0 h → h0.length ≤ b → Pfx h0 h') := by
  by_cases hbs : bs = []
  · subst hbs
    obtain ⟨a, hb⟩ := hne rfl
    refine ⟨_, h, call_ext hX.str ?_, rfl, fun h0 p _ => p⟩
    simp only [fStr, hb, Option.bind_some]
    rw [if_pos ⟨hro, rfl⟩]
    rfl
  · obtain ⟨a, x, hb, ha, hV⟩ := hB
    have hn : 0 < bs.length := List.length_pos_iff.2 hbs
    rcases hV with ⟨hl, g, c, rfl, hg, hgk, _⟩ | ⟨h0, _⟩
    · refine ⟨_, _, call_ext hX.str ?_, rfl, fun h0 p hl => p.set (C := ⟨5, []⟩) (b := g) (by omega)⟩
      simp only [fStr, hb, Option.bind_some]
      rw [if_pos ⟨hro, rfl⟩]
      simp only [List.getElem?_cons_succ, List.getElem?_cons_zero, hgk, Option.bind_some, bytesOf_u8]
      rw [if_pos ⟨by omega, rfl, rfl, rfl, hn, h63⟩]
    · omega
end Go.Proofs.YtikanmboimjhgaaDoor.Sim
