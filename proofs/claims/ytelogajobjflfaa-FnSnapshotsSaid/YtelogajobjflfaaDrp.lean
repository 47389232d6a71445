/- Places, drawn. Lemmas only; no condition. -/
import Derived.Test.YtelogajobjflfaaDro
import Derived.Test.YtelogajobjflfaaDrx
set_option linter.unusedSimpArgs false
set_option linter.unusedVariables false
set_option maxRecDepth 8000
namespace Go.Proofs.Ytelogajobjflfaa.Sim
open Go Go.RowKit
variable {ro lo hi b A : Nat} {X : Ext} {h : Heap} {x y : Value} {cd : List UInt8}
/-- The operations of a region. -/
def findR (i : Nat) : Code → Option (Array Oper)
  | .seq a b => match findR i a with | some r => some r | none => findR i b
  | .cond _ a b => match findR i a with | some r => some r | none => findR i b
  | .block _ c => findR i c
  | .loop c => findR i c
  | .region j ops _ => if j = i then some ops else none
  | _ => none
theorem all_one_ints (l : List Int) : (vints l).all one = true := by simp [vints, List.all_eq_true, one, Value.oneCell']
theorem ren_new (H : Heap) (pl : List Nat) (i j o len cap : Nat) (hj : pl.getD i 0 = j) : Ren (fun b => if b < H.length then b else H.length + pl.getD (b - H.length) 0) (.slice (some ⟨H.length + i, o, none⟩) len cap) (.slice (some ⟨H.length + j, o, none⟩) len cap) :=
  .slc _ _ _ _ _ (by show _ = if H.length + i < H.length then _ else _; rw [if_neg (by omega), Nat.add_sub_cancel_left, hj])
theorem ren_old (H : Heap) (pl : List Nat) (i o len cap : Nat) (hi : i < H.length) : Ren (fun b => if b < H.length then b else H.length + pl.getD (b - H.length) 0) (.slice (some ⟨i, o, none⟩) len cap) (.slice (some ⟨i, o, none⟩) len cap) :=
  .slc _ _ _ _ _ (by show _ = if i < H.length then _ else _; rw [if_pos hi])
theorem equ_go {P : Program} {H t1 t2 : Heap} {e e1 e2 : Env} {T : TypeId} (m : Nat) (pl sl : List Nat) (L1 L2 : List (List Int)) (hro : ro ≤ H.length) (h1 : t1 = L1.map fun cs => ⟨T, vints cs⟩) (h2 : t2 = L2.map fun cs => ⟨T, vints cs⟩) (hm1 : L1.length = m) (hm2 : L2.length = m)
    (hto : ∀ k, k < m → pl.getD k 0 < m ∧ sl.getD (pl.getD k 0) 0 = k) (hof : ∀ k, k < m → sl.getD k 0 < m ∧ pl.getD (sl.getD k 0) 0 = k) (hb : L1 = (List.range m).map fun k => L2.getD (pl.getD k 0) [])
    (h0 : ∀ t, t ≠ 35 → t ≠ 36 → t ≠ 37 → t ≠ 38 → t ≠ 39 → t ≠ 40 → t ≠ 8 → e1 t = e t ∧ e2 t = e t)
    (q35 : Ren (fun b => if b < H.length then b else H.length + pl.getD (b - H.length) 0) (e1 35) (e2 35))
    (q36 : Ren (fun b => if b < H.length then b else H.length + pl.getD (b - H.length) 0) (e1 36) (e2 36))
    (q37 : Ren (fun b => if b < H.length then b else H.length + pl.getD (b - H.length) 0) (e1 37) (e2 37))
    (q38 : Ren (fun b => if b < H.length then b else H.length + pl.getD (b - H.length) 0) (e1 38) (e2 38))
    (q39 : Ren (fun b => if b < H.length then b else H.length + pl.getD (b - H.length) 0) (e1 39) (e2 39))
    (q40 : Ren (fun b => if b < H.length then b else H.length + pl.getD (b - H.length) 0) (e1 40) (e2 40))
    (q8 : Ren (fun b => if b < H.length then b else H.length + pl.getD (b - H.length) 0) (e1 8) (e2 8)) : Equ P ro e H (e1, H ++ t1) (e2, H ++ t2) := by
  have l1 : t1.length = m := by rw [h1, List.length_map, hm1]
  have l2 : t2.length = m := by rw [h2, List.length_map, hm2]
  refine Swap.equ (N := 0) (π := fun k => pl.getD k 0) (σ := fun k => sl.getD k 0) ⟨by omega, by rw [l1]; exact hto, by rw [l1]; exact hof, ?_, fun t => ?_⟩ hro
  · intro k A hk hA
    rw [l1] at hk
    have hj := (hto k hk).1
    have e1' : L1[k]? = some (L2.getD (pl.getD k 0) []) := by rw [hb]; simp [hk]
    rw [h1, List.getElem?_map, e1'] at hA
    cases hA
    refine ⟨⟨T, vints (L2.getD (pl.getD k 0) [])⟩, ?_, rfl, Rens.ints _⟩
    rw [h2, List.getElem?_map, List.getElem?_eq_getElem (by omega)]
    have hj2 : pl.getD k 0 < L2.length := by omega
    simp only [Option.map_some, List.getD_eq_getElem?_getD (l := L2), List.getElem?_eq_getElem hj2, Option.getD_some]
  · by_cases n1 : t = 35
    · rw [n1]; exact .inr q35
    by_cases n2 : t = 36
    · rw [n2]; exact .inr q36
    by_cases n3 : t = 37
    · rw [n3]; exact .inr q37
    by_cases n4 : t = 38
    · rw [n4]; exact .inr q38
    by_cases n5 : t = 39
    · rw [n5]; exact .inr q39
    by_cases n6 : t = 40
    · rw [n6]; exact .inr q40
    by_cases n7 : t = 8
    · rw [n7]; exact .inr q8
    exact .inl (h0 t n1 n2 n3 n4 n5 n6 n7)
theorem r13 {ops : Array Oper} {c : Code} (hc : Try.f127.body = some c) (hr : findR 13 c = some ops) {e : Env} {H : Heap} {Q : Ex → Env → Heap → Prop} {yb yc n bp : Nat} {l : List Int} {u v : Int} (hro : ro ≤ H.length)
    (g4 : e 4 = .slice (some ⟨yb, 0, none⟩) n yc) (g7 : e 7 = .pointer (some ⟨bp, 0, none⟩)) (hD : H[yb]? = some ⟨126, vints l⟩) (hll : l.length = n * 2) (hP : H[bp]? = some ⟨126, [.int .i64 u, .int .i64 v]⟩) (hn : n ≤ 16)
    (k : ∀ (e' : Env) (H' : Heap) (db dc : Nat), (∀ t, t < 35 → t ≠ 8 → e' t = e t) → e' 8 = .slice (some ⟨db, 0, none⟩) (n + 1) dc → H.length ≤ db → H'[db]? = some ⟨126, vints (l ++ [u, v])⟩ → Pfx H H' → Q .normal e' H') :
    WG Try.prog ro X (.region 13 ops true) Q e H := by
  cases hc
  have hx : findR 13 _ = some _ := hr
  simp only [findR, Nat.reduceEqDiff, if_false, if_true] at hx
  cases hx
  clear hr
  have apA : ∀ (G : Heap) (a : Nat), ro ≤ a → G[a]? = some (⟨126, []⟩ : Blk) → G[yb]? = some (⟨126, vints l⟩ : Blk) → ablt Try.prog ro .append [54, 54] [.slice (some ⟨a, 0, none⟩) 0 0, .slice (some ⟨yb, 0, none⟩) n yc] G = if n = 0 then some (.slice (some ⟨a, 0, none⟩) 0 0, G) else some (.slice (some ⟨G.length, 0, none⟩) n (n + 1), G ++ [(⟨126, vints l⟩ : Blk)]) := by
    intro G a hra hA hY
    by_cases h0 : n = 0
    · rw [if_pos h0]
      subst h0
      exact ablt_ap0 (k := 2) tel54 tsz126 tby126 tze126 (by decide) (.inl rfl) (old := []) (by simp [rowOf, hA]) (news_blk (j := 0) hY (by simpa [vints] using hll)) rfl
    · rw [if_neg h0]
      have g : VN ro 126 2 G (.slice (some ⟨a, 0, none⟩) 0 0) 0 [] := .inl ⟨rfl, a, 0, rfl, hra, hA, fun _ => rfl⟩
      have ap := ablt_apv (ro := ro) tel54 tsz126 tby126 tze126 (by decide) (.inl rfl) g (Nat.le_refl _) (y := .slice (some ⟨yb, 0, none⟩) n yc) (M := vints l) (m := n) (news_blk (j := n) hY (by simpa [vints] using hll)) rfl (by simpa [vints] using hll) (by omega) (all_one_ints _) (by omega) (by omega)
      rw [ap]
      simp only [Nat.zero_add, List.nil_append]
      unfold apv
      rw [if_pos (show capOf (.slice (some ⟨a, 0, none⟩) 0 0) = 0 from rfl)]
  have apB : ∀ (G : Heap) (c d : Nat), G[c]? = some (⟨126, vints l⟩ : Blk) → ro ≤ c → 0 < n → G[d]? = some (⟨126, [.int .i64 u, .int .i64 v]⟩ : Blk) → ablt Try.prog ro .append [54, 54] [.slice (some ⟨c, 0, none⟩) n (n + 1), .slice (some ⟨d, 0, none⟩) 1 1] G = some (.slice (some ⟨G.length, 0, none⟩) (n + 1) (n + 2), G.set c (⟨126, []⟩ : Blk) ++ [(⟨126, vints (l ++ [u, v])⟩ : Blk)]) := by
    intro G c d hC hrc hn0 hd
    have g : VN ro 126 2 G (.slice (some ⟨c, 0, none⟩) n (n + 1)) n (vints l) := .inl ⟨by simpa [vints] using hll, c, n + 1, rfl, hrc, hC, fun q => absurd q (by omega)⟩
    have ap := ablt_apv (ro := ro) tel54 tsz126 tby126 tze126 (by decide) (.inl rfl) g (Nat.le_refl _) (y := .slice (some ⟨d, 0, none⟩) 1 1) (M := vints [u, v]) (m := 1) (news_blk (j := 1) hd rfl) rfl rfl (by omega) (all_one_ints _) (by omega) (by omega)
    rw [ap]
    unfold apv
    rw [if_neg (show ¬ capOf (.slice (some ⟨c, 0, none⟩) n (n + 1)) = n from fun q => absurd (show n + 1 = n from q) (by omega))]
    simp [vints, bOf]
  have apC : ∀ (G : Heap) (c d : Nat), G[c]? = some (⟨126, []⟩ : Blk) → ro ≤ c → G[d]? = some (⟨126, [.int .i64 u, .int .i64 v]⟩ : Blk) → ablt Try.prog ro .append [54, 54] [.slice (some ⟨c, 0, none⟩) 0 0, .slice (some ⟨d, 0, none⟩) 1 1] G = some (.slice (some ⟨G.length, 0, none⟩) 1 2, G ++ [(⟨126, [.int .i64 u, .int .i64 v]⟩ : Blk)]) := by
    intro G c d hC hrc hd
    have g : VN ro 126 2 G (.slice (some ⟨c, 0, none⟩) 0 0) 0 [] := .inl ⟨rfl, c, 0, rfl, hrc, hC, fun _ => rfl⟩
    have ap := ablt_apv (ro := ro) tel54 tsz126 tby126 tze126 (by decide) (.inl rfl) g (Nat.le_refl _) (y := .slice (some ⟨d, 0, none⟩) 1 1) (M := vints [u, v]) (m := 1) (news_blk (j := 1) hd rfl) rfl rfl (by omega) (all_one_ints _) (by omega) (by omega)
    rw [ap]
    unfold apv
    rw [if_pos (show capOf (.slice (some ⟨c, 0, none⟩) 0 0) = 0 from rfl)]
    rfl
  have hlH := (List.getElem?_eq_some_iff.1 hP).1
  have hlY := (List.getElem?_eq_some_iff.1 hD).1
  have cl : ∀ G : Heap, Pfx H G → cells G bp 0 2 = some (.agg ⟨[.int .i64 u, .int .i64 v]⟩) := by
    intro G p
    have := (p.get hlH).trans hP
    simp [cells, this]
  have hlen : ∀ (G : Heap) (C : Blk), (G ++ [C]).length = G.length + 1 := fun G C => by simp
  have c0 := cl H (Pfx.refl H)
  have hG : ∀ G : Heap, Pfx H G → G[yb]? = some (⟨126, vints l⟩ : Blk) := fun G p => (p.get hlY).trans hD
  rcases Nat.eq_zero_or_pos n with h0 | h0
  · subst h0
    have : l = [] := List.length_eq_zero_iff.1 (by omega)
    subst this
    have c1 := cl _ ((Pfx.refl H).snoc (C := (⟨126, []⟩ : Blk)))
    have q1 := apA (H ++ [(⟨126, []⟩ : Blk)]) H.length (by omega) (by simp) (hG _ (Pfx.refl H).snoc)
    have q2 := apA (H ++ [(⟨126, []⟩ : Blk)] ++ [(⟨126, [.int .i64 u, .int .i64 v]⟩ : Blk)]) H.length (by omega) (by simp) (hG _ (Pfx.refl H).snoc.snoc)
    have q3 := apA (H ++ [(⟨126, [.int .i64 u, .int .i64 v]⟩ : Blk)] ++ [(⟨126, []⟩ : Blk)]) (H.length + 1) (by omega) (by simp) (hG _ (Pfx.refl H).snoc.snoc)
    have q4 := apC (H ++ [(⟨126, []⟩ : Blk)] ++ [(⟨126, [.int .i64 u, .int .i64 v]⟩ : Blk)]) H.length (H.length + 1) (by simp) (by omega) (by simp)
    have q5 := apC (H ++ [(⟨126, [.int .i64 u, .int .i64 v]⟩ : Blk)] ++ [(⟨126, []⟩ : Blk)]) (H.length + 1) H.length (by simp) (by omega) (by simp)
    simp only [if_true] at q1 q2 q3
    simp only [hlen, Nat.add_assoc, Nat.reduceAdd] at q4 q5
    refine WG_permW (e2 := (updO (updO (updO (updO (updO (updO (updO e (some 35) (.slice (some ⟨H.length, 0, none⟩) 0 0)) (some 36) (.slice (some ⟨yb, 0, none⟩) 0 yc)) (some 37) (.slice (some ⟨H.length, 0, none⟩) 0 0)) (some 38) (.agg ⟨[.int .i64 u, .int .i64 v]⟩)) (some 39) (.slice (some ⟨H.length + 1, 0, none⟩) 1 1)) (some 40) (.slice (some ⟨H.length + 2, 0, none⟩) 1 2)) (some 8) (.slice (some ⟨H.length + 2, 0, none⟩) 1 2))) (h2 := H ++ [(⟨126, []⟩ : Blk)] ++ [(⟨126, [.int .i64 u, .int .i64 v]⟩ : Blk)] ++ [(⟨126, [.int .i64 u, .int .i64 v]⟩ : Blk)]) [[0, 1, 2, 3, 4, 5, 6], [0, 1, 3, 2, 4, 5, 6], [0, 1, 3, 4, 2, 5, 6], [0, 3, 1, 2, 4, 5, 6], [0, 3, 1, 4, 2, 5, 6], [0, 3, 4, 1, 2, 5, 6], [1, 0, 2, 3, 4, 5, 6], [1, 0, 3, 2, 4, 5, 6], [1, 0, 3, 4, 2, 5, 6], [1, 3, 0, 2, 4, 5, 6], [1, 3, 0, 4, 2, 5, 6], [1, 3, 4, 0, 2, 5, 6], [3, 0, 1, 2, 4, 5, 6], [3, 0, 1, 4, 2, 5, 6], [3, 0, 4, 1, 2, 5, 6], [3, 1, 0, 2, 4, 5, 6], [3, 1, 0, 4, 2, 5, 6], [3, 1, 4, 0, 2, 5, 6], [3, 4, 0, 1, 2, 5, 6], [3, 4, 1, 0, 2, 5, 6]] (by kernel_rfl) (by kernel_rfl) (by kernel_rfl) ?_ ?_ ?_
    · (repeat' first | simp -dsimp (disch := first | omega | assumption | (refine OkS.sto ?_ (by omega); first | assumption | (refine OkS.sto ?_ (by omega); first | assumption | (refine OkS.sto ?_ (by omega); first | assumption | (refine OkS.sto ?_ (by omega); first | assumption | (refine OkS.sto ?_ (by omega); first | assumption | (refine OkS.sto ?_ (by omega); first | assumption)))))) | exact Pfx.refl _ | (apply Pfx.snoc; repeat (first | exact Pfx.refl _ | assumption | apply Pfx.snoc)) | with_unfolding_all exact of_eq_true (eq_true rfl) | (simp only [List.length_append, List.length_cons, List.length_nil]; omega)) only [↓wpre0, ↓wpre1, ↓reduceIte, Int.reduceToNat, Nat.reduceAdd, Nat.reduceMul, Nat.reduceEqDiff, wpost0, wpost1, wpost2, wpost3, wpost4, ite_self, ite_true, ite_false, if_true, if_false, bin_add, xbls54_0, xbls54_1, bin_lss, bin_mul, xbld126_0, tze126, xst126, un_not, bin_sub, xfad126_0, xst2, xfad126_1, xld126, fr127, wrap_int, wrap_u8, iteP_yes, iteP_no, g4, g7, c0, c1, q1, q2, q3, q4, q5, hlen, Nat.add_assoc, Nat.reduceAdd] | refine iteP_two (fun hc hd => ?_) (fun hc hd => ?_) | refine iteP_intro (fun hc => ?_) (fun hc => ?_))
    · intro σ hσ
      simp only [List.mem_cons, List.not_mem_nil, or_false] at hσ
      rcases hσ with rfl | rfl | rfl | rfl | rfl | rfl | rfl | rfl | rfl | rfl | rfl | rfl | rfl | rfl | rfl | rfl | rfl | rfl | rfl | rfl
      all_goals simp only [opsAt, List.filterMap_cons, List.filterMap_nil, List.getElem?_toArray, List.getElem?_cons_zero, List.getElem?_cons_succ]
      all_goals (repeat' first | simp -dsimp (disch := first | omega | assumption | (refine OkS.sto ?_ (by omega); first | assumption | (refine OkS.sto ?_ (by omega); first | assumption | (refine OkS.sto ?_ (by omega); first | assumption | (refine OkS.sto ?_ (by omega); first | assumption | (refine OkS.sto ?_ (by omega); first | assumption | (refine OkS.sto ?_ (by omega); first | assumption)))))) | exact Pfx.refl _ | (apply Pfx.snoc; repeat (first | exact Pfx.refl _ | assumption | apply Pfx.snoc)) | with_unfolding_all exact of_eq_true (eq_true rfl) | (simp only [List.length_append, List.length_cons, List.length_nil]; omega)) only [↓wpre0, ↓wpre1, ↓reduceIte, Int.reduceToNat, Nat.reduceAdd, Nat.reduceMul, Nat.reduceEqDiff, wpost0, wpost1, wpost2, wpost3, wpost4, ite_self, ite_true, ite_false, if_true, if_false, bin_add, xbls54_0, xbls54_1, bin_lss, bin_mul, xbld126_0, tze126, xst126, un_not, bin_sub, xfad126_0, xst2, xfad126_1, xld126, fr127, wrap_int, wrap_u8, iteP_yes, iteP_no, g4, g7, c0, c1, q1, q2, q3, q4, q5, hlen, Nat.add_assoc, Nat.reduceAdd] | refine iteP_two (fun hc hd => ?_) (fun hc hd => ?_) | refine iteP_intro (fun hc => ?_) (fun hc => ?_))
      all_goals simp only [List.append_assoc, List.cons_append, List.nil_append]
      all_goals first
        | exact equ_go (T := 126) 3 [0, 1, 2] [0, 1, 2] [[], [u, v], [u, v]] [[], [u, v], [u, v]] hro rfl rfl rfl rfl (by decide) (by decide) rfl (fun t n1 n2 n3 n4 n5 n6 n7 => by simp only [updO_some, upd_at, n1, n2, n3, n4, n5, n6, n7, ↓reduceIte, and_self]) (ren_new H _ 0 0 _ _ _ rfl) (ren_old H _ _ _ _ _ hlY) (ren_new H _ 0 0 _ _ _ rfl) (.agg _ _ (Rens.ints [u, v])) (ren_new H _ 1 1 _ _ _ rfl) (ren_new H _ 2 2 _ _ _ rfl) (ren_new H _ 2 2 _ _ _ rfl)
        | exact equ_go (T := 126) 3 [1, 0, 2] [1, 0, 2] [[u, v], [], [u, v]] [[], [u, v], [u, v]] hro rfl rfl rfl rfl (by decide) (by decide) rfl (fun t n1 n2 n3 n4 n5 n6 n7 => by simp only [updO_some, upd_at, n1, n2, n3, n4, n5, n6, n7, ↓reduceIte, and_self]) (ren_new H _ 1 0 _ _ _ rfl) (ren_old H _ _ _ _ _ hlY) (ren_new H _ 1 0 _ _ _ rfl) (.agg _ _ (Rens.ints [u, v])) (ren_new H _ 0 1 _ _ _ rfl) (ren_new H _ 2 2 _ _ _ rfl) (ren_new H _ 2 2 _ _ _ rfl)
    · refine k _ _ (H.length + 2) 2 (fun t h1 h2 => ?_) rfl (by omega) ?_ ?_
      · simp only [updO_some, upd_at, h2, show t ≠ 35 by omega, show t ≠ 36 by omega, show t ≠ 37 by omega, show t ≠ 38 by omega, show t ≠ 39 by omega, show t ≠ 40 by omega, ↓reduceIte]
      · exact get_last (by simp)
      · exact (Pfx.refl H).snoc.snoc.snoc
  · have hne : n ≠ 0 := by omega
    have c1 := cl _ ((Pfx.refl H).snoc (C := (⟨126, []⟩ : Blk)))
    have c2 := cl _ ((Pfx.refl H).snoc (C := (⟨126, []⟩ : Blk)) |>.snoc (C := (⟨126, vints l⟩ : Blk)))
    have q1 := apA (H ++ [(⟨126, []⟩ : Blk)]) H.length (by omega) (by simp) (hG _ (Pfx.refl H).snoc)
    have q2 := apA (H ++ [(⟨126, []⟩ : Blk)] ++ [(⟨126, [.int .i64 u, .int .i64 v]⟩ : Blk)]) H.length (by omega) (by simp) (hG _ (Pfx.refl H).snoc.snoc)
    have q3 := apA (H ++ [(⟨126, [.int .i64 u, .int .i64 v]⟩ : Blk)] ++ [(⟨126, []⟩ : Blk)]) (H.length + 1) (by omega) (by simp) (hG _ (Pfx.refl H).snoc.snoc)
    simp only [if_neg hne, hlen, Nat.add_assoc, Nat.reduceAdd] at q1 q2 q3
    have p1 := apB (H ++ [(⟨126, []⟩ : Blk)] ++ [(⟨126, vints l⟩ : Blk)] ++ [(⟨126, [.int .i64 u, .int .i64 v]⟩ : Blk)]) (H.length + 1) (H.length + 2) (by simp) (by omega) h0 (by simp)
    have p2 := apB (H ++ [(⟨126, []⟩ : Blk)] ++ [(⟨126, [.int .i64 u, .int .i64 v]⟩ : Blk)] ++ [(⟨126, vints l⟩ : Blk)]) (H.length + 2) (H.length + 1) (by simp) (by omega) h0 (by simp)
    have p3 := apB (H ++ [(⟨126, [.int .i64 u, .int .i64 v]⟩ : Blk)] ++ [(⟨126, []⟩ : Blk)] ++ [(⟨126, vints l⟩ : Blk)]) (H.length + 2) H.length (by simp) (by omega) h0 (by simp)
    rw [show (H ++ [(⟨126, []⟩ : Blk)] ++ [(⟨126, vints l⟩ : Blk)] ++ [(⟨126, [.int .i64 u, .int .i64 v]⟩ : Blk)]).set (H.length + 1) (⟨126, []⟩ : Blk) = H ++ [(⟨126, []⟩ : Blk)] ++ [(⟨126, []⟩ : Blk)] ++ [(⟨126, [.int .i64 u, .int .i64 v]⟩ : Blk)] from by simp [List.set_append]] at p1
    rw [show (H ++ [(⟨126, []⟩ : Blk)] ++ [(⟨126, [.int .i64 u, .int .i64 v]⟩ : Blk)] ++ [(⟨126, vints l⟩ : Blk)]).set (H.length + 2) (⟨126, []⟩ : Blk) = H ++ [(⟨126, []⟩ : Blk)] ++ [(⟨126, [.int .i64 u, .int .i64 v]⟩ : Blk)] ++ [(⟨126, []⟩ : Blk)] from by simp [List.set_append]] at p2
    rw [show (H ++ [(⟨126, [.int .i64 u, .int .i64 v]⟩ : Blk)] ++ [(⟨126, []⟩ : Blk)] ++ [(⟨126, vints l⟩ : Blk)]).set (H.length + 2) (⟨126, []⟩ : Blk) = H ++ [(⟨126, [.int .i64 u, .int .i64 v]⟩ : Blk)] ++ [(⟨126, []⟩ : Blk)] ++ [(⟨126, []⟩ : Blk)] from by simp [List.set_append]] at p3
    simp only [hlen, Nat.add_assoc, Nat.reduceAdd] at p1 p2 p3
    refine WG_permW (e2 := (updO (updO (updO (updO (updO (updO (updO e (some 35) (.slice (some ⟨H.length, 0, none⟩) 0 0)) (some 36) (.slice (some ⟨yb, 0, none⟩) n yc)) (some 37) (.slice (some ⟨H.length + 1, 0, none⟩) n (n + 1))) (some 38) (.agg ⟨[.int .i64 u, .int .i64 v]⟩)) (some 39) (.slice (some ⟨H.length + 2, 0, none⟩) 1 1)) (some 40) (.slice (some ⟨H.length + 3, 0, none⟩) (n + 1) (n + 2))) (some 8) (.slice (some ⟨H.length + 3, 0, none⟩) (n + 1) (n + 2)))) (h2 := H ++ [(⟨126, []⟩ : Blk)] ++ [(⟨126, []⟩ : Blk)] ++ [(⟨126, [.int .i64 u, .int .i64 v]⟩ : Blk)] ++ [(⟨126, vints (l ++ [u, v])⟩ : Blk)]) [[0, 1, 2, 3, 4, 5, 6], [0, 1, 3, 2, 4, 5, 6], [0, 1, 3, 4, 2, 5, 6], [0, 3, 1, 2, 4, 5, 6], [0, 3, 1, 4, 2, 5, 6], [0, 3, 4, 1, 2, 5, 6], [1, 0, 2, 3, 4, 5, 6], [1, 0, 3, 2, 4, 5, 6], [1, 0, 3, 4, 2, 5, 6], [1, 3, 0, 2, 4, 5, 6], [1, 3, 0, 4, 2, 5, 6], [1, 3, 4, 0, 2, 5, 6], [3, 0, 1, 2, 4, 5, 6], [3, 0, 1, 4, 2, 5, 6], [3, 0, 4, 1, 2, 5, 6], [3, 1, 0, 2, 4, 5, 6], [3, 1, 0, 4, 2, 5, 6], [3, 1, 4, 0, 2, 5, 6], [3, 4, 0, 1, 2, 5, 6], [3, 4, 1, 0, 2, 5, 6]] (by kernel_rfl) (by kernel_rfl) (by kernel_rfl) ?_ ?_ ?_
    · (repeat' first | simp -dsimp (disch := first | omega | assumption | (refine OkS.sto ?_ (by omega); first | assumption | (refine OkS.sto ?_ (by omega); first | assumption | (refine OkS.sto ?_ (by omega); first | assumption | (refine OkS.sto ?_ (by omega); first | assumption | (refine OkS.sto ?_ (by omega); first | assumption | (refine OkS.sto ?_ (by omega); first | assumption)))))) | exact Pfx.refl _ | (apply Pfx.snoc; repeat (first | exact Pfx.refl _ | assumption | apply Pfx.snoc)) | with_unfolding_all exact of_eq_true (eq_true rfl) | (simp only [List.length_append, List.length_cons, List.length_nil]; omega)) only [↓wpre0, ↓wpre1, ↓reduceIte, Int.reduceToNat, Nat.reduceAdd, Nat.reduceMul, Nat.reduceEqDiff, wpost0, wpost1, wpost2, wpost3, wpost4, ite_self, ite_true, ite_false, if_true, if_false, bin_add, xbls54_0, xbls54_1, bin_lss, bin_mul, xbld126_0, tze126, xst126, un_not, bin_sub, xfad126_0, xst2, xfad126_1, xld126, fr127, wrap_int, wrap_u8, iteP_yes, iteP_no, g4, g7, c0, c1, c2, q1, q2, q3, p1, p2, p3, hlen, Nat.add_assoc, Nat.reduceAdd] | refine iteP_two (fun hc hd => ?_) (fun hc hd => ?_) | refine iteP_intro (fun hc => ?_) (fun hc => ?_))
    · intro σ hσ
      simp only [List.mem_cons, List.not_mem_nil, or_false] at hσ
      rcases hσ with rfl | rfl | rfl | rfl | rfl | rfl | rfl | rfl | rfl | rfl | rfl | rfl | rfl | rfl | rfl | rfl | rfl | rfl | rfl | rfl
      all_goals simp only [opsAt, List.filterMap_cons, List.filterMap_nil, List.getElem?_toArray, List.getElem?_cons_zero, List.getElem?_cons_succ]
      all_goals (repeat' first | simp -dsimp (disch := first | omega | assumption | (refine OkS.sto ?_ (by omega); first | assumption | (refine OkS.sto ?_ (by omega); first | assumption | (refine OkS.sto ?_ (by omega); first | assumption | (refine OkS.sto ?_ (by omega); first | assumption | (refine OkS.sto ?_ (by omega); first | assumption | (refine OkS.sto ?_ (by omega); first | assumption)))))) | exact Pfx.refl _ | (apply Pfx.snoc; repeat (first | exact Pfx.refl _ | assumption | apply Pfx.snoc)) | with_unfolding_all exact of_eq_true (eq_true rfl) | (simp only [List.length_append, List.length_cons, List.length_nil]; omega)) only [↓wpre0, ↓wpre1, ↓reduceIte, Int.reduceToNat, Nat.reduceAdd, Nat.reduceMul, Nat.reduceEqDiff, wpost0, wpost1, wpost2, wpost3, wpost4, ite_self, ite_true, ite_false, if_true, if_false, bin_add, xbls54_0, xbls54_1, bin_lss, bin_mul, xbld126_0, tze126, xst126, un_not, bin_sub, xfad126_0, xst2, xfad126_1, xld126, fr127, wrap_int, wrap_u8, iteP_yes, iteP_no, g4, g7, c0, c1, c2, q1, q2, q3, p1, p2, p3, hlen, Nat.add_assoc, Nat.reduceAdd] | refine iteP_two (fun hc hd => ?_) (fun hc hd => ?_) | refine iteP_intro (fun hc => ?_) (fun hc => ?_))
      all_goals simp only [List.append_assoc, List.cons_append, List.nil_append]
      all_goals first
        | exact equ_go (T := 126) 4 [0, 1, 2, 3] [0, 1, 2, 3] [[], [], [u, v], l ++ [u, v]] [[], [], [u, v], l ++ [u, v]] hro rfl rfl rfl rfl (by decide) (by decide) rfl (fun t n1 n2 n3 n4 n5 n6 n7 => by simp only [updO_some, upd_at, n1, n2, n3, n4, n5, n6, n7, ↓reduceIte, and_self]) (ren_new H _ 0 0 _ _ _ rfl) (ren_old H _ _ _ _ _ hlY) (ren_new H _ 1 1 _ _ _ rfl) (.agg _ _ (Rens.ints [u, v])) (ren_new H _ 2 2 _ _ _ rfl) (ren_new H _ 3 3 _ _ _ rfl) (ren_new H _ 3 3 _ _ _ rfl)
        | exact equ_go (T := 126) 4 [0, 2, 1, 3] [0, 2, 1, 3] [[], [u, v], [], l ++ [u, v]] [[], [], [u, v], l ++ [u, v]] hro rfl rfl rfl rfl (by decide) (by decide) rfl (fun t n1 n2 n3 n4 n5 n6 n7 => by simp only [updO_some, upd_at, n1, n2, n3, n4, n5, n6, n7, ↓reduceIte, and_self]) (ren_new H _ 0 0 _ _ _ rfl) (ren_old H _ _ _ _ _ hlY) (ren_new H _ 2 1 _ _ _ rfl) (.agg _ _ (Rens.ints [u, v])) (ren_new H _ 1 2 _ _ _ rfl) (ren_new H _ 3 3 _ _ _ rfl) (ren_new H _ 3 3 _ _ _ rfl)
        | exact equ_go (T := 126) 4 [2, 0, 1, 3] [1, 2, 0, 3] [[u, v], [], [], l ++ [u, v]] [[], [], [u, v], l ++ [u, v]] hro rfl rfl rfl rfl (by decide) (by decide) rfl (fun t n1 n2 n3 n4 n5 n6 n7 => by simp only [updO_some, upd_at, n1, n2, n3, n4, n5, n6, n7, ↓reduceIte, and_self]) (ren_new H _ 1 0 _ _ _ rfl) (ren_old H _ _ _ _ _ hlY) (ren_new H _ 2 1 _ _ _ rfl) (.agg _ _ (Rens.ints [u, v])) (ren_new H _ 0 2 _ _ _ rfl) (ren_new H _ 3 3 _ _ _ rfl) (ren_new H _ 3 3 _ _ _ rfl)
    · refine k _ _ (H.length + 3) (n + 2) (fun t h1 h2 => ?_) rfl (by omega) ?_ ?_
      · simp only [updO_some, upd_at, h2, show t ≠ 35 by omega, show t ≠ 36 by omega, show t ≠ 37 by omega, show t ≠ 38 by omega, show t ≠ 39 by omega, show t ≠ 40 by omega, ↓reduceIte]
      · exact get_last (by simp)
      · exact (Pfx.refl H).snoc.snoc.snoc.snoc
end Go.Proofs.Ytelogajobjflfaa.Sim
