/- Journals that are cut or bent: in plain Lean. Lemmas only; no condition. -/
import Derived.Test.YtikanmboimjhgaaDoorDrf
import Derived.Test.YtikanmboimjhgaaDoorDsc
set_option linter.unusedSimpArgs false
set_option linter.unusedVariables false
namespace Go.Proofs.YtikanmboimjhgaaDoor.Sim
open Go Go.RowKit
/-- Lines, each ended by a newline. -/
def unl : List (List UInt8) → List UInt8
  | [] => []
  | s :: r => s ++ 10 :: unl r
/-- A text without a byte. -/
def nob (c : UInt8) (s : List UInt8) : Prop := ∀ b ∈ s, b ≠ c
theorem nob_fnd {c : UInt8} {s : List UInt8} (h : nob c s) : fnd s c = false := by
  unfold fnd
  rw [idx_neg fun k q => h _ (List.mem_of_getElem? q) rfl]
  rfl
theorem fnd_nob {c : UInt8} {s : List UInt8} (h : fnd s c = false) : nob c s := by
  intro b hb e
  subst e
  obtain ⟨k, hk, e⟩ := List.getElem_of_mem hb
  have hg := Lib.indexByte_ge s b
  simp only [fnd, decide_eq_false_iff_not] at h
  exact Lib.indexByte_none (l := s) (c := b) (by omega) k (by rw [List.getElem?_eq_getElem hk, e])
/-- The first mark, behind a text without it. -/
theorem idx_app {c : UInt8} {a r : List UInt8} (h : nob c a) : Lib.indexByte (a ++ c :: r) c = a.length :=
  idx_eq (by simp) fun k hk q => by
    rw [List.getElem?_append_left hk] at q
    exact h _ (List.mem_of_getElem? q) rfl
theorem fnd_app {c : UInt8} {a r : List UInt8} (h : nob c a) : fnd (a ++ c :: r) c = true ∧ wrd (a ++ c :: r) c = a ∧ rst (a ++ c :: r) c = r := by
  have e := idx_app (r := r) h
  have e1 : fnd (a ++ c :: r) c = true := by unfold fnd; rw [e]; exact decide_eq_true (by omega)
  refine ⟨e1, ?_, ?_⟩
  · rw [wrd, if_pos e1, e]; simp
  · rw [rst, if_pos e1, e]; simp
/-- A text is cut at its first mark. -/
theorem cut_at {c : UInt8} {t : List UInt8} : (nob c t ∧ Lib.indexByte t c < 0) ∨ ∃ a r, t = a ++ c :: r ∧ nob c a ∧ Lib.indexByte t c = a.length := by
  by_cases h : fnd t c = true
  · right
    simp only [fnd, decide_eq_true_eq] at h
    obtain ⟨k, hk⟩ : ∃ k : Nat, Lib.indexByte t c = k := ⟨_, (Int.toNat_of_nonneg h).symm⟩
    obtain ⟨h1, h2⟩ := Lib.indexByte_some hk
    obtain ⟨hl, he⟩ := List.getElem?_eq_some_iff.1 h1
    refine ⟨t.take k, t.drop (k + 1), ?_, fun b hb e => ?_, by rw [hk, List.length_take]; omega⟩
    · rw [← he, ← List.drop_eq_getElem_cons hl, List.take_append_drop]
    · subst e
      obtain ⟨j, hj, e⟩ := List.getElem_of_mem hb
      rw [List.length_take] at hj
      rw [List.getElem_take] at e
      exact h2 j (by omega) (by rw [List.getElem?_eq_getElem (by omega), e])
  · left
    have h' : fnd t c = false := by simpa using h
    refine ⟨fnd_nob h', ?_⟩
    simp only [fnd, decide_eq_false_iff_not] at h'
    omega
theorem lns_app {n : Nat} {a r : List UInt8} (h : nob 10 a) : lns (n + 1) (a ++ 10 :: r) = a :: lns n r := by
  rw [lns_some (idx_app h)]
  simp
theorem lns_no {n : Nat} {t : List UInt8} (h : nob 10 t) : lns n t = [] := by
  have := nob_fnd h
  simp only [fnd, decide_eq_false_iff_not] at this
  exact lns_none (by omega)
/-- The lines of a text are its beginning. -/
theorem lns_pre : ∀ (n : Nat) (t : List UInt8), ∃ r, t = unl (lns n t) ++ r
  | 0, t => ⟨t, by simp [lns, unl]⟩
  | n + 1, t => by
    rcases cut_at (c := 10) (t := t) with ⟨h, _⟩ | ⟨a, r, rfl, ha, _⟩
    · exact ⟨t, by rw [lns_no h]; simp [unl]⟩
    · obtain ⟨q, hq⟩ := lns_pre n r
      refine ⟨q, ?_⟩
      rw [lns_app ha, unl, List.append_assoc, List.cons_append, ← hq]
theorem lns_nob : ∀ (n : Nat) (t : List UInt8), ∀ s ∈ lns n t, nob 10 s
  | 0, t => by simp [lns]
  | n + 1, t => by
    rcases cut_at (c := 10) (t := t) with ⟨h, _⟩ | ⟨a, r, rfl, ha, _⟩
    · rw [lns_no h]; simp
    · rw [lns_app ha]
      intro s hs
      rcases List.mem_cons.1 hs with rfl | hs
      · exact ha
      · exact lns_nob n r s hs
theorem jok_eq {n : Int} {s : List UInt8} (h : jok n s = true) : s = dec (chk n (rst s 32)) ++ 32 :: rst s 32 := by
  simp only [jok, Bool.and_eq_true, beq_iff_eq] at h
  rcases cut_at (c := 32) (t := s) with ⟨q, _⟩ | ⟨a, r, rfl, ha, _⟩
  · rw [nob_fnd q] at h; cases h.1
  · obtain ⟨_, e1, e2⟩ := fnd_app (r := r) ha
    rw [e1, e2] at h
    rw [e2, ← h.2]
theorem unl_jr : ∀ (n : Int) (ls : List (List UInt8)), jr n (recS n ls).1 = unl (ls.take (recS n ls).1.length) ∧ (recS n ls).2 = (unl (ls.take (recS n ls).1.length)).length
  | n, [] => by simp [recS, jr, unl]
  | n, s :: r => by
    by_cases h : jok n s = true
    · obtain ⟨h1, h2⟩ := unl_jr (chk n (rst s 32)) r
      have e := jok_eq h
      have hr : recS n (s :: r) = (rst s 32 :: (recS (chk n (rst s 32)) r).1, s.length + 1 + (recS (chk n (rst s 32)) r).2) := by rw [recS, if_pos h]
      rw [hr]
      simp only [jr, List.length_cons, List.take_succ_cons, unl, h1]
      refine ⟨?_, ?_⟩
      · have e2 : jl n (rst s 32) = s ++ [10] := by
          conv => rhs; rw [e]
          simp [jl]
        rw [e2]
        simp
      · rw [h2]; simp; omega
    · have hr : recS n (s :: r) = ([], 0) := by rw [recS, if_neg h]
      rw [hr]
      simp [jr, unl]
theorem unl_take : ∀ (ls : List (List UInt8)) (k : Nat), ∃ r, unl ls = unl (ls.take k) ++ r
  | ls, 0 => ⟨unl ls, by simp [unl]⟩
  | [], k + 1 => ⟨[], by simp⟩
  | s :: l, k + 1 => by
    obtain ⟨r, hr⟩ := unl_take l k
    exact ⟨r, by simp only [List.take_succ_cons, unl, List.append_assoc, List.cons_append, ← hr]⟩
/-- What is recovered is a journal that the text begins with. -/
theorem rec_pre (n : Nat) (t : List UInt8) : (recS 0 (lns n t)).2 ≤ t.length ∧ jr 0 (recS 0 (lns n t)).1 = t.take (recS 0 (lns n t)).2 := by
  obtain ⟨h1, h2⟩ := unl_jr 0 (lns n t)
  obtain ⟨r, hr⟩ := lns_pre n t
  obtain ⟨q, hq⟩ := unl_take (lns n t) (recS 0 (lns n t)).1.length
  rw [h1]
  have e : t = unl ((lns n t).take (recS 0 (lns n t)).1.length) ++ (q ++ r) := by rw [← List.append_assoc, ← hq]; exact hr
  refine ⟨?_, ?_⟩
  · rw [h2]
    have := congrArg List.length e
    rw [List.length_append] at this
    omega
  · conv => rhs; arg 2; rw [e]
    rw [h2, List.take_left']
    rfl
theorem rst_sub {c : UInt8} {s : List UInt8} (h : nob 10 s) : nob 10 (rst s c) := by
  unfold rst
  split
  · exact fun b hb => h b (List.mem_of_mem_drop hb)
  · exact fun b hb => by cases hb
theorem recS_nob : ∀ (n : Int) (ls : List (List UInt8)), (∀ s ∈ ls, nob 10 s) → ∀ s ∈ (recS n ls).1, nob 10 s
  | n, [], _ => by simp [recS]
  | n, s :: r, h => by
    rw [recS]
    split
    · intro u hu
      rcases List.mem_cons.1 hu with rfl | hu
      · exact rst_sub (h s (List.mem_cons_self ..))
      · exact recS_nob _ r (fun v hv => h v (List.mem_cons_of_mem _ hv)) u hu
    · simp
theorem jgood_of {l : List (List UInt8)} (h1 : ∀ s ∈ l, nob 10 s) (h2 : (jr 0 l).length ≤ 6000) : jgood l = true := by
  unfold jgood
  rw [decide_eq_true h2, Bool.and_true, List.all_eq_true]
  intro s hs
  rw [nob_fnd (h1 s hs)]
  rfl
theorem rec_good {n : Nat} {t : List UInt8} (ht : t.length ≤ 6000) : jgood (recS 0 (lns n t)).1 = true := by
  obtain ⟨h1, h2⟩ := rec_pre n t
  refine jgood_of (recS_nob 0 _ (lns_nob n t)) ?_
  rw [h2, List.length_take]
  omega
/-- The lines of a journal. -/
def jls : Int → List (List UInt8) → List (List UInt8)
  | _, [] => []
  | n, s :: r => (dec (chk n s) ++ 32 :: s) :: jls (chk n s) r
theorem dec_nob {c : UInt8} (hc : c.toNat < 48) (n : Int) : nob c (dec n) := by
  unfold dec
  generalize n.toNat = u
  induction u using Nat.strongRecOn with
  | _ u ih =>
    rw [Lib.decDigits]
    split
    · intro b hb e
      rw [List.mem_singleton] at hb
      subst hb
      rw [← e, UInt8.toNat_ofNat'] at hc
      omega
    · intro b hb e
      rcases List.mem_append.1 hb with hb | hb
      · exact ih (u / 10) (by omega) b hb e
      · rw [List.mem_singleton] at hb
        subst hb
        rw [← e, UInt8.toNat_ofNat'] at hc
        omega
theorem jls_unl : ∀ (n : Int) (l : List (List UInt8)), jr n l = unl (jls n l)
  | n, [] => rfl
  | n, s :: r => by
    rw [jr, jls, unl, jls_unl (chk n s) r]
    simp [jl]
theorem jls_nob : ∀ (n : Int) (l : List (List UInt8)), (∀ s ∈ l, nob 10 s) → ∀ s ∈ jls n l, nob 10 s
  | n, [], _ => by simp [jls]
  | n, s :: r, h => by
    intro u hu
    rw [jls] at hu
    rcases List.mem_cons.1 hu with rfl | hu
    · intro b hb
      rcases List.mem_append.1 hb with hb | hb
      · exact dec_nob (by decide) _ b hb
      · rcases List.mem_cons.1 hb with rfl | hb
        · decide
        · exact h s (List.mem_cons_self ..) b hb
    · exact jls_nob _ r (fun v hv => h v (List.mem_cons_of_mem _ hv)) u hu
theorem jls_rec : ∀ (n : Int) (l : List (List UInt8)) (k : Nat), (recS n ((jls n l).take k)).1 = l.take k
  | n, [], k => by simp [jls, recS]
  | n, s :: r, 0 => by simp [recS]
  | n, s :: r, k + 1 => by
    obtain ⟨e0, e1, e2⟩ := fnd_app (r := s) (dec_nob (c := 32) (by decide) (chk n s))
    have hj : jok n (dec (chk n s) ++ 32 :: s) = true := by
      unfold jok
      rw [e0, e1, e2]
      simp
    rw [jls, List.take_succ_cons, recS, if_pos hj, e2, List.take_succ_cons, jls_rec (chk n s) r k]
theorem jls_len : ∀ (n : Int) (l : List (List UInt8)), (jls n l).length = l.length
  | n, [] => rfl
  | n, s :: r => by simp [jls, jls_len (chk n s) r]
theorem count_nob {s : List UInt8} (h : nob 10 s) : s.count 10 = 0 := List.count_eq_zero.2 fun q => h 10 q rfl
/-- The lines of lines that are cut. -/
theorem lns_take : ∀ (ls : List (List UInt8)) (a n : Nat), (∀ s ∈ ls, nob 10 s) → ((unl ls).take a).length < n → lns n ((unl ls).take a) = ls.take (((unl ls).take a).count 10) ∧ ((unl ls).take a).count 10 ≤ ls.length
  | [], a, n, _, _ => by
    have : nob 10 ([] : List UInt8) := fun b hb => by cases hb
    simp [unl, lns_no this]
  | s :: r, a, n, h, hn => by
    have hs := h s (List.mem_cons_self ..)
    by_cases q : a ≤ s.length
    · have e : (unl (s :: r)).take a = s.take a := by rw [unl, List.take_append_of_le_length q]
      have hb : nob 10 (s.take a) := fun b hb => hs b (List.mem_of_mem_take hb)
      rw [e, lns_no hb, count_nob hb]
      simp
    · obtain ⟨c, rfl⟩ : ∃ c, a = s.length + (c + 1) := ⟨a - s.length - 1, by omega⟩
      have e : (unl (s :: r)).take (s.length + (c + 1)) = s ++ 10 :: (unl r).take c := by rw [unl, List.take_length_add_append, List.take_succ_cons]
      rw [e] at hn ⊢
      obtain ⟨m, rfl⟩ : ∃ m, n = m + 1 := ⟨n - 1, by omega⟩
      rw [List.length_append, List.length_cons] at hn
      obtain ⟨h1, h2⟩ := lns_take r c m (fun v hv => h v (List.mem_cons_of_mem _ hv)) (by omega)
      rw [lns_app hs, h1, List.count_append, count_nob hs, List.count_cons_self, Nat.zero_add, List.take_succ_cons, List.length_cons]
      exact ⟨rfl, by omega⟩
/-- What is recovered of a journal that is cut. -/
theorem rec_cut {l : List (List UInt8)} (h : ∀ s ∈ l, nob 10 s) (a n : Nat) (hn : ((jr 0 l).take a).length < n) : (recS 0 (lns n ((jr 0 l).take a))).1 = l.take (((jr 0 l).take a).count 10) ∧ ((jr 0 l).take a).count 10 ≤ l.length := by
  rw [jls_unl] at hn ⊢
  obtain ⟨h1, h2⟩ := lns_take (jls 0 l) a n (jls_nob 0 l h) hn
  rw [jls_len] at h2
  exact ⟨by rw [h1, jls_rec], h2⟩
theorem lns_more : ∀ (n m : Nat) (a c : List UInt8), a.length < n → a.length + c.length < m → ∃ r, lns m (a ++ c) = lns n a ++ r
  | 0, m, a, c, h, _ => by omega
  | n + 1, m, a, c, h, hm => by
    rcases cut_at (c := 10) (t := a) with ⟨q, _⟩ | ⟨u, r, rfl, hu, _⟩
    · exact ⟨lns m (a ++ c), by rw [lns_no q]; rfl⟩
    · obtain ⟨k, rfl⟩ : ∃ k, m = k + 1 := ⟨m - 1, by omega⟩
      rw [List.length_append, List.length_cons] at h hm
      obtain ⟨z, hz⟩ := lns_more n k r c (by omega) (by omega)
      refine ⟨z, ?_⟩
      rw [lns_app hu, List.append_assoc, List.cons_append, lns_app hu, hz]
      rfl
theorem recS_more : ∀ (n : Int) (a b : List (List UInt8)), (recS n a).2 ≤ (recS n (a ++ b)).2
  | n, [], b => by simp [recS]
  | n, s :: r, b => by
    rw [List.cons_append, recS, recS]
    split
    · have := recS_more (chk n (rst s 32)) r b
      simp only
      omega
    · exact Nat.le_refl _
/-- More text, no less journal. -/
theorem rec_more {a c : List UInt8} {n m : Nat} (hn : a.length < n) (hm : a.length + c.length < m) : (recS 0 (lns n a)).2 ≤ (recS 0 (lns m (a ++ c))).2 := by
  obtain ⟨r, hr⟩ := lns_more n m a c hn hm
  rw [hr]
  exact recS_more 0 _ _
end Go.Proofs.YtikanmboimjhgaaDoor.Sim
