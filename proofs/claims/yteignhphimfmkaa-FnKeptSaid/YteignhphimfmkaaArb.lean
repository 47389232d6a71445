/- Arguments that are slices of bytes. Lemmas only; no condition. -/
import Derived.Test.YteignhphimfmkaaArg
import Derived.Test.YteignhphimfmkaaAcc
set_option linter.unusedSimpArgs false
set_option linter.unusedVariables false
namespace Go.Proofs.Yteignhphimfmkaa.Sim
open Go Go.RowKit Go.ChangeShapes Go.WideShapes Go.Deep
theorem ArgS.vs {P : Program} {w : World} {v : Value} {n k : Nat} {L : List Value} {as : AS} {x : Nat → Value} (a : ArgS P w v n L as x) (hl : L.length = n * k) {h : Heap} {b : Nat} (hb : h[b]? = some ⟨0, as.L⟩) : VS b (b + 1) k h (x b) n L := by
  refine ⟨hl, ?_⟩
  rcases a.form with ⟨h0, hx⟩ | hx
  · exact .inl ⟨h0, hx b⟩
  · rw [a.cells] at hb
    exact .inr ⟨b, 0, n + 1, _, hx b, Nat.le_refl _, by omega, hb, by simp only [hl]; omega, fun j hj => by rw [Nat.zero_add]; exact vth_get (show j < L.length by omega)⟩
theorem bytes_of {L : List Value} (h : ∀ v ∈ L, ∃ b : UInt8, v = u8v b) : ∃ l : List UInt8, L = l.map u8v := by
  induction L with
  | nil => exact ⟨[], rfl⟩
  | cons v r ih =>
    obtain ⟨n, rfl⟩ := h _ (List.mem_cons_self ..)
    obtain ⟨l, rfl⟩ := ih fun v hv => h v (List.mem_cons_of_mem _ hv)
    exact ⟨n :: l, rfl⟩
theorem arg_bytes {H : Type} {enc : TypeId × Value → H} {P : Program} {w : World} {held : Bool} {t e : TypeId} {r : Reach} {b0 : Nat} {v : Value} {d : DataW H} {ps : List MemPlace} (hu : P.underlying t = some (.slice e)) (he : P.underlying e = some (.int .u8)) (hk : P.cellsOf e = 1)
    (hval : Value.okWide P w r b0 t v) (h : DataW.Trod enc P w 0 (fun _ => true) held t v d ps) :
    ∃ (n : Nat) (l : List UInt8) (as : AS) (x : Nat → Value), ArgS P w v n (l.map u8v) as x ∧ l.length = n ∧ (n = 0 ∨ ∃ elems sp, d = .slice elems sp ∧ elems.length = n) := by
  obtain ⟨n, L, as, x, h1, h2, h3, h4⟩ := arg_slice hu hk (by decide) (fun v => ∃ b : UInt8, v = u8v b) (fun v ⟨n, h⟩ => by rw [h]; rfl) (fun fuel cs x h j v hv => by
    obtain ⟨n, rfl, _, hw⟩ := DataW.trod_int he h
    match j, hv with
    | 0, hv =>
      simp only [List.getElem?_cons_zero, Option.some.injEq] at hv
      subst hv
      have hr : 0 ≤ n ∧ n ≤ 255 := by
        simp [Lit.wf, IntKind.min, IntKind.max, IntKind.signed, IntKind.bits] at hw
        omega
      refine ⟨UInt8.ofNat n.toNat, ?_⟩
      unfold u8v
      congr 1
      rw [UInt8.toNat_ofNat']
      omega
    | j + 1, hv => simp at hv) hval h
  obtain ⟨l, rfl⟩ := bytes_of h3
  exact ⟨n, l, as, x, h1, by rw [← Nat.mul_one n, ← h2, List.length_map], h4⟩
end Go.Proofs.Yteignhphimfmkaa.Sim
