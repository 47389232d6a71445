/- Texts as lists of bytes, in the form in which simp runs them. Lemmas only; no condition. -/
import Derived.Test.YteignhphimfmkaaSimW
import Derived.Laws.Strings
set_option linter.unusedSimpArgs false
set_option linter.unusedVariables false
namespace Go.Proofs.Yteignhphimfmkaa.Sim
open Go Go.RowKit

variable {P : Program} {ro : Nat} {B : Base} {X : Ext}
/-- A byte of a list. -/
def bth (l : List UInt8) (i : Nat) : Int := ((l.getD i 0).toNat : Int)
theorem bth_range (l : List UInt8) (i : Nat) : 0 ≤ bth l i ∧ bth l i ≤ 255 := by
  unfold bth
  have := (l.getD i 0).toNat_lt
  omega
theorem ba_size (l : List UInt8) : (ByteArray.mk ⟨l⟩).size = l.length := rfl
theorem ba_bt (l : List UInt8) (i : Int) : bt (ByteArray.mk ⟨l⟩) i = bth l i.toNat := rfl
theorem ba_eta (s : ByteArray) : s = ByteArray.mk ⟨s.data.toList⟩ := rfl
theorem ba_extract (l : List UInt8) (a b : Nat) : (ByteArray.mk ⟨l⟩).extract a b = ⟨⟨(l.drop a).take (b - a)⟩⟩ := by
  refine ByteArray.ext ?_
  rw [ByteArray.data_extract]
  refine Array.ext' ?_
  simp [List.take_drop]
theorem ba_append (l m : List UInt8) : (ByteArray.mk ⟨l⟩) ++ ⟨⟨m⟩⟩ = ⟨⟨l ++ m⟩⟩ := by
  refine ByteArray.ext ?_
  rw [ByteArray.data_append]
  refine Array.ext' ?_
  simp
theorem ba_toList (l : List UInt8) : (ByteArray.mk ⟨l⟩).toList = l := by
  exact ByteArray.toList_eq _
section st
variable {t : TypeId} {l m : List UInt8} {k k' : IntKind} {a b : Int} {h : Heap}
theorem idx_bl (hu : P.underlying t = some .string) (h0 : 0 ≤ a) (h1 : a < l.length) : idx P t (.string ⟨⟨l⟩⟩) (.int k a) = some (.int .u8 (bth l a.toNat)) := idx_str hu h0 h1
theorem len_bl (hu : P.underlying t = some .string) : ablt P ro .len [t] [.string ⟨⟨l⟩⟩] h = some (.int .i64 l.length, h) := len_str hu
theorem sl_bl (hu : P.underlying t = some .string) (h0 : 0 ≤ a) (h1 : a ≤ b) (h2 : b ≤ l.length) : slc P ro h t (.string ⟨⟨l⟩⟩) (some (.int k a)) (some (.int k' b)) none = some (.string ⟨⟨(l.drop a.toNat).take (b.toNat - a.toNat)⟩⟩) := by
  rw [slc_str (s := ⟨⟨l⟩⟩) hu h0 h1 h2, ba_extract]
theorem slo_bl (hu : P.underlying t = some .string) (h0 : 0 ≤ a) (h1 : a ≤ l.length) : slc P ro h t (.string ⟨⟨l⟩⟩) (some (.int k a)) none none = some (.string ⟨⟨l.drop a.toNat⟩⟩) := by
  rw [slc_str_lo (s := ⟨⟨l⟩⟩) hu h0 h1, ba_extract, List.take_of_length_le (by rw [List.length_drop, ba_size]; omega)]
theorem shi_bl (hu : P.underlying t = some .string) (h0 : 0 ≤ b) (h1 : b ≤ l.length) : slc P ro h t (.string ⟨⟨l⟩⟩) none (some (.int k b)) none = some (.string ⟨⟨l.take b.toNat⟩⟩) := by
  rw [slc_str_hi (s := ⟨⟨l⟩⟩) hu h0 h1, ba_extract, List.drop_zero, Nat.sub_zero]
theorem sadd_bl (h1 : l.length + m.length ≤ 9223372036854775807) : abin P .add t (.string ⟨⟨l⟩⟩) (.string ⟨⟨m⟩⟩) = some (.string ⟨⟨l ++ m⟩⟩) := by
  rw [bin_sadd t ⟨⟨l⟩⟩ ⟨⟨m⟩⟩ h1, ba_append]
theorem seql_bl : abin P .eql t (.string ⟨⟨l⟩⟩) (.string ⟨⟨m⟩⟩) = some (.bool (l == m)) := by
  rw [bin_seql, ba_toList, ba_toList]
theorem sneq_bl : abin P .neq t (.string ⟨⟨l⟩⟩) (.string ⟨⟨m⟩⟩) = some (.bool (!(l == m))) := by
  rw [bin_sneq, ba_toList, ba_toList]
end st
end Go.Proofs.Yteignhphimfmkaa.Sim
