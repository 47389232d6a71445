/- Rules by which simp runs the abstract machine. Lemmas only; no condition. -/
import Derived.Test.YteignhphimfmkaaSimM
set_option linter.unusedSimpArgs false
namespace Go.Proofs.Yteignhphimfmkaa.Sim
open Go Go.RowKit

variable {P : Program} {ro : Nat} {B : Base} {X : Ext}

theorem ov_tmp (e : Env) (t : Nat) : ov e (.tmp t) = e t := rfl
theorem ov_const (e : Env) (v : Value) : ov e (.const v) = v := rfl
theorem ov_func (e : Env) (f : FuncId) : ov e (.func f) = .func (.func f) ⟨[]⟩ ⟨[]⟩ := rfl
theorem updO_some (e : Env) (d : Nat) (v : Value) : updO e (some d) v = upd e d v := rfl
theorem updO_none (e : Env) (v : Value) : updO e none v = e := rfl
theorem upd_at (e : Env) (d : Nat) (v : Value) (i : Nat) : upd e d v i = if i = d then v else e i := rfl
theorem entry_at (args : List Value) (i : Nat) : entry args i = args.getD i undef := rfl
theorem wants_none (ops : Array Oper) (e : Env) (d : Option Nat) (op : Op) (t : TypeId) (p : String) (a : Array Edge) : wants ops e ⟨d, op, t, p, a, none⟩ = true := rfl
def gd (v : Value) (want : Bool) : Bool := match v with | .bool b => b == want | _ => false
theorem gd_bool (b want : Bool) : gd (.bool b) want = (b == want) := rfl
theorem gd_undef (want : Bool) : gd undef want = false := rfl
/-- A guard: the temporary that it looks at. -/
theorem WO_guard {dr : Bool} {ops : Array Oper} {d : Option Nat} {op : Op} {t : TypeId} {p : String} {a : Array Edge} {j : Nat} {want : Bool} {l : List Oper} {K : Env → Heap → Prop} {e : Env} {h : Heap} {g : Nat} (hg : (ops[j]?).bind (·.dst) = some g) :
    WO P ro X dr ops (⟨d, op, t, p, a, some (j, want)⟩ :: l) K e h ↔ if gd (e g) want = true then OP P ro X dr op e h (fun v h' => WO P ro X dr ops l K (updO e d v) h') else WO P ro X dr ops l K (updO e d undef) h := by
  have : wants ops e ⟨d, op, t, p, a, some (j, want)⟩ = gd (e g) want := by
    unfold wants gd
    simp only [hg]
    cases e g <;> rfl
  rw [WO_cons, this]

/-! ### Numbers -/
theorem wrap_int {n : Int} (h0 : -9223372036854775808 ≤ n) (h1 : n ≤ 9223372036854775807) : IntKind.i64.wrap n = n := by simp only [IntKind.wrap_i64]; omega
theorem wrap_u8 {n : Int} (h0 : 0 ≤ n) (h1 : n ≤ 255) : IntKind.u8.wrap n = n := by simp only [IntKind.wrap, IntKind.bits, IntKind.signed, Bool.false_and, Bool.false_eq_true, if_false]; omega
theorem wrap_u64 {n : Int} (h0 : 0 ≤ n) (h1 : n ≤ 18446744073709551615) : IntKind.u64.wrap n = n := by simp only [IntKind.wrap, IntKind.bits, IntKind.signed, Bool.false_and, Bool.false_eq_true, if_false]; omega
theorem wrap_u32 {n : Int} (h0 : 0 ≤ n) (h1 : n ≤ 4294967295) : IntKind.u32.wrap n = n := by simp only [IntKind.wrap, IntKind.bits, IntKind.signed, Bool.false_and, Bool.false_eq_true, if_false]; omega
def intT (P : Program) (t : TypeId) : Bool := match P.underlying t with | some (.int _) => true | _ => false
/-- A struct of two numbers. -/
def twoI (P : Program) (t : TypeId) : Bool :=
  match P.underlying t with
  | some (.struct fs) => (!P.stoodInHeld t && !P.eqGuardType P.depth t && aggT P t) &&
    (match fs.toList with
    | [f, g] => f.offset == 0 && g.offset == 1 && f.name != "_" && g.name != "_" && intT P f.type && intT P g.type
    | _ => false)
  | _ => false
theorem eqAgg_2 {t : TypeId} (h : twoI P t = true) {k : IntKind} {a b c d : Int} : eqAgg P t [.int k a, .int k b] [.int k c, .int k d] = some (decide (a = c) && decide (b = d)) := by
  unfold twoI at h
  unfold eqAgg
  split at h
  · rename_i fs hu
    rw [hu]
    simp only [Bool.and_eq_true] at h
    obtain ⟨hg, h⟩ := h
    split at h
    · rename_i f g hfs
      simp only [Bool.and_eq_true, beq_iff_eq, bne_iff_ne] at h
      obtain ⟨⟨⟨⟨⟨o1, o2⟩, n1⟩, n2⟩, i1⟩, i2⟩ := h
      have u1 : ∃ k1, P.underlying f.type = some (.int k1) := by unfold intT at i1; split at i1; exact ⟨_, by assumption⟩; cases i1
      have u2 : ∃ k1, P.underlying g.type = some (.int k1) := by unfold intT at i2; split at i2; exact ⟨_, by assumption⟩; cases i2
      obtain ⟨k1, u1⟩ := u1
      obtain ⟨k2, u2⟩ := u2
      simp only [hfs]
      rw [if_pos (by simpa using hg)]
      simp only [eqFs, n1, n2, ne_eq, not_false_eq_true, if_true, u1, u2, o1, o2, List.getElem?_cons_zero, List.getElem?_cons_succ]
      by_cases e1 : a = c
      · by_cases e2 : b = d <;> simp [e1, e2]
      · simp [e1]
    · cases h
  · cases h
theorem bin_eql2 {t : TypeId} (h : twoI P t = true) {k : IntKind} {a b c d : Int} : abin P .eql t (.agg ⟨[.int k a, .int k b]⟩) (.agg ⟨[.int k c, .int k d]⟩) = some (.bool (decide (a = c) && decide (b = d))) := by
  simp only [abin, eqAgg_2 h, Option.map_some]
theorem bin_neq2 {t : TypeId} (h : twoI P t = true) {k : IntKind} {a b c d : Int} : abin P .neq t (.agg ⟨[.int k a, .int k b]⟩) (.agg ⟨[.int k c, .int k d]⟩) = some (.bool !(decide (a = c) && decide (b = d))) := by
  simp only [abin, eqAgg_2 h, Option.map_some]
section num
variable (t : TypeId) (k : IntKind) (a b : Int)
theorem bin_add : abin P .add t (.int k a) (.int k b) = some (.int k (k.wrap (a + b))) := by simp [abin, rigid, pure?, binOp, Op.intArith]
theorem bin_sub : abin P .sub t (.int k a) (.int k b) = some (.int k (k.wrap (a - b))) := by simp [abin, rigid, pure?, binOp, Op.intArith]
theorem bin_mul : abin P .mul t (.int k a) (.int k b) = some (.int k (k.wrap (a * b))) := by simp [abin, rigid, pure?, binOp, Op.intArith]
theorem bin_quo (h : b ≠ 0) : abin P .quo t (.int k a) (.int k b) = some (.int k (k.wrap (a.tdiv b))) := by simp [abin, rigid, pure?, binOp, Op.intDiv, h]
theorem bin_rem (h : b ≠ 0) : abin P .rem t (.int k a) (.int k b) = some (.int k (a.tmod b)) := by simp [abin, rigid, pure?, binOp, Op.intDiv, h]
theorem bin_eql : abin P .eql t (.int k a) (.int k b) = some (.bool (decide (a = b))) := by
  simp [abin, rigid, pure?, binOp, Op.intCmp]; rfl
theorem bin_neq : abin P .neq t (.int k a) (.int k b) = some (.bool (decide (a ≠ b))) := by
  simp [abin, rigid, pure?, binOp, Op.intCmp]; rw [Bool.eq_iff_iff]; simp
theorem bin_lss : abin P .lss t (.int k a) (.int k b) = some (.bool (decide (a < b))) := by simp [abin, rigid, pure?, binOp, Op.intCmp]
theorem bin_leq : abin P .leq t (.int k a) (.int k b) = some (.bool (decide (a ≤ b))) := by simp [abin, rigid, pure?, binOp, Op.intCmp]
theorem bin_gtr : abin P .gtr t (.int k a) (.int k b) = some (.bool (decide (b < a))) := by simp [abin, rigid, pure?, binOp, Op.intCmp]
theorem bin_geq : abin P .geq t (.int k a) (.int k b) = some (.bool (decide (b ≤ a))) := by simp [abin, rigid, pure?, binOp, Op.intCmp]
theorem bin_shl (k2 : IntKind) (h : 0 ≤ b) : abin P .shl t (.int k a) (.int k2 b) = some (.int k (k.wrap (a * 2 ^ (min b.toNat k.bits)))) := by
  have : ¬ b < 0 := by omega
  simp [abin, rigid, pure?, binOp, Op.shift, this]
theorem bin_shr (k2 : IntKind) (h : 0 ≤ b) : abin P .shr t (.int k a) (.int k2 b) = some (.int k (a.fdiv (2 ^ (min b.toNat k.bits)))) := by
  have : ¬ b < 0 := by omega
  simp [abin, rigid, pure?, binOp, Op.shift, this]
theorem bin_or : abin P .or t (.int k a) (.int k b) = some (.int k (k.wrap ((BitVec.ofInt k.bits a ||| BitVec.ofInt k.bits b).toNat))) := by simp [abin, rigid, pure?, binOp, Op.intBits]
theorem bin_and : abin P .and t (.int k a) (.int k b) = some (.int k (k.wrap ((BitVec.ofInt k.bits a &&& BitVec.ofInt k.bits b).toNat))) := by simp [abin, rigid, pure?, binOp, Op.intBits]
theorem bin_xor : abin P .xor t (.int k a) (.int k b) = some (.int k (k.wrap ((BitVec.ofInt k.bits a ^^^ BitVec.ofInt k.bits b).toNat))) := by simp [abin, rigid, pure?, binOp, Op.intBits]
theorem run_eqb {w : World} (h : P.underlying t = some .bool) (a b : Bool) : (Op.equal t (.bool a) (.bool b)).run P w = .ok (a == b) w := by
  unfold Op.equal Op.maxDepth
  rw [show (10000 : Nat) = 9999 + 1 from rfl]
  unfold Op.equalIn
  simp [run_underlying h]
theorem bin_beql (h : P.underlying t = some .bool) (a b : Bool) : abin P .eql t (.bool a) (.bool b) = some (.bool (a == b)) := by
  simp only [abin, rigid, Bool.and_self, if_true, pure?, binOp, Sem.run_bind, run_eqb t h, Result.andThen]
  rfl
theorem bin_bneq (h : P.underlying t = some .bool) (a b : Bool) : abin P .neq t (.bool a) (.bool b) = some (.bool (a != b)) := by
  simp only [abin, rigid, Bool.and_self, if_true, pure?, binOp, Sem.run_bind, run_eqb t h, Result.andThen]
  rfl
theorem bin_seql (a b : ByteArray) : abin P .eql t (.string a) (.string b) = some (.bool (a.toList == b.toList)) := by simp [abin, rigid, pure?, binOp, Op.stringOp]
theorem bin_sneq (a b : ByteArray) : abin P .neq t (.string a) (.string b) = some (.bool (!(a.toList == b.toList))) := by simp [abin, rigid, pure?, binOp, Op.stringOp]
theorem bin_sadd (a b : ByteArray) (h : a.size + b.size ≤ 9223372036854775807) : abin P .add t (.string a) (.string b) = some (.string (a ++ b)) := by
  have : ¬ (((a.size + b.size : Nat) : Int) > IntKind.i64.max) := by simp only [IntKind.max, IntKind.bits, IntKind.signed]; omega
  simp only [abin, rigid, pure?, binOp, Op.stringOp]
  rw [if_neg this]
  simp [Sem.run_pure, rigid]
theorem un_not (b : Bool) : aun P .not (.bool b) = some (.bool (!b)) := by simp [aun, rigid, pure?, Op.unary]
theorem un_neg : aun P .neg (.int k a) = some (.int k (k.wrap (0 - a))) := by simp [aun, rigid, pure?, Op.unary, Op.intArith]
end num
/-! ### Conversions, by what the types are -/
theorem conv_int {h : Heap} {s d : TypeId} {u : TypeDesc} {k k' : IntKind} {n : Int} (h1 : P.underlying s = some u) (h2 : P.underlying d = some (.int k)) : aconv P h s d (.int k' n) = some (.int k (k.wrap n)) := by simp only [aconv, h1, h2]
theorem conv_str {h : Heap} {s d e : TypeId} {x : Value} {cs : List Value} {l : List UInt8} (h1 : P.underlying s = some (.slice e)) (h2 : P.underlying d = some .string) (h3 : byteT P e = true) (h4 : rowOf h x 1 = some cs) (h5 : bytesOf cs = some l) : aconv P h s d x = some (.string ⟨⟨l⟩⟩) := by
  cases x <;> simp only [rowOf] at h4 <;> first | (cases h4; done) | simp_all [aconv, rowOf]

/-! ### Texts and slices -/
def bt (s : ByteArray) (i : Int) : Int := ((s.data.toList.getD i.toNat 0).toNat : Int)
theorem bt_range (s : ByteArray) (i : Int) : 0 ≤ bt s i ∧ bt s i ≤ 255 := by
  unfold bt
  have := (s.data.toList.getD i.toNat 0).toNat_lt
  omega
theorem idx_str {t : TypeId} {s : ByteArray} {k : IntKind} {n : Int} (h : P.underlying t = some .string) (h0 : 0 ≤ n) (h1 : n < s.size) : idx P t (.string s) (.int k n) = some (.int .u8 (bt s n)) := by
  simp only [idx, h]
  rw [if_pos h0]
  have hlt : n.toNat < s.size := by omega
  rw [getElem?_pos s n.toNat hlt]
  simp only [Option.map_some, bt]
  rw [List.getD_eq_getElem?_getD, List.getElem?_eq_getElem (by simpa using hlt)]
  rfl
theorem len_str {t : TypeId} {s : ByteArray} {h : Heap} (hu : P.underlying t = some .string) : ablt P ro .len [t] [.string s] h = some (.int .i64 s.size, h) := by simp only [ablt, hu]
theorem len_slc {t e : TypeId} {a : Option Addr} {n c : Nat} {h : Heap} (hu : P.underlying t = some (.slice e)) : ablt P ro .len [t] [.slice a n c] h = some (.int .i64 n, h) := by simp only [ablt, hu]
theorem iadr_slc {t e : TypeId} {b o len cap s : Nat} {k : IntKind} {n : Int} (hu : P.underlying t = some (.slice e)) (hs : szT P e = some s) (h0 : 0 ≤ n) (h1 : n < len) : iadr P t (.slice (some ⟨b, o, none⟩) len cap) (.int k n) = some (.pointer (some ⟨b, o + n.toNat * s, none⟩)) := by
  simp only [iadr, hu, hs]
  rw [if_pos ⟨h0, h1⟩]; rfl
theorem slc_str {t : TypeId} {s : ByteArray} {h : Heap} {k k' : IntKind} {l q : Int} (hu : P.underlying t = some .string) (h0 : 0 ≤ l) (h1 : l ≤ q) (h2 : q ≤ s.size) : slc P ro h t (.string s) (some (.int k l)) (some (.int k' q)) none = some (.string (s.extract l.toNat q.toNat)) := by
  simp only [slc, hu, bnd, Option.isNone_none, if_true, Option.bind_some]
  rw [if_pos ⟨h0, h1, h2⟩]
theorem slc_str_lo {t : TypeId} {s : ByteArray} {h : Heap} {k : IntKind} {l : Int} (hu : P.underlying t = some .string) (h0 : 0 ≤ l) (h1 : l ≤ s.size) : slc P ro h t (.string s) (some (.int k l)) none none = some (.string (s.extract l.toNat s.size)) := by
  simp only [slc, hu, bnd, Option.isNone_none, if_true, Option.bind_some]
  rw [if_pos ⟨h0, h1, Int.le_refl _⟩]
  rfl
theorem slc_str_hi {t : TypeId} {s : ByteArray} {h : Heap} {k : IntKind} {q : Int} (hu : P.underlying t = some .string) (h0 : 0 ≤ q) (h1 : q ≤ s.size) : slc P ro h t (.string s) none (some (.int k q)) none = some (.string (s.extract 0 q.toNat)) := by
  simp only [slc, hu, bnd, Option.isNone_none, if_true, Option.bind_some]
  rw [if_pos ⟨Int.le_refl _, h0, h1⟩]
  rfl
theorem mm_maxI {k k' : IntKind} {x y : Int} : fold2 (mm true) (.int k x) [.int k' y] = some (.int k (max x y)) := by
  simp only [fold2, mm, if_true, Option.bind_some]
  congr 2
  simp only [Int.max_def]
  split <;> split <;> omega
theorem mm_minI {k k' : IntKind} {x y : Int} : fold2 (mm false) (.int k x) [.int k' y] = some (.int k (min x y)) := by
  simp only [fold2, mm, Bool.false_eq_true, if_false, Option.bind_some]
  congr 2
  simp only [Int.min_def]
  split <;> split <;> omega
theorem blt_max {ts : List TypeId} {h : Heap} {x : Value} {r : List Value} {v : Value} (hv : fold2 (mm true) x r = some v) : ablt P ro .max ts (x :: r) h = some (v, h) := by
  cases ts <;> simp only [ablt, hv] <;> rfl
theorem blt_min {ts : List TypeId} {h : Heap} {x : Value} {r : List Value} {v : Value} (hv : fold2 (mm false) x r = some v) : ablt P ro .min ts (x :: r) h = some (v, h) := by
  cases ts <;> simp only [ablt, hv] <;> rfl
theorem blt_maxI {ts : List TypeId} {h : Heap} {k k' : IntKind} {x y : Int} : ablt P ro .max ts [.int k x, .int k' y] h = some (.int k (max x y), h) := blt_max mm_maxI
theorem blt_minI {ts : List TypeId} {h : Heap} {k k' : IntKind} {x y : Int} : ablt P ro .min ts [.int k x, .int k' y] h = some (.int k (min x y), h) := blt_min mm_minI

/-! ### The end of a call -/
theorem fin1 {fn : Func} {h0 h : Heap} {e : Env} {t : Nat} (hr : fn.results = #[.tmp t]) (hf : flat (e t) = true) (ht : h.take h0.length = h0) : fin P fn h0 e h = some (e t, h0) := by
  simp only [fin, hr, List.map_cons, List.map_nil, resV, allSome, Option.map_some]
  exact congrArg some (Prod.ext rfl (if_pos ⟨hf, ht⟩))
theorem flat2 {a b : Value} (ha : flat a = true) (hb : flat b = true) (h1 : one a = true) (h2 : one b = true) : flat (.tuple ⟨[a, b]⟩) = true := by
  cases a <;> simp only [flat, one, Value.oneCell', Bool.false_eq_true] at ha h1 <;> cases b <;> simp only [flat, one, Value.oneCell', Bool.false_eq_true] at hb h2 <;> rfl
theorem take_self (h : Heap) : h.take h.length = h := List.take_length
theorem take_app (h t : Heap) : (h ++ t).take h.length = h := by simp
end Go.Proofs.Yteignhphimfmkaa.Sim
