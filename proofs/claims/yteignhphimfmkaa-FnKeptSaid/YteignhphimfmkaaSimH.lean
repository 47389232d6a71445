/- That conversions, cuts, addresses and builtins of the abstract machine stand for those of the model. Lemmas only; no condition. -/
import Derived.Test.YteignhphimfmkaaSimG
import Derived.Laws.BytesString
import Derived.Laws.ComplexArith
set_option linter.unusedSimpArgs false
namespace Go.Proofs.Yteignhphimfmkaa.Sim
open Go Go.RowKit

variable {P : Program} {ro : Nat} {B : Base}

/-- A value of the abstract machine is met, the world but for draws as it was. -/
def Met (P : Program) (ro : Nat) (ρ : List Loc) (v : Value) (w : World) (s : Sem Value) : Prop := ∃ v', (∃ n, s.run P w = .ok v' (w.drewN n)) ∧ VR P ro ρ v v'
theorem SR.drewN {ρ : List Loc} {h : Heap} {w : World} (s : SR P ro B ρ h w) (n : Nat) : SR P ro B ρ h (w.drewN n) := s.same (fun _ _ _ _ _ _ => rfl) fun _ _ => rfl
theorem below_drewN {B : Nat} (w : World) (n : Nat) : Below B w (w.drewN n) := ⟨rfl, rfl, rfl, Nat.le_refl _, fun _ _ => rfl⟩
theorem Met.fine {ρ : List Loc} {h : Heap} {w : World} {v : Value} {s : Sem Value} (hm : Met P ro ρ v w s) (hs : SR P ro B ρ h w) : Fine P ro B ρ h w v s := by
  obtain ⟨v', ⟨n, hr⟩, hv⟩ := hm
  exact ⟨v', w.drewN n, ρ, hr, Pre.refl _, hs.drewN n, hv, below_drewN w n⟩
theorem Met.of {ρ : List Loc} {v v' : Value} {w : World} {s : Sem Value} (hr : s.run P w = .ok v' w) (hv : VR P ro ρ v v') : Met P ro ρ v w s := ⟨v', ⟨0, hr⟩, hv⟩

theorem neg_low (k : FloatKind) (b : Nat) : Op.negFloat k b % k.format.signWeight = b % k.format.signWeight := by
  unfold Op.negFloat Ieee.Format.signWeight
  rw [Nat.xor_mod_two_pow]
  simp
theorem nan_low (k : FloatKind) (b : Nat) : (k.decode b).isNaN = (if b % k.format.signWeight < k.format.binade then false else if b % k.format.signWeight < k.format.infRung then false else if b % k.format.signWeight = k.format.infRung then false else true) := by
  unfold FloatKind.decode Ieee.Format.read
  simp only
  split
  · rfl
  · split
    · rfl
    · split <;> rfl
theorem neg_nan (k : FloatKind) (b : Nat) : (k.decode (Op.negFloat k b)).isNaN = (k.decode b).isNaN := by rw [nan_low, nan_low, neg_low]
theorem cf_neg {k : FloatKind} {a b : Nat} (h : cf k b = a) : cf k (Op.negFloat k b) = cf k (Op.negFloat k a) := by
  rcases cf_same h with ⟨rfl, _⟩ | ⟨h1, h2⟩
  · rfl
  · rw [cf_nan (by rw [neg_nan]; exact h2), cf_nan (by rw [neg_nan]; exact h1)]
theorem aun_met {ρ : List Loc} {op : UnOp} {x x' v : Value} (h : aun P op x = some v) (hx : VR P ro ρ x x') (w : World) : Met P ro ρ v w (Op.unary op x') := by
  cases hx <;> (try (cases op <;> simp only [aun, rigid, Bool.false_eq_true, if_false] at h <;> cases h <;> done))
  case flt k b b' hb =>
    cases op <;> simp only [aun, rigid, Bool.false_eq_true, if_false] at h <;> cases h
    exact Met.of (by simp [Op.unary]) (.flt k _ _ (cf_neg hb))
  case cpx k a b a' b' ha hb =>
    cases op <;> simp only [aun, rigid, Bool.false_eq_true, if_false] at h <;> cases h
    exact Met.of (by simp [Op.unary]) (.cpx k _ _ _ _ (cf_neg ha) (cf_neg hb))
  all_goals
    have h' := h
    cases op <;> simp only [aun, rigid, if_true] at h' <;> (obtain ⟨hrig, hr⟩ := pure?_some h' (pu_un _ _ rfl); exact Met.of (hr w) (VR_rigid hrig))

theorem f2f {s k : FloatKind} {a a' r : Nat} (h : fconv s a k = some r) (ha : cf s a' = a) (w : World) : ∃ r', (∃ n, (Conv.floatToFloat s a' k).run P w = .ok (.float k r') (w.drewN n)) ∧ cf k r' = r := by
  unfold fconv at h
  rcases cf_same ha with ⟨rfl, hn⟩ | ⟨h1, h2⟩
  · rw [hn] at h
    simp only [Bool.false_eq_true, if_false, Option.map_eq_some_iff] at h
    obtain ⟨q, hq, rfl⟩ := h
    exact ⟨q, ⟨0, run_floatToFloat w hq⟩, rfl⟩
  · rw [if_pos h1] at h
    cases h
    by_cases hsk : s = k
    · subst hsk
      exact ⟨a', ⟨0, by simp [Conv.floatToFloat, d0]⟩, cf_nan h2⟩
    · obtain ⟨b2, q1, q2⟩ := choose_nan (P := P) (q := .nanConv k a') k (fun t => by cases k <;> rfl) rfl w
      obtain ⟨sg, f, hd⟩ := isNaN_iff.1 h2
      exact ⟨b2, ⟨1, by simp [Conv.floatToFloat, hsk, hd, q1, d1]⟩, q2⟩

theorem bytes_map : ∀ {cs : List Value} {l : List UInt8}, bytesOf cs = some l → ∃ ns : List Int, cs = ns.map (Value.int .u8) ∧ l = ns.map fun n => UInt8.ofNat n.toNat
  | [], l, h => by simp only [bytesOf] at h; cases h; exact ⟨[], rfl, rfl⟩
  | v :: r, l, h => by
    simp only [bytesOf, Option.bind_eq_some_iff, Option.map_eq_some_iff] at h
    obtain ⟨b, hb, l', hl, rfl⟩ := h
    obtain ⟨ns, rfl, rfl⟩ := bytes_map hl
    unfold byteOf' at hb
    split at hb
    · cases hb; rename_i n; exact ⟨n :: ns, rfl, rfl⟩
    · cases hb
theorem fold_push : ∀ (ns : List Int) (s : ByteArray), ns.foldl (fun (r : ByteArray) n => r.push (UInt8.ofNat n.toNat)) s = ⟨s.data ++ (ns.map fun n => UInt8.ofNat n.toNat).toArray⟩
  | [], s => by simp
  | n :: r, s => by
    rw [List.foldl_cons, fold_push r]
    simp [ByteArray.push]
theorem VRs_bytes {ρ : List Loc} : ∀ {ns : List Int} {ys : List Value}, VRs P ro ρ (ns.map (Value.int .u8)) ys → ys = ns.map (Value.int .u8)
  | [], _, .nil => rfl
  | n :: ns, _, .cons _ _ _ _ h t => by
    cases h
    rw [VRs_bytes t]; rfl

theorem cv_int_int {w : World} {src dst : TypeId} {u : TypeDesc} {k k' : IntKind} {n : Int} (h1 : P.underlying src = some u) (h2 : P.underlying dst = some (.int k)) : (convert src dst (.int k' n)).run P w = .ok (.int k (k.wrap n)) w := by
  cases u <;> simp [convert, run_underlying h1, run_underlying h2, Conv.intToInt]
theorem cv_int_float {w : World} {src dst : TypeId} {u : TypeDesc} {k : FloatKind} {k' : IntKind} {n : Int} (h1 : P.underlying src = some u) (h2 : P.underlying dst = some (.float k)) : (convert src dst (.int k' n)).run P w = .ok (.float k (k.nearest n)) w := by
  cases u <;> simp [convert, run_underlying h1, run_underlying h2, Conv.intToFloat]
theorem cv_int_str {w : World} {src dst : TypeId} {u : TypeDesc} {k' : IntKind} {n : Int} (h1 : P.underlying src = some u) (h2 : P.underlying dst = some .string) : (convert src dst (.int k' n)).run P w = (Conv.intToString n).run P w := by
  cases u <;> simp [convert, run_underlying h1, run_underlying h2]
theorem cv_str_str {w : World} {src dst : TypeId} {u : TypeDesc} {s : ByteArray} (h1 : P.underlying src = some u) (h2 : P.underlying dst = some .string) : (convert src dst (.string s)).run P w = .ok (.string s) w := by
  cases u <;> simp [convert, run_underlying h1, run_underlying h2]
theorem cv_float_float {w : World} {src dst : TypeId} {u : TypeDesc} {s k : FloatKind} {b : Nat} (h1 : P.underlying src = some u) (h2 : P.underlying dst = some (.float k)) : (convert src dst (.float s b)).run P w = (Conv.floatToFloat s b k).run P w := by
  cases u <;> simp [convert, run_underlying h1, run_underlying h2]
theorem cv_cpx {w : World} {src dst : TypeId} {u : TypeDesc} {s k : FloatKind} {a b : Nat} (h1 : P.underlying src = some u) (h2 : P.underlying dst = some (.complex k)) : (convert src dst (.complex s a b)).run P w = (Conv.complexToComplex s a b k).run P w := by
  cases u <;> simp [convert, run_underlying h1, run_underlying h2]
set_option maxHeartbeats 1000000 in
theorem aconv_met {ρ : List Loc} {h : Heap} {w : World} (hs : SR P ro B ρ h w) {src dst : TypeId} {x x' v : Value} (ha : aconv P h src dst x = some v) (hx : VR P ro ρ x x') : Met P ro ρ v w (convert src dst x') := by
  unfold aconv at ha
  split at ha
  all_goals try (cases ha; done)
  · rename_i u k k' n h1 h2
    cases hx; cases ha
    exact Met.of (cv_int_int h1 h2) (.int _ _)
  · rename_i u k k' n h1 h2
    cases hx; cases ha
    exact Met.of (v' := .float k (k.nearest n)) (cv_int_float h1 h2) (.flt k _ _ rfl)
  · rename_i u k s b h1 h2
    cases hx
    rename_i b' hb
    simp only [Option.map_eq_some_iff] at ha
    obtain ⟨n, hn, rfl⟩ := ha
    rcases cf_same hb with ⟨rfl, _⟩ | ⟨q1, q2⟩
    · exact Met.of (run_convert_float_int w src dst s k _ n (by rw [h1]; rfl) h2 hn) (.int k n)
    · obtain ⟨sg, f, hd⟩ := isNaN_iff.1 q1
      simp [floatToIntVal, hd, Ieee.Datum.toInt, Ieee.Datum.integral] at hn
  · rename_i u k s b h1 h2
    cases hx
    rename_i b' hb
    simp only [Option.map_eq_some_iff] at ha
    obtain ⟨r, hr, rfl⟩ := ha
    obtain ⟨r', ⟨n, q1⟩, q2⟩ := f2f (P := P) hr hb w
    exact ⟨.float k r', ⟨n, (cv_float_float h1 h2).trans q1⟩, .flt k _ _ q2⟩
  · rename_i u k s a b h1 h2
    cases hx
    rename_i a' b' ha' hb'
    simp only [Option.bind_eq_some_iff, Option.map_eq_some_iff] at ha
    obtain ⟨r, hr, r2, hr2, rfl⟩ := ha
    obtain ⟨p, ⟨n, q1⟩, q2⟩ := f2f (P := P) hr ha' w
    obtain ⟨p', ⟨n', q1'⟩, q2'⟩ := f2f (P := P) hr2 hb' (w.drewN n)
    refine ⟨.complex k p p', ⟨n + n', ?_⟩, .cpx k _ _ _ _ q2 q2'⟩
    rw [cv_cpx h1 h2]
    simp [Conv.complexToComplex, q1, q1', World.drewN_drewN]
  · rename_i u k n h1 h2
    cases hx; cases ha
    exact Met.of ((cv_int_str h1 h2).trans rfl) (.str _)
  · rename_i u s h1 h2
    cases hx; cases ha
    exact Met.of (cv_str_str h1 h2) (.str _)
  · rename_i e h1 h2 _ _
    split at ha
    · rename_i hbt
      simp only [Option.bind_eq_some_iff, Option.map_eq_some_iff] at ha
      obtain ⟨row, hrow, l, hl, rfl⟩ := ha
      obtain ⟨cs, c1, c2, c3, c4, ⟨a, n, c, rfl, rfl, c5⟩, c6⟩ := row_snd hs hrow hx
      have hu : P.underlying e = some (.int .u8) := by
        unfold byteT at hbt
        split at hbt
        · assumption
        · cases hbt
      obtain ⟨ns, rfl, rfl⟩ := bytes_map hl
      have hcs := VRs_bytes c1
      subst hcs
      refine Met.of ?_ (.str _)
      rw [run_convert_bytes_string w src dst e a _ c h1 hu h2]
      cases a with
      | none =>
        cases hx
        simp only [rowOf, Option.some.injEq] at hrow
        have hns : ns = [] := by cases ns with
          | nil => rfl
          | cons n r => simp at hrow
        subst hns
        rfl
      | some a =>
        have hld := c6 w rfl
        simp only [Builtin.firstCells, Nat.mul_one] at hld
        rw [run_bytesToString w a _ c ns hld, fold_push, show ByteArray.empty.data = #[] from rfl, Array.empty_append]
    · cases ha

theorem mm_met {ρ : List Loc} {m : Bool} {x x' y y' v : Value} (h : mm m x y = some v) (hx : VR P ro ρ x x') (hy : VR P ro ρ y y') (w : World) : Met P ro ρ v w (if m then Builtin.max2 x' y' else Builtin.min2 x' y') := by
  cases hx <;> cases hy <;> simp only [mm] at h <;> try (cases h; done)
  case int.int k n k' n' =>
    cases h
    cases m <;> exact Met.of (by simp [Builtin.max2, Builtin.min2]) (.int k _)
  case flt.flt k a a' ha k' b b' hb =>
    by_cases hk : k = k'
    · subst hk
      rw [if_pos rfl] at h
      cases h
      have ho := order_cf ha hb
      unfold fmax
      cases hc : k.format.order a b with
      | none =>
        rw [hc] at ho
        cases m
        · obtain ⟨b2, q1, q2⟩ := choose_nan (P := P) (q := .nanMinMax k false a' b') k (fun t => by cases k <;> rfl) rfl w
          exact ⟨.float k b2, ⟨1, by simp [Builtin.min2, ho, q1, d1]⟩, .flt k _ _ q2⟩
        · obtain ⟨b2, q1, q2⟩ := choose_nan (P := P) (q := .nanMinMax k true a' b') k (fun t => by cases k <;> rfl) rfl w
          exact ⟨.float k b2, ⟨1, by simp [Builtin.max2, ho, q1, d1]⟩, .flt k _ _ q2⟩
      | some o =>
        rw [hc] at ho
        have hna : (k.decode a).isNaN = false := by
          cases hq : (k.decode a).isNaN with
          | false => rfl
          | true => rw [order_nan_l hq] at hc; cases hc
        have hnb : (k.decode b).isNaN = false := by
          cases hq : (k.decode b).isNaN with
          | false => rfl
          | true => rw [order_nan_r hq] at hc; cases hc
        have ea : a' = a := by rcases cf_same ha with ⟨e, _⟩ | ⟨q, _⟩ <;> first | exact e.symm | (rw [hna] at q; cases q)
        have eb : b' = b := by rcases cf_same hb with ⟨e, _⟩ | ⟨q, _⟩ <;> first | exact e.symm | (rw [hnb] at q; cases q)
        subst ea; subst eb
        have ca := cf_not hna
        have cb := cf_not hnb
        cases o <;> cases m
        · exact Met.of (v' := .float k a') (by simp [Builtin.min2, ho]) (.flt k _ _ ca)
        · exact Met.of (v' := .float k b') (by simp [Builtin.max2, ho]) (.flt k _ _ cb)
        · refine Met.of (v' := .float k (if (k.decode a').neg then a' else b')) (by simp [Builtin.min2, ho]) (.flt k _ _ ?_)
          simp only [Bool.false_eq_true, if_false]
          split <;> assumption
        · refine Met.of (v' := .float k (if (k.decode a').neg then b' else a')) (by simp [Builtin.max2, ho]) (.flt k _ _ ?_)
          simp only [if_true]
          split <;> assumption
        · exact Met.of (v' := .float k b') (by simp [Builtin.min2, ho]) (.flt k _ _ cb)
        · exact Met.of (v' := .float k a') (by simp [Builtin.max2, ho]) (.flt k _ _ ca)
    · rw [if_neg hk] at h; cases h
theorem fold2_met {ρ : List Loc} {m : Bool} : ∀ {r r' : List Value} {x x' v : Value}, fold2 (mm m) x r = some v → VR P ro ρ x x' → VRs P ro ρ r r' → ∀ w : World, Met P ro ρ v w (r'.foldlM (fun a b => if m then Builtin.max2 a b else Builtin.min2 a b) x')
  | [], _, x, x', v, h, hx, .nil, w => by
    simp only [fold2] at h; cases h
    exact Met.of (by simp [Sem.run_pure]) hx
  | y :: r, _, x, x', v, h, hx, .cons _ y' _ r' hy t, w => by
    simp only [fold2, Option.bind_eq_some_iff] at h
    obtain ⟨z, hz, h⟩ := h
    obtain ⟨z', ⟨n, q1⟩, q2⟩ := mm_met hz hx hy w
    obtain ⟨v', ⟨n', p1⟩, p2⟩ := fold2_met h q2 t (w.drewN n)
    refine ⟨v', ⟨n + n', ?_⟩, p2⟩
    rw [List.foldlM_cons, Sem.run_bind, q1]
    simp only [Result.andThen]
    rw [p1, World.drewN_drewN]

theorem fieldOf_some {s : TypeId} {f : Nat} {q : Nat × TypeId × Nat} (h : fieldOf P s f = some q) : ∃ fs fl i d, P.underlying s = some (.struct fs) ∧ fs[f]? = some fl ∧ q = (fl.offset, fl.type, i.size) ∧ P.info? fl.type = some i ∧ P.underlying fl.type = some d := by
  unfold fieldOf at h
  split at h
  · rename_i fs hu
    simp only [Option.bind_eq_some_iff, Option.map_eq_some_iff] at h
    obtain ⟨fl, hf, n, hn, rfl⟩ := h
    obtain ⟨i, d, hi, rfl, hd⟩ := szT_some hn
    exact ⟨fs, fl, i, d, hu, hf, rfl, hi, hd⟩
  · cases h
theorem fadr_met {ρ : List Loc} {s : TypeId} {a a' v : Value} {f : Nat} (h : fadr P s a f = some v) (ha : VR P ro ρ a a') (w : World) : Met P ro ρ v w (Instr.fieldAt s a' f) := by
  cases ha <;> simp only [fadr] at h <;> try (cases h; done)
  rename_i b o L hL
  simp only [Option.bind_eq_some_iff] at h
  obtain ⟨q, hq, h⟩ := h
  split at h
  · cases h
  · rename_i h0
    cases h
    obtain ⟨fs, fl, i, d, hu, hf, rfl, hi, hd⟩ := fieldOf_some hq
    have h0' : ¬ i.size = 0 := h0
    have := VR.ptr (P := P) (ro := ro) b (o + fl.offset) L hL
    refine Met.of ?_ this
    simp [Instr.fieldAt, run_underlying hu, hf, Instr.sureAddr, fieldPlace, sizeOf, typeInfo, hi, h0', add_lit, Nat.add_assoc]
theorem part_met {ρ : List Loc} {t : TypeId} {cs cs' : List Value} {o n : Nat} {v : Value} (h : part' P t cs o n = some v) (hn : szT P t = some n) (hc : VRs P ro ρ cs cs') (w : World) : Met P ro ρ v w (part t ⟨cs'⟩ o) := by
  obtain ⟨i, d, hi, rfl, hd⟩ := szT_some hn
  unfold part' at h
  have hag := run_isAgg' hd w
  split at h
  · rename_i hA
    cases h
    rw [hA] at hag
    refine Met.of (v' := .agg ⟨(cs'.drop o).take i.size⟩) ?_ (.agg _ _ ((hc.drop o).take _))
    simp [part, hag, sizeOf, typeInfo, hi, List.extract_eq_take_drop]
  · rename_i hA
    have hA' : aggT P t = false := by simpa using hA
    rw [hA'] at hag
    obtain ⟨v', q1, q2⟩ := hc.get h
    refine Met.of (v' := v') ?_ q2
    simp [part, hag, q1]
theorem fld_met {ρ : List Loc} {s : TypeId} {x x' v : Value} {f : Nat} (h : fld P s x f = some v) (hx : VR P ro ρ x x') (w : World) : Met P ro ρ v w (Instr.field s x' f) := by
  cases hx <;> simp only [fld] at h <;> try (cases h; done)
  rename_i cs cs' hc
  simp only [Option.bind_eq_some_iff] at h
  obtain ⟨q, hq, h⟩ := h
  obtain ⟨fs, fl, i, d, hu, hf, rfl, hi, hd⟩ := fieldOf_some hq
  have hsz : szT P fl.type = some i.size := by unfold szT; rw [hd, hi]; rfl
  obtain ⟨v', ⟨n, q1⟩, q2⟩ := part_met h hsz hc w
  refine ⟨v', ⟨n, ?_⟩, q2⟩
  simp [Instr.field, run_underlying hu, hf, asAgg, q1]
theorem iadr_met {ρ : List Loc} {t : TypeId} {x x' i i' v : Value} (h : iadr P t x i = some v) (hx : VR P ro ρ x x') (hi : VR P ro ρ i i') (w : World) : Met P ro ρ v w (Instr.indexAt t x' i') := by
  unfold iadr at h
  split at h
  · rename_i k n
    cases hi
    split at h
    · rename_i e b o len cap hu
      split at h
      · rename_i hn
        simp only [Option.map_eq_some_iff] at h
        obtain ⟨sz, hsz, rfl⟩ := h
        obtain ⟨ie, d, hie, rfl, hd⟩ := szT_some hsz
        cases hx with
        | slc _ _ L _ _ cap' hL h1 h2 h3 =>
          have := VR.ptr (P := P) (ro := ro) b (o + n.toNat * ie.size) L hL
          refine Met.of ?_ this
          simp [Instr.indexAt, asIntOf, run_underlying hu, hn, sizeOf, typeInfo, hie, add_lit, Nat.add_assoc]
        | slz => omega
      · cases h
    · rename_i len e b o hu
      split at h
      · rename_i hn
        simp only [Option.map_eq_some_iff] at h
        obtain ⟨sz, hsz, rfl⟩ := h
        obtain ⟨ie, d, hie, rfl, hd⟩ := szT_some hsz
        cases hx with
        | ptr _ _ L hL =>
          have := VR.ptr (P := P) (ro := ro) b (o + n.toNat * ie.size) L hL
          refine Met.of ?_ this
          simp [Instr.indexAt, asIntOf, run_underlying hu, Instr.sureAddr, hn, sizeOf, typeInfo, hie, add_lit, Nat.add_assoc]
      · cases h
    · cases h
  · cases h
theorem idx_met {ρ : List Loc} {t : TypeId} {x x' i i' v : Value} (h : idx P t x i = some v) (hx : VR P ro ρ x x') (hi : VR P ro ρ i i') (w : World) : Met P ro ρ v w (Instr.index t x' i') := by
  unfold idx at h
  split at h
  · rename_i k n
    cases hi
    split at h
    · rename_i len e cs hu
      cases hx
      rename_i cs' hc
      split at h
      · rename_i hn
        simp only [Option.bind_eq_some_iff] at h
        obtain ⟨sz, hsz, h⟩ := h
        obtain ⟨v', ⟨m, q1⟩, q2⟩ := part_met h hsz hc w
        obtain ⟨ie, d, hie, rfl, hd⟩ := szT_some hsz
        refine ⟨v', ⟨m, ?_⟩, q2⟩
        simp [Instr.index, asIntOf, run_underlying hu, hn, sizeOf, typeInfo, hie, q1]
      · cases h
    · rename_i s hu
      cases hx
      split at h
      · rename_i hn
        simp only [Option.map_eq_some_iff] at h
        obtain ⟨c, hc, rfl⟩ := h
        refine Met.of ?_ (.int _ _)
        simp [Instr.index, asIntOf, run_underlying hu, hn, hc]
      · cases h
    · cases h
  · cases h
end Go.Proofs.Yteignhphimfmkaa.Sim
