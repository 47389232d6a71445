/- The rules of the calculus, type by type and function by function. Written by a program of this session; no condition. -/
import Derived.Test.YtbakaopgdcojfaaSimW
import Derived.Test.YtbakaopgdcojfaaSimT
set_option linter.unusedSimpArgs false
set_option linter.unusedVariables false
namespace Go.Proofs.Ytbakaopgdcojfaa.Sim
open Go Go.RowKit

theorem xld1 {h : Heap} {b o : Nat} : ld Try.prog h 1 (.pointer (some ⟨b, o, none⟩)) = cell h b o := ld_sc tsz1 tag1
theorem xst1 {ro : Nat} {h : Heap} {b o : Nat} {v : Value} : stv Try.prog ro h 1 (.pointer (some ⟨b, o, none⟩)) v = put ro h b o 1 v := stv_put tsz1
theorem xld2 {h : Heap} {b o : Nat} : ld Try.prog h 2 (.pointer (some ⟨b, o, none⟩)) = cell h b o := ld_sc tsz2 tag2
theorem xst2 {ro : Nat} {h : Heap} {b o : Nat} {v : Value} : stv Try.prog ro h 2 (.pointer (some ⟨b, o, none⟩)) v = put ro h b o 1 v := stv_put tsz2
theorem xld3 {h : Heap} {b o : Nat} : ld Try.prog h 3 (.pointer (some ⟨b, o, none⟩)) = cell h b o := ld_sc tsz3 tag3
theorem xst3 {ro : Nat} {h : Heap} {b o : Nat} {v : Value} : stv Try.prog ro h 3 (.pointer (some ⟨b, o, none⟩)) v = put ro h b o 1 v := stv_put tsz3
theorem xbeql4 (a b : Bool) : abin Try.prog .eql 4 (.bool a) (.bool b) = some (.bool (a == b)) := bin_beql 4 Try.underlying4 a b
theorem xbneq4 (a b : Bool) : abin Try.prog .neq 4 (.bool a) (.bool b) = some (.bool (a != b)) := bin_bneq 4 Try.underlying4 a b
theorem xld4 {h : Heap} {b o : Nat} : ld Try.prog h 4 (.pointer (some ⟨b, o, none⟩)) = cell h b o := ld_sc tsz4 tag4
theorem xst4 {ro : Nat} {h : Heap} {b o : Nat} {v : Value} : stv Try.prog ro h 4 (.pointer (some ⟨b, o, none⟩)) v = put ro h b o 1 v := stv_put tsz4
theorem xld5 {h : Heap} {b o : Nat} : ld Try.prog h 5 (.pointer (some ⟨b, o, none⟩)) = cell h b o := ld_sc tsz5 tag5
theorem xst5 {ro : Nat} {h : Heap} {b o : Nat} {v : Value} : stv Try.prog ro h 5 (.pointer (some ⟨b, o, none⟩)) v = put ro h b o 1 v := stv_put tsz5
theorem xld6 {h : Heap} {b o : Nat} : ld Try.prog h 6 (.pointer (some ⟨b, o, none⟩)) = cell h b o := ld_sc tsz6 tag6
theorem xst6 {ro : Nat} {h : Heap} {b o : Nat} {v : Value} : stv Try.prog ro h 6 (.pointer (some ⟨b, o, none⟩)) v = put ro h b o 1 v := stv_put tsz6
theorem xfad7_0 {b o : Nat} : fadr Try.prog 7 (.pointer (some ⟨b, o, none⟩)) 0 = some (.pointer (some ⟨b, o + 0, none⟩)) := fadr_of tfi7_0 (by decide)
theorem xfld7_0 {cs : List Value} : fld Try.prog 7 (.agg ⟨cs⟩) 0 = cs[0]? := fld_sc tfi7_0 tag2
theorem xfad7_1 {b o : Nat} : fadr Try.prog 7 (.pointer (some ⟨b, o, none⟩)) 1 = some (.pointer (some ⟨b, o + 1, none⟩)) := fadr_of tfi7_1 (by decide)
theorem xfld7_1 {cs : List Value} : fld Try.prog 7 (.agg ⟨cs⟩) 1 = cs[1]? := fld_sc tfi7_1 tag3
theorem xfad7_2 {b o : Nat} : fadr Try.prog 7 (.pointer (some ⟨b, o, none⟩)) 2 = some (.pointer (some ⟨b, o + 2, none⟩)) := fadr_of tfi7_2 (by decide)
theorem xfld7_2 {cs : List Value} : fld Try.prog 7 (.agg ⟨cs⟩) 2 = cs[2]? := fld_sc tfi7_2 tag4
theorem xfad7_3 {b o : Nat} : fadr Try.prog 7 (.pointer (some ⟨b, o, none⟩)) 3 = some (.pointer (some ⟨b, o + 3, none⟩)) := fadr_of tfi7_3 (by decide)
theorem xfld7_3 {cs : List Value} : fld Try.prog 7 (.agg ⟨cs⟩) 3 = cs[3]? := fld_sc tfi7_3 tag6
theorem xld7 {h : Heap} {b o : Nat} : ld Try.prog h 7 (.pointer (some ⟨b, o, none⟩)) = cells h b o 4 := ld_agg tsz7 tag7
theorem xst7 {ro : Nat} {h : Heap} {b o : Nat} {v : Value} : stv Try.prog ro h 7 (.pointer (some ⟨b, o, none⟩)) v = put ro h b o 4 v := stv_put tsz7
theorem xfad8_0 {b o : Nat} : fadr Try.prog 8 (.pointer (some ⟨b, o, none⟩)) 0 = some (.pointer (some ⟨b, o + 0, none⟩)) := fadr_of tfi8_0 (by decide)
theorem xfld8_0 {cs : List Value} : fld Try.prog 8 (.agg ⟨cs⟩) 0 = cs[0]? := fld_sc tfi8_0 tag2
theorem xfad8_1 {b o : Nat} : fadr Try.prog 8 (.pointer (some ⟨b, o, none⟩)) 1 = some (.pointer (some ⟨b, o + 1, none⟩)) := fadr_of tfi8_1 (by decide)
theorem xfld8_1 {cs : List Value} : fld Try.prog 8 (.agg ⟨cs⟩) 1 = cs[1]? := fld_sc tfi8_1 tag3
theorem xfad8_2 {b o : Nat} : fadr Try.prog 8 (.pointer (some ⟨b, o, none⟩)) 2 = some (.pointer (some ⟨b, o + 2, none⟩)) := fadr_of tfi8_2 (by decide)
theorem xfld8_2 {cs : List Value} : fld Try.prog 8 (.agg ⟨cs⟩) 2 = cs[2]? := fld_sc tfi8_2 tag4
theorem xfad8_3 {b o : Nat} : fadr Try.prog 8 (.pointer (some ⟨b, o, none⟩)) 3 = some (.pointer (some ⟨b, o + 3, none⟩)) := fadr_of tfi8_3 (by decide)
theorem xfld8_3 {cs : List Value} : fld Try.prog 8 (.agg ⟨cs⟩) 3 = cs[3]? := fld_sc tfi8_3 tag6
theorem xld8 {h : Heap} {b o : Nat} : ld Try.prog h 8 (.pointer (some ⟨b, o, none⟩)) = cells h b o 4 := ld_agg tsz8 tag8
theorem xst8 {ro : Nat} {h : Heap} {b o : Nat} {v : Value} : stv Try.prog ro h 8 (.pointer (some ⟨b, o, none⟩)) v = put ro h b o 4 v := stv_put tsz8
theorem xlen9 {ro : Nat} {s : ByteArray} {h : Heap} : ablt Try.prog ro .len [9] [.string s] h = some (.int .i64 s.size, h) := len_str Try.underlying9
theorem xidx9 {s : ByteArray} {k : IntKind} {n : Int} (h0 : 0 ≤ n) (h1 : n < s.size) : idx Try.prog 9 (.string s) (.int k n) = some (.int .u8 (bt s n)) := idx_str Try.underlying9 h0 h1
theorem xsl9 {ro : Nat} {s : ByteArray} {h : Heap} {k k' : IntKind} {l q : Int} (h0 : 0 ≤ l) (h1 : l ≤ q) (h2 : q ≤ s.size) : slc Try.prog ro h 9 (.string s) (some (.int k l)) (some (.int k' q)) none = some (.string (s.extract l.toNat q.toNat)) := slc_str Try.underlying9 h0 h1 h2
theorem xslo9 {ro : Nat} {s : ByteArray} {h : Heap} {k : IntKind} {l : Int} (h0 : 0 ≤ l) (h1 : l ≤ s.size) : slc Try.prog ro h 9 (.string s) (some (.int k l)) none none = some (.string (s.extract l.toNat s.size)) := slc_str_lo Try.underlying9 h0 h1
theorem xshi9 {ro : Nat} {s : ByteArray} {h : Heap} {k : IntKind} {q : Int} (h0 : 0 ≤ q) (h1 : q ≤ s.size) : slc Try.prog ro h 9 (.string s) none (some (.int k q)) none = some (.string (s.extract 0 q.toNat)) := slc_str_hi Try.underlying9 h0 h1
theorem xld9 {h : Heap} {b o : Nat} : ld Try.prog h 9 (.pointer (some ⟨b, o, none⟩)) = cell h b o := ld_sc tsz9 tag9
theorem xst9 {ro : Nat} {h : Heap} {b o : Nat} {v : Value} : stv Try.prog ro h 9 (.pointer (some ⟨b, o, none⟩)) v = put ro h b o 1 v := stv_put tsz9
theorem xlen10 {ro : Nat} {s : ByteArray} {h : Heap} : ablt Try.prog ro .len [10] [.string s] h = some (.int .i64 s.size, h) := len_str Try.underlying10
theorem xidx10 {s : ByteArray} {k : IntKind} {n : Int} (h0 : 0 ≤ n) (h1 : n < s.size) : idx Try.prog 10 (.string s) (.int k n) = some (.int .u8 (bt s n)) := idx_str Try.underlying10 h0 h1
theorem xsl10 {ro : Nat} {s : ByteArray} {h : Heap} {k k' : IntKind} {l q : Int} (h0 : 0 ≤ l) (h1 : l ≤ q) (h2 : q ≤ s.size) : slc Try.prog ro h 10 (.string s) (some (.int k l)) (some (.int k' q)) none = some (.string (s.extract l.toNat q.toNat)) := slc_str Try.underlying10 h0 h1 h2
theorem xslo10 {ro : Nat} {s : ByteArray} {h : Heap} {k : IntKind} {l : Int} (h0 : 0 ≤ l) (h1 : l ≤ s.size) : slc Try.prog ro h 10 (.string s) (some (.int k l)) none none = some (.string (s.extract l.toNat s.size)) := slc_str_lo Try.underlying10 h0 h1
theorem xshi10 {ro : Nat} {s : ByteArray} {h : Heap} {k : IntKind} {q : Int} (h0 : 0 ≤ q) (h1 : q ≤ s.size) : slc Try.prog ro h 10 (.string s) none (some (.int k q)) none = some (.string (s.extract 0 q.toNat)) := slc_str_hi Try.underlying10 h0 h1
theorem xld10 {h : Heap} {b o : Nat} : ld Try.prog h 10 (.pointer (some ⟨b, o, none⟩)) = cell h b o := ld_sc tsz10 tag10
theorem xst10 {ro : Nat} {h : Heap} {b o : Nat} {v : Value} : stv Try.prog ro h 10 (.pointer (some ⟨b, o, none⟩)) v = put ro h b o 1 v := stv_put tsz10
theorem xlen11 {ro : Nat} {s : ByteArray} {h : Heap} : ablt Try.prog ro .len [11] [.string s] h = some (.int .i64 s.size, h) := len_str Try.underlying11
theorem xidx11 {s : ByteArray} {k : IntKind} {n : Int} (h0 : 0 ≤ n) (h1 : n < s.size) : idx Try.prog 11 (.string s) (.int k n) = some (.int .u8 (bt s n)) := idx_str Try.underlying11 h0 h1
theorem xsl11 {ro : Nat} {s : ByteArray} {h : Heap} {k k' : IntKind} {l q : Int} (h0 : 0 ≤ l) (h1 : l ≤ q) (h2 : q ≤ s.size) : slc Try.prog ro h 11 (.string s) (some (.int k l)) (some (.int k' q)) none = some (.string (s.extract l.toNat q.toNat)) := slc_str Try.underlying11 h0 h1 h2
theorem xslo11 {ro : Nat} {s : ByteArray} {h : Heap} {k : IntKind} {l : Int} (h0 : 0 ≤ l) (h1 : l ≤ s.size) : slc Try.prog ro h 11 (.string s) (some (.int k l)) none none = some (.string (s.extract l.toNat s.size)) := slc_str_lo Try.underlying11 h0 h1
theorem xshi11 {ro : Nat} {s : ByteArray} {h : Heap} {k : IntKind} {q : Int} (h0 : 0 ≤ q) (h1 : q ≤ s.size) : slc Try.prog ro h 11 (.string s) none (some (.int k q)) none = some (.string (s.extract 0 q.toNat)) := slc_str_hi Try.underlying11 h0 h1
theorem xld11 {h : Heap} {b o : Nat} : ld Try.prog h 11 (.pointer (some ⟨b, o, none⟩)) = cell h b o := ld_sc tsz11 tag11
theorem xst11 {ro : Nat} {h : Heap} {b o : Nat} {v : Value} : stv Try.prog ro h 11 (.pointer (some ⟨b, o, none⟩)) v = put ro h b o 1 v := stv_put tsz11
theorem xld12 {h : Heap} {b o : Nat} : ld Try.prog h 12 (.pointer (some ⟨b, o, none⟩)) = cell h b o := ld_sc tsz12 tag12
theorem xst12 {ro : Nat} {h : Heap} {b o : Nat} {v : Value} : stv Try.prog ro h 12 (.pointer (some ⟨b, o, none⟩)) v = put ro h b o 1 v := stv_put tsz12
theorem xfad13_0 {b o : Nat} : fadr Try.prog 13 (.pointer (some ⟨b, o, none⟩)) 0 = some (.pointer (some ⟨b, o + 0, none⟩)) := fadr_of tfi13_0 (by decide)
theorem xfld13_0 {cs : List Value} : fld Try.prog 13 (.agg ⟨cs⟩) 0 = cs[0]? := fld_sc tfi13_0 tag9
theorem xfad13_1 {b o : Nat} : fadr Try.prog 13 (.pointer (some ⟨b, o, none⟩)) 1 = some (.pointer (some ⟨b, o + 1, none⟩)) := fadr_of tfi13_1 (by decide)
theorem xfld13_1 {cs : List Value} : fld Try.prog 13 (.agg ⟨cs⟩) 1 = cs[1]? := fld_sc tfi13_1 tag12
theorem xld13 {h : Heap} {b o : Nat} : ld Try.prog h 13 (.pointer (some ⟨b, o, none⟩)) = cells h b o 2 := ld_agg tsz13 tag13
theorem xst13 {ro : Nat} {h : Heap} {b o : Nat} {v : Value} : stv Try.prog ro h 13 (.pointer (some ⟨b, o, none⟩)) v = put ro h b o 2 v := stv_put tsz13
theorem xfad14_0 {b o : Nat} : fadr Try.prog 14 (.pointer (some ⟨b, o, none⟩)) 0 = some (.pointer (some ⟨b, o + 0, none⟩)) := fadr_of tfi14_0 (by decide)
theorem xfld14_0 {cs : List Value} : fld Try.prog 14 (.agg ⟨cs⟩) 0 = cs[0]? := fld_sc tfi14_0 tag9
theorem xfad14_1 {b o : Nat} : fadr Try.prog 14 (.pointer (some ⟨b, o, none⟩)) 1 = some (.pointer (some ⟨b, o + 1, none⟩)) := fadr_of tfi14_1 (by decide)
theorem xfld14_1 {cs : List Value} : fld Try.prog 14 (.agg ⟨cs⟩) 1 = cs[1]? := fld_sc tfi14_1 tag12
theorem xld14 {h : Heap} {b o : Nat} : ld Try.prog h 14 (.pointer (some ⟨b, o, none⟩)) = cells h b o 2 := ld_agg tsz14 tag14
theorem xst14 {ro : Nat} {h : Heap} {b o : Nat} {v : Value} : stv Try.prog ro h 14 (.pointer (some ⟨b, o, none⟩)) v = put ro h b o 2 v := stv_put tsz14
theorem xld15 {h : Heap} {b o : Nat} : ld Try.prog h 15 (.pointer (some ⟨b, o, none⟩)) = cell h b o := ld_sc tsz15 tag15
theorem xst15 {ro : Nat} {h : Heap} {b o : Nat} {v : Value} : stv Try.prog ro h 15 (.pointer (some ⟨b, o, none⟩)) v = put ro h b o 1 v := stv_put tsz15
theorem xld16 {h : Heap} {b o : Nat} : ld Try.prog h 16 (.pointer (some ⟨b, o, none⟩)) = cell h b o := ld_sc tsz16 tag16
theorem xst16 {ro : Nat} {h : Heap} {b o : Nat} {v : Value} : stv Try.prog ro h 16 (.pointer (some ⟨b, o, none⟩)) v = put ro h b o 1 v := stv_put tsz16
theorem xld17 {h : Heap} {b o : Nat} : ld Try.prog h 17 (.pointer (some ⟨b, o, none⟩)) = cell h b o := ld_sc tsz17 tag17
theorem xst17 {ro : Nat} {h : Heap} {b o : Nat} {v : Value} : stv Try.prog ro h 17 (.pointer (some ⟨b, o, none⟩)) v = put ro h b o 1 v := stv_put tsz17
theorem xfad18_0 {b o : Nat} : fadr Try.prog 18 (.pointer (some ⟨b, o, none⟩)) 0 = some (.pointer (some ⟨b, o + 0, none⟩)) := fadr_of tfi18_0 (by decide)
theorem xfld18_0 {cs : List Value} : fld Try.prog 18 (.agg ⟨cs⟩) 0 = cs[0]? := fld_sc tfi18_0 tag17
theorem xld18 {h : Heap} {b o : Nat} : ld Try.prog h 18 (.pointer (some ⟨b, o, none⟩)) = cells h b o 1 := ld_agg tsz18 tag18
theorem xst18 {ro : Nat} {h : Heap} {b o : Nat} {v : Value} : stv Try.prog ro h 18 (.pointer (some ⟨b, o, none⟩)) v = put ro h b o 1 v := stv_put tsz18
theorem xfad19_0 {b o : Nat} : fadr Try.prog 19 (.pointer (some ⟨b, o, none⟩)) 0 = some (.pointer (some ⟨b, o + 0, none⟩)) := fadr_of tfi19_0 (by decide)
theorem xfld19_0 {cs : List Value} : fld Try.prog 19 (.agg ⟨cs⟩) 0 = cs[0]? := fld_sc tfi19_0 tag17
theorem xld19 {h : Heap} {b o : Nat} : ld Try.prog h 19 (.pointer (some ⟨b, o, none⟩)) = cells h b o 1 := ld_agg tsz19 tag19
theorem xst19 {ro : Nat} {h : Heap} {b o : Nat} {v : Value} : stv Try.prog ro h 19 (.pointer (some ⟨b, o, none⟩)) v = put ro h b o 1 v := stv_put tsz19
theorem xld21 {h : Heap} {b o : Nat} : ld Try.prog h 21 (.pointer (some ⟨b, o, none⟩)) = cell h b o := ld_sc tsz21 tag21
theorem xst21 {ro : Nat} {h : Heap} {b o : Nat} {v : Value} : stv Try.prog ro h 21 (.pointer (some ⟨b, o, none⟩)) v = put ro h b o 1 v := stv_put tsz21
theorem xld23 {h : Heap} {b o : Nat} : ld Try.prog h 23 (.pointer (some ⟨b, o, none⟩)) = cell h b o := ld_sc tsz23 tag23
theorem xst23 {ro : Nat} {h : Heap} {b o : Nat} {v : Value} : stv Try.prog ro h 23 (.pointer (some ⟨b, o, none⟩)) v = put ro h b o 1 v := stv_put tsz23
theorem xld24 {h : Heap} {b o : Nat} : ld Try.prog h 24 (.pointer (some ⟨b, o, none⟩)) = cell h b o := ld_sc tsz24 tag24
theorem xst24 {ro : Nat} {h : Heap} {b o : Nat} {v : Value} : stv Try.prog ro h 24 (.pointer (some ⟨b, o, none⟩)) v = put ro h b o 1 v := stv_put tsz24
theorem xld26 {h : Heap} {b o : Nat} : ld Try.prog h 26 (.pointer (some ⟨b, o, none⟩)) = cell h b o := ld_sc tsz26 tag26
theorem xst26 {ro : Nat} {h : Heap} {b o : Nat} {v : Value} : stv Try.prog ro h 26 (.pointer (some ⟨b, o, none⟩)) v = put ro h b o 1 v := stv_put tsz26
theorem xld27 {h : Heap} {b o : Nat} : ld Try.prog h 27 (.pointer (some ⟨b, o, none⟩)) = cell h b o := ld_sc tsz27 tag27
theorem xst27 {ro : Nat} {h : Heap} {b o : Nat} {v : Value} : stv Try.prog ro h 27 (.pointer (some ⟨b, o, none⟩)) v = put ro h b o 1 v := stv_put tsz27
theorem xlen28 {ro : Nat} {a : Option Addr} {n c : Nat} {h : Heap} : ablt Try.prog ro .len [28] [.slice a n c] h = some (.int .i64 n, h) := len_slc Try.underlying28
theorem xiad28 {b o len cap : Nat} {k : IntKind} {n : Int} (h0 : 0 ≤ n) (h1 : n < len) : iadr Try.prog 28 (.slice (some ⟨b, o, none⟩) len cap) (.int k n) = some (.pointer (some ⟨b, o + n.toNat * 2, none⟩)) := iadr_slc Try.underlying28 tsz85 h0 h1
theorem xmk28 {h : Heap} {k1 k2 : IntKind} {l : Int} (h0 : 0 ≤ l) (h1 : (16 : Nat) * l ≤ 140737488355328) (h2 : l ≤ 9223372036854775807) : mk Try.prog h 28 (.int k1 l) (.int k2 l) = some (.slice (some ⟨h.length, 0, none⟩) l.toNat l.toNat, h ++ [zblk 85 (l.toNat * 2)]) := mk_go tel28 tsz85 tby85 tze85 rfl (by decide) h0 h1 h2
theorem xld28 {h : Heap} {b o : Nat} : ld Try.prog h 28 (.pointer (some ⟨b, o, none⟩)) = cell h b o := ld_sc tsz28 tag28
theorem xst28 {ro : Nat} {h : Heap} {b o : Nat} {v : Value} : stv Try.prog ro h 28 (.pointer (some ⟨b, o, none⟩)) v = put ro h b o 1 v := stv_put tsz28
theorem xlen29 {ro : Nat} {a : Option Addr} {n c : Nat} {h : Heap} : ablt Try.prog ro .len [29] [.slice a n c] h = some (.int .i64 n, h) := len_slc Try.underlying29
theorem xiad29 {b o len cap : Nat} {k : IntKind} {n : Int} (h0 : 0 ≤ n) (h1 : n < len) : iadr Try.prog 29 (.slice (some ⟨b, o, none⟩) len cap) (.int k n) = some (.pointer (some ⟨b, o + n.toNat * 1, none⟩)) := iadr_slc Try.underlying29 tsz86 h0 h1
theorem xld29 {h : Heap} {b o : Nat} : ld Try.prog h 29 (.pointer (some ⟨b, o, none⟩)) = cell h b o := ld_sc tsz29 tag29
theorem xst29 {ro : Nat} {h : Heap} {b o : Nat} {v : Value} : stv Try.prog ro h 29 (.pointer (some ⟨b, o, none⟩)) v = put ro h b o 1 v := stv_put tsz29
theorem xlen30 {ro : Nat} {a : Option Addr} {n c : Nat} {h : Heap} : ablt Try.prog ro .len [30] [.slice a n c] h = some (.int .i64 n, h) := len_slc Try.underlying30
theorem xiad30 {b o len cap : Nat} {k : IntKind} {n : Int} (h0 : 0 ≤ n) (h1 : n < len) : iadr Try.prog 30 (.slice (some ⟨b, o, none⟩) len cap) (.int k n) = some (.pointer (some ⟨b, o + n.toNat * 1, none⟩)) := iadr_slc Try.underlying30 tsz29 h0 h1
theorem xld30 {h : Heap} {b o : Nat} : ld Try.prog h 30 (.pointer (some ⟨b, o, none⟩)) = cell h b o := ld_sc tsz30 tag30
theorem xst30 {ro : Nat} {h : Heap} {b o : Nat} {v : Value} : stv Try.prog ro h 30 (.pointer (some ⟨b, o, none⟩)) v = put ro h b o 1 v := stv_put tsz30
theorem xfad31_0 {b o : Nat} : fadr Try.prog 31 (.pointer (some ⟨b, o, none⟩)) 0 = some (.pointer (some ⟨b, o + 0, none⟩)) := fadr_of tfi31_0 (by decide)
theorem xfld31_0 {cs : List Value} : fld Try.prog 31 (.agg ⟨cs⟩) 0 = cs[0]? := fld_sc tfi31_0 tag28
theorem xfad31_1 {b o : Nat} : fadr Try.prog 31 (.pointer (some ⟨b, o, none⟩)) 1 = some (.pointer (some ⟨b, o + 1, none⟩)) := fadr_of tfi31_1 (by decide)
theorem xfld31_1 {cs : List Value} : fld Try.prog 31 (.agg ⟨cs⟩) 1 = cs[1]? := fld_sc tfi31_1 tag29
theorem xfad31_2 {b o : Nat} : fadr Try.prog 31 (.pointer (some ⟨b, o, none⟩)) 2 = some (.pointer (some ⟨b, o + 2, none⟩)) := fadr_of tfi31_2 (by decide)
theorem xfld31_2 {cs : List Value} : fld Try.prog 31 (.agg ⟨cs⟩) 2 = cs[2]? := fld_sc tfi31_2 tag30
theorem xld31 {h : Heap} {b o : Nat} : ld Try.prog h 31 (.pointer (some ⟨b, o, none⟩)) = cells h b o 3 := ld_agg tsz31 tag31
theorem xst31 {ro : Nat} {h : Heap} {b o : Nat} {v : Value} : stv Try.prog ro h 31 (.pointer (some ⟨b, o, none⟩)) v = put ro h b o 3 v := stv_put tsz31
theorem xfad32_0 {b o : Nat} : fadr Try.prog 32 (.pointer (some ⟨b, o, none⟩)) 0 = some (.pointer (some ⟨b, o + 0, none⟩)) := fadr_of tfi32_0 (by decide)
theorem xfld32_0 {cs : List Value} : fld Try.prog 32 (.agg ⟨cs⟩) 0 = cs[0]? := fld_sc tfi32_0 tag28
theorem xfad32_1 {b o : Nat} : fadr Try.prog 32 (.pointer (some ⟨b, o, none⟩)) 1 = some (.pointer (some ⟨b, o + 1, none⟩)) := fadr_of tfi32_1 (by decide)
theorem xfld32_1 {cs : List Value} : fld Try.prog 32 (.agg ⟨cs⟩) 1 = cs[1]? := fld_sc tfi32_1 tag29
theorem xfad32_2 {b o : Nat} : fadr Try.prog 32 (.pointer (some ⟨b, o, none⟩)) 2 = some (.pointer (some ⟨b, o + 2, none⟩)) := fadr_of tfi32_2 (by decide)
theorem xfld32_2 {cs : List Value} : fld Try.prog 32 (.agg ⟨cs⟩) 2 = cs[2]? := fld_sc tfi32_2 tag30
theorem xld32 {h : Heap} {b o : Nat} : ld Try.prog h 32 (.pointer (some ⟨b, o, none⟩)) = cells h b o 3 := ld_agg tsz32 tag32
theorem xst32 {ro : Nat} {h : Heap} {b o : Nat} {v : Value} : stv Try.prog ro h 32 (.pointer (some ⟨b, o, none⟩)) v = put ro h b o 3 v := stv_put tsz32
theorem xld33 {h : Heap} {b o : Nat} : ld Try.prog h 33 (.pointer (some ⟨b, o, none⟩)) = cell h b o := ld_sc tsz33 tag33
theorem xst33 {ro : Nat} {h : Heap} {b o : Nat} {v : Value} : stv Try.prog ro h 33 (.pointer (some ⟨b, o, none⟩)) v = put ro h b o 1 v := stv_put tsz33
theorem xld34 {h : Heap} {b o : Nat} : ld Try.prog h 34 (.pointer (some ⟨b, o, none⟩)) = cell h b o := ld_sc tsz34 tag34
theorem xst34 {ro : Nat} {h : Heap} {b o : Nat} {v : Value} : stv Try.prog ro h 34 (.pointer (some ⟨b, o, none⟩)) v = put ro h b o 1 v := stv_put tsz34
theorem xld35 {h : Heap} {b o : Nat} : ld Try.prog h 35 (.pointer (some ⟨b, o, none⟩)) = cell h b o := ld_sc tsz35 tag35
theorem xst35 {ro : Nat} {h : Heap} {b o : Nat} {v : Value} : stv Try.prog ro h 35 (.pointer (some ⟨b, o, none⟩)) v = put ro h b o 1 v := stv_put tsz35
theorem xld36 {h : Heap} {b o : Nat} : ld Try.prog h 36 (.pointer (some ⟨b, o, none⟩)) = cell h b o := ld_sc tsz36 tag36
theorem xst36 {ro : Nat} {h : Heap} {b o : Nat} {v : Value} : stv Try.prog ro h 36 (.pointer (some ⟨b, o, none⟩)) v = put ro h b o 1 v := stv_put tsz36
theorem xlen37 {ro : Nat} {a : Option Addr} {n c : Nat} {h : Heap} : ablt Try.prog ro .len [37] [.slice a n c] h = some (.int .i64 n, h) := len_slc Try.underlying37
theorem xiad37 {b o len cap : Nat} {k : IntKind} {n : Int} (h0 : 0 ≤ n) (h1 : n < len) : iadr Try.prog 37 (.slice (some ⟨b, o, none⟩) len cap) (.int k n) = some (.pointer (some ⟨b, o + n.toNat * 4, none⟩)) := iadr_slc Try.underlying37 tsz103 h0 h1
theorem xmk37 {h : Heap} {k1 k2 : IntKind} {l : Int} (h0 : 0 ≤ l) (h1 : (32 : Nat) * l ≤ 140737488355328) (h2 : l ≤ 9223372036854775807) : mk Try.prog h 37 (.int k1 l) (.int k2 l) = some (.slice (some ⟨h.length, 0, none⟩) l.toNat l.toNat, h ++ [zblk 103 (l.toNat * 4)]) := mk_go tel37 tsz103 tby103 tze103 rfl (by decide) h0 h1 h2
theorem xld37 {h : Heap} {b o : Nat} : ld Try.prog h 37 (.pointer (some ⟨b, o, none⟩)) = cell h b o := ld_sc tsz37 tag37
theorem xst37 {ro : Nat} {h : Heap} {b o : Nat} {v : Value} : stv Try.prog ro h 37 (.pointer (some ⟨b, o, none⟩)) v = put ro h b o 1 v := stv_put tsz37
theorem xld38 {h : Heap} {b o : Nat} : ld Try.prog h 38 (.pointer (some ⟨b, o, none⟩)) = cell h b o := ld_sc tsz38 tag38
theorem xst38 {ro : Nat} {h : Heap} {b o : Nat} {v : Value} : stv Try.prog ro h 38 (.pointer (some ⟨b, o, none⟩)) v = put ro h b o 1 v := stv_put tsz38
theorem xlen39 {ro : Nat} {a : Option Addr} {n c : Nat} {h : Heap} : ablt Try.prog ro .len [39] [.slice a n c] h = some (.int .i64 n, h) := len_slc Try.underlying39
theorem xiad39 {b o len cap : Nat} {k : IntKind} {n : Int} (h0 : 0 ≤ n) (h1 : n < len) : iadr Try.prog 39 (.slice (some ⟨b, o, none⟩) len cap) (.int k n) = some (.pointer (some ⟨b, o + n.toNat * 1, none⟩)) := iadr_slc Try.underlying39 tsz63 h0 h1
theorem xld39 {h : Heap} {b o : Nat} : ld Try.prog h 39 (.pointer (some ⟨b, o, none⟩)) = cell h b o := ld_sc tsz39 tag39
theorem xst39 {ro : Nat} {h : Heap} {b o : Nat} {v : Value} : stv Try.prog ro h 39 (.pointer (some ⟨b, o, none⟩)) v = put ro h b o 1 v := stv_put tsz39
theorem xld41 {h : Heap} {b o : Nat} : ld Try.prog h 41 (.pointer (some ⟨b, o, none⟩)) = cell h b o := ld_sc tsz41 tag41
theorem xst41 {ro : Nat} {h : Heap} {b o : Nat} {v : Value} : stv Try.prog ro h 41 (.pointer (some ⟨b, o, none⟩)) v = put ro h b o 1 v := stv_put tsz41
theorem xlen42 {ro : Nat} {a : Option Addr} {n c : Nat} {h : Heap} : ablt Try.prog ro .len [42] [.slice a n c] h = some (.int .i64 n, h) := len_slc Try.underlying42
theorem xiad42 {b o len cap : Nat} {k : IntKind} {n : Int} (h0 : 0 ≤ n) (h1 : n < len) : iadr Try.prog 42 (.slice (some ⟨b, o, none⟩) len cap) (.int k n) = some (.pointer (some ⟨b, o + n.toNat * 4, none⟩)) := iadr_slc Try.underlying42 tsz98 h0 h1
theorem xmk42 {h : Heap} {k1 k2 : IntKind} {l : Int} (h0 : 0 ≤ l) (h1 : (32 : Nat) * l ≤ 140737488355328) (h2 : l ≤ 9223372036854775807) : mk Try.prog h 42 (.int k1 l) (.int k2 l) = some (.slice (some ⟨h.length, 0, none⟩) l.toNat l.toNat, h ++ [zblk 98 (l.toNat * 4)]) := mk_go tel42 tsz98 tby98 tze98 rfl (by decide) h0 h1 h2
theorem xld42 {h : Heap} {b o : Nat} : ld Try.prog h 42 (.pointer (some ⟨b, o, none⟩)) = cell h b o := ld_sc tsz42 tag42
theorem xst42 {ro : Nat} {h : Heap} {b o : Nat} {v : Value} : stv Try.prog ro h 42 (.pointer (some ⟨b, o, none⟩)) v = put ro h b o 1 v := stv_put tsz42
theorem xld43 {h : Heap} {b o : Nat} : ld Try.prog h 43 (.pointer (some ⟨b, o, none⟩)) = cell h b o := ld_sc tsz43 tag43
theorem xst43 {ro : Nat} {h : Heap} {b o : Nat} {v : Value} : stv Try.prog ro h 43 (.pointer (some ⟨b, o, none⟩)) v = put ro h b o 1 v := stv_put tsz43
theorem xld44 {h : Heap} {b o : Nat} : ld Try.prog h 44 (.pointer (some ⟨b, o, none⟩)) = cell h b o := ld_sc tsz44 tag44
theorem xst44 {ro : Nat} {h : Heap} {b o : Nat} {v : Value} : stv Try.prog ro h 44 (.pointer (some ⟨b, o, none⟩)) v = put ro h b o 1 v := stv_put tsz44
theorem xld45 {h : Heap} {b o : Nat} : ld Try.prog h 45 (.pointer (some ⟨b, o, none⟩)) = cell h b o := ld_sc tsz45 tag45
theorem xst45 {ro : Nat} {h : Heap} {b o : Nat} {v : Value} : stv Try.prog ro h 45 (.pointer (some ⟨b, o, none⟩)) v = put ro h b o 1 v := stv_put tsz45
theorem xld46 {h : Heap} {b o : Nat} : ld Try.prog h 46 (.pointer (some ⟨b, o, none⟩)) = cell h b o := ld_sc tsz46 tag46
theorem xst46 {ro : Nat} {h : Heap} {b o : Nat} {v : Value} : stv Try.prog ro h 46 (.pointer (some ⟨b, o, none⟩)) v = put ro h b o 1 v := stv_put tsz46
theorem xld47 {h : Heap} {b o : Nat} : ld Try.prog h 47 (.pointer (some ⟨b, o, none⟩)) = cell h b o := ld_sc tsz47 tag47
theorem xst47 {ro : Nat} {h : Heap} {b o : Nat} {v : Value} : stv Try.prog ro h 47 (.pointer (some ⟨b, o, none⟩)) v = put ro h b o 1 v := stv_put tsz47
theorem xld48 {h : Heap} {b o : Nat} : ld Try.prog h 48 (.pointer (some ⟨b, o, none⟩)) = cell h b o := ld_sc tsz48 tag48
theorem xst48 {ro : Nat} {h : Heap} {b o : Nat} {v : Value} : stv Try.prog ro h 48 (.pointer (some ⟨b, o, none⟩)) v = put ro h b o 1 v := stv_put tsz48
theorem xfad49_0 {b o : Nat} : fadr Try.prog 49 (.pointer (some ⟨b, o, none⟩)) 0 = some (.pointer (some ⟨b, o + 0, none⟩)) := fadr_of tfi49_0 (by decide)
theorem xfld49_0 {cs : List Value} : fld Try.prog 49 (.agg ⟨cs⟩) 0 = cs[0]? := fld_sc tfi49_0 tag2
theorem xfad49_1 {b o : Nat} : fadr Try.prog 49 (.pointer (some ⟨b, o, none⟩)) 1 = some (.pointer (some ⟨b, o + 1, none⟩)) := fadr_of tfi49_1 (by decide)
theorem xfld49_1 {cs : List Value} : fld Try.prog 49 (.agg ⟨cs⟩) 1 = cs[1]? := fld_sc tfi49_1 tag29
theorem xld49 {h : Heap} {b o : Nat} : ld Try.prog h 49 (.pointer (some ⟨b, o, none⟩)) = cells h b o 2 := ld_agg tsz49 tag49
theorem xst49 {ro : Nat} {h : Heap} {b o : Nat} {v : Value} : stv Try.prog ro h 49 (.pointer (some ⟨b, o, none⟩)) v = put ro h b o 2 v := stv_put tsz49
theorem xfad50_0 {b o : Nat} : fadr Try.prog 50 (.pointer (some ⟨b, o, none⟩)) 0 = some (.pointer (some ⟨b, o + 0, none⟩)) := fadr_of tfi50_0 (by decide)
theorem xfld50_0 {cs : List Value} : fld Try.prog 50 (.agg ⟨cs⟩) 0 = cs[0]? := fld_sc tfi50_0 tag2
theorem xfad50_1 {b o : Nat} : fadr Try.prog 50 (.pointer (some ⟨b, o, none⟩)) 1 = some (.pointer (some ⟨b, o + 1, none⟩)) := fadr_of tfi50_1 (by decide)
theorem xfld50_1 {cs : List Value} : fld Try.prog 50 (.agg ⟨cs⟩) 1 = cs[1]? := fld_sc tfi50_1 tag29
theorem xld50 {h : Heap} {b o : Nat} : ld Try.prog h 50 (.pointer (some ⟨b, o, none⟩)) = cells h b o 2 := ld_agg tsz50 tag50
theorem xst50 {ro : Nat} {h : Heap} {b o : Nat} {v : Value} : stv Try.prog ro h 50 (.pointer (some ⟨b, o, none⟩)) v = put ro h b o 2 v := stv_put tsz50
theorem xld52 {h : Heap} {b o : Nat} : ld Try.prog h 52 (.pointer (some ⟨b, o, none⟩)) = cell h b o := ld_sc tsz52 tag52
theorem xst52 {ro : Nat} {h : Heap} {b o : Nat} {v : Value} : stv Try.prog ro h 52 (.pointer (some ⟨b, o, none⟩)) v = put ro h b o 1 v := stv_put tsz52
theorem xld53 {h : Heap} {b o : Nat} : ld Try.prog h 53 (.pointer (some ⟨b, o, none⟩)) = cell h b o := ld_sc tsz53 tag53
theorem xst53 {ro : Nat} {h : Heap} {b o : Nat} {v : Value} : stv Try.prog ro h 53 (.pointer (some ⟨b, o, none⟩)) v = put ro h b o 1 v := stv_put tsz53
theorem xld54 {h : Heap} {b o : Nat} : ld Try.prog h 54 (.pointer (some ⟨b, o, none⟩)) = cell h b o := ld_sc tsz54 tag54
theorem xst54 {ro : Nat} {h : Heap} {b o : Nat} {v : Value} : stv Try.prog ro h 54 (.pointer (some ⟨b, o, none⟩)) v = put ro h b o 1 v := stv_put tsz54
theorem xld55 {h : Heap} {b o : Nat} : ld Try.prog h 55 (.pointer (some ⟨b, o, none⟩)) = cell h b o := ld_sc tsz55 tag55
theorem xst55 {ro : Nat} {h : Heap} {b o : Nat} {v : Value} : stv Try.prog ro h 55 (.pointer (some ⟨b, o, none⟩)) v = put ro h b o 1 v := stv_put tsz55
theorem xlen56 {ro : Nat} {a : Option Addr} {n c : Nat} {h : Heap} : ablt Try.prog ro .len [56] [.slice a n c] h = some (.int .i64 n, h) := len_slc Try.underlying56
theorem xiad56 {b o len cap : Nat} {k : IntKind} {n : Int} (h0 : 0 ≤ n) (h1 : n < len) : iadr Try.prog 56 (.slice (some ⟨b, o, none⟩) len cap) (.int k n) = some (.pointer (some ⟨b, o + n.toNat * 2, none⟩)) := iadr_slc Try.underlying56 tsz115 h0 h1
theorem xmk56 {h : Heap} {k1 k2 : IntKind} {l : Int} (h0 : 0 ≤ l) (h1 : (16 : Nat) * l ≤ 140737488355328) (h2 : l ≤ 9223372036854775807) : mk Try.prog h 56 (.int k1 l) (.int k2 l) = some (.slice (some ⟨h.length, 0, none⟩) l.toNat l.toNat, h ++ [zblk 115 (l.toNat * 2)]) := mk_go tel56 tsz115 tby115 tze115 rfl (by decide) h0 h1 h2
theorem xld56 {h : Heap} {b o : Nat} : ld Try.prog h 56 (.pointer (some ⟨b, o, none⟩)) = cell h b o := ld_sc tsz56 tag56
theorem xst56 {ro : Nat} {h : Heap} {b o : Nat} {v : Value} : stv Try.prog ro h 56 (.pointer (some ⟨b, o, none⟩)) v = put ro h b o 1 v := stv_put tsz56
theorem xld58 {h : Heap} {b o : Nat} : ld Try.prog h 58 (.pointer (some ⟨b, o, none⟩)) = cell h b o := ld_sc tsz58 tag58
theorem xst58 {ro : Nat} {h : Heap} {b o : Nat} {v : Value} : stv Try.prog ro h 58 (.pointer (some ⟨b, o, none⟩)) v = put ro h b o 1 v := stv_put tsz58
theorem xld59 {h : Heap} {b o : Nat} : ld Try.prog h 59 (.pointer (some ⟨b, o, none⟩)) = cell h b o := ld_sc tsz59 tag59
theorem xst59 {ro : Nat} {h : Heap} {b o : Nat} {v : Value} : stv Try.prog ro h 59 (.pointer (some ⟨b, o, none⟩)) v = put ro h b o 1 v := stv_put tsz59
theorem xld60 {h : Heap} {b o : Nat} : ld Try.prog h 60 (.pointer (some ⟨b, o, none⟩)) = cell h b o := ld_sc tsz60 tag60
theorem xst60 {ro : Nat} {h : Heap} {b o : Nat} {v : Value} : stv Try.prog ro h 60 (.pointer (some ⟨b, o, none⟩)) v = put ro h b o 1 v := stv_put tsz60
theorem xlen61 {ro : Nat} {a : Option Addr} {n c : Nat} {h : Heap} : ablt Try.prog ro .len [61] [.slice a n c] h = some (.int .i64 n, h) := len_slc Try.underlying61
theorem xiad61 {b o len cap : Nat} {k : IntKind} {n : Int} (h0 : 0 ≤ n) (h1 : n < len) : iadr Try.prog 61 (.slice (some ⟨b, o, none⟩) len cap) (.int k n) = some (.pointer (some ⟨b, o + n.toNat * 2, none⟩)) := iadr_slc Try.underlying61 tsz119 h0 h1
theorem xmk61 {h : Heap} {k1 k2 : IntKind} {l : Int} (h0 : 0 ≤ l) (h1 : (16 : Nat) * l ≤ 140737488355328) (h2 : l ≤ 9223372036854775807) : mk Try.prog h 61 (.int k1 l) (.int k2 l) = some (.slice (some ⟨h.length, 0, none⟩) l.toNat l.toNat, h ++ [zblk 119 (l.toNat * 2)]) := mk_go tel61 tsz119 tby119 tze119 rfl (by decide) h0 h1 h2
theorem xld61 {h : Heap} {b o : Nat} : ld Try.prog h 61 (.pointer (some ⟨b, o, none⟩)) = cell h b o := ld_sc tsz61 tag61
theorem xst61 {ro : Nat} {h : Heap} {b o : Nat} {v : Value} : stv Try.prog ro h 61 (.pointer (some ⟨b, o, none⟩)) v = put ro h b o 1 v := stv_put tsz61
theorem xld62 {h : Heap} {b o : Nat} : ld Try.prog h 62 (.pointer (some ⟨b, o, none⟩)) = cell h b o := ld_sc tsz62 tag62
theorem xst62 {ro : Nat} {h : Heap} {b o : Nat} {v : Value} : stv Try.prog ro h 62 (.pointer (some ⟨b, o, none⟩)) v = put ro h b o 1 v := stv_put tsz62
theorem xlen63 {ro : Nat} {a : Option Addr} {n c : Nat} {h : Heap} : ablt Try.prog ro .len [63] [.slice a n c] h = some (.int .i64 n, h) := len_slc Try.underlying63
theorem xiad63 {b o len cap : Nat} {k : IntKind} {n : Int} (h0 : 0 ≤ n) (h1 : n < len) : iadr Try.prog 63 (.slice (some ⟨b, o, none⟩) len cap) (.int k n) = some (.pointer (some ⟨b, o + n.toNat * 1, none⟩)) := iadr_slc Try.underlying63 tsz2 h0 h1
theorem xmk63 {h : Heap} {k1 k2 : IntKind} {l : Int} (h0 : 0 ≤ l) (h1 : (8 : Nat) * l ≤ 140737488355328) (h2 : l ≤ 9223372036854775807) : mk Try.prog h 63 (.int k1 l) (.int k2 l) = some (.slice (some ⟨h.length, 0, none⟩) l.toNat l.toNat, h ++ [zblk 2 (l.toNat * 1)]) := mk_go tel63 tsz2 tby2 tze2 rfl (by decide) h0 h1 h2
theorem xld63 {h : Heap} {b o : Nat} : ld Try.prog h 63 (.pointer (some ⟨b, o, none⟩)) = cell h b o := ld_sc tsz63 tag63
theorem xst63 {ro : Nat} {h : Heap} {b o : Nat} {v : Value} : stv Try.prog ro h 63 (.pointer (some ⟨b, o, none⟩)) v = put ro h b o 1 v := stv_put tsz63
theorem xld65 {h : Heap} {b o : Nat} : ld Try.prog h 65 (.pointer (some ⟨b, o, none⟩)) = cell h b o := ld_sc tsz65 tag65
theorem xst65 {ro : Nat} {h : Heap} {b o : Nat} {v : Value} : stv Try.prog ro h 65 (.pointer (some ⟨b, o, none⟩)) v = put ro h b o 1 v := stv_put tsz65
theorem xld66 {h : Heap} {b o : Nat} : ld Try.prog h 66 (.pointer (some ⟨b, o, none⟩)) = cell h b o := ld_sc tsz66 tag66
theorem xst66 {ro : Nat} {h : Heap} {b o : Nat} {v : Value} : stv Try.prog ro h 66 (.pointer (some ⟨b, o, none⟩)) v = put ro h b o 1 v := stv_put tsz66
theorem xld67 {h : Heap} {b o : Nat} : ld Try.prog h 67 (.pointer (some ⟨b, o, none⟩)) = cell h b o := ld_sc tsz67 tag67
theorem xst67 {ro : Nat} {h : Heap} {b o : Nat} {v : Value} : stv Try.prog ro h 67 (.pointer (some ⟨b, o, none⟩)) v = put ro h b o 1 v := stv_put tsz67
theorem xld68 {h : Heap} {b o : Nat} : ld Try.prog h 68 (.pointer (some ⟨b, o, none⟩)) = cell h b o := ld_sc tsz68 tag68
theorem xst68 {ro : Nat} {h : Heap} {b o : Nat} {v : Value} : stv Try.prog ro h 68 (.pointer (some ⟨b, o, none⟩)) v = put ro h b o 1 v := stv_put tsz68
theorem xld69 {h : Heap} {b o : Nat} : ld Try.prog h 69 (.pointer (some ⟨b, o, none⟩)) = cell h b o := ld_sc tsz69 tag69
theorem xst69 {ro : Nat} {h : Heap} {b o : Nat} {v : Value} : stv Try.prog ro h 69 (.pointer (some ⟨b, o, none⟩)) v = put ro h b o 1 v := stv_put tsz69
theorem xld70 {h : Heap} {b o : Nat} : ld Try.prog h 70 (.pointer (some ⟨b, o, none⟩)) = cell h b o := ld_sc tsz70 tag70
theorem xst70 {ro : Nat} {h : Heap} {b o : Nat} {v : Value} : stv Try.prog ro h 70 (.pointer (some ⟨b, o, none⟩)) v = put ro h b o 1 v := stv_put tsz70
theorem xld71 {h : Heap} {b o : Nat} : ld Try.prog h 71 (.pointer (some ⟨b, o, none⟩)) = cell h b o := ld_sc tsz71 tag71
theorem xst71 {ro : Nat} {h : Heap} {b o : Nat} {v : Value} : stv Try.prog ro h 71 (.pointer (some ⟨b, o, none⟩)) v = put ro h b o 1 v := stv_put tsz71
theorem xlen72 {ro : Nat} {a : Option Addr} {n c : Nat} {h : Heap} : ablt Try.prog ro .len [72] [.slice a n c] h = some (.int .i64 n, h) := len_slc Try.underlying72
theorem xiad72 {b o len cap : Nat} {k : IntKind} {n : Int} (h0 : 0 ≤ n) (h1 : n < len) : iadr Try.prog 72 (.slice (some ⟨b, o, none⟩) len cap) (.int k n) = some (.pointer (some ⟨b, o + n.toNat * 2, none⟩)) := iadr_slc Try.underlying72 tsz50 h0 h1
theorem xld72 {h : Heap} {b o : Nat} : ld Try.prog h 72 (.pointer (some ⟨b, o, none⟩)) = cell h b o := ld_sc tsz72 tag72
theorem xst72 {ro : Nat} {h : Heap} {b o : Nat} {v : Value} : stv Try.prog ro h 72 (.pointer (some ⟨b, o, none⟩)) v = put ro h b o 1 v := stv_put tsz72
theorem xfad73_0 {b o : Nat} : fadr Try.prog 73 (.pointer (some ⟨b, o, none⟩)) 0 = some (.pointer (some ⟨b, o + 0, none⟩)) := fadr_of tfi73_0 (by decide)
theorem xfld73_0 {cs : List Value} : fld Try.prog 73 (.agg ⟨cs⟩) 0 = cs[0]? := fld_sc tfi73_0 tag2
theorem xfad73_1 {b o : Nat} : fadr Try.prog 73 (.pointer (some ⟨b, o, none⟩)) 1 = some (.pointer (some ⟨b, o + 1, none⟩)) := fadr_of tfi73_1 (by decide)
theorem xfld73_1 {cs : List Value} : fld Try.prog 73 (.agg ⟨cs⟩) 1 = cs[1]? := fld_sc tfi73_1 tag72
theorem xld73 {h : Heap} {b o : Nat} : ld Try.prog h 73 (.pointer (some ⟨b, o, none⟩)) = cells h b o 2 := ld_agg tsz73 tag73
theorem xst73 {ro : Nat} {h : Heap} {b o : Nat} {v : Value} : stv Try.prog ro h 73 (.pointer (some ⟨b, o, none⟩)) v = put ro h b o 2 v := stv_put tsz73
theorem xfad74_0 {b o : Nat} : fadr Try.prog 74 (.pointer (some ⟨b, o, none⟩)) 0 = some (.pointer (some ⟨b, o + 0, none⟩)) := fadr_of tfi74_0 (by decide)
theorem xfld74_0 {cs : List Value} : fld Try.prog 74 (.agg ⟨cs⟩) 0 = cs[0]? := fld_sc tfi74_0 tag2
theorem xfad74_1 {b o : Nat} : fadr Try.prog 74 (.pointer (some ⟨b, o, none⟩)) 1 = some (.pointer (some ⟨b, o + 1, none⟩)) := fadr_of tfi74_1 (by decide)
theorem xfld74_1 {cs : List Value} : fld Try.prog 74 (.agg ⟨cs⟩) 1 = cs[1]? := fld_sc tfi74_1 tag72
theorem xld74 {h : Heap} {b o : Nat} : ld Try.prog h 74 (.pointer (some ⟨b, o, none⟩)) = cells h b o 2 := ld_agg tsz74 tag74
theorem xst74 {ro : Nat} {h : Heap} {b o : Nat} {v : Value} : stv Try.prog ro h 74 (.pointer (some ⟨b, o, none⟩)) v = put ro h b o 2 v := stv_put tsz74
theorem xld76 {h : Heap} {b o : Nat} : ld Try.prog h 76 (.pointer (some ⟨b, o, none⟩)) = cell h b o := ld_sc tsz76 tag76
theorem xst76 {ro : Nat} {h : Heap} {b o : Nat} {v : Value} : stv Try.prog ro h 76 (.pointer (some ⟨b, o, none⟩)) v = put ro h b o 1 v := stv_put tsz76
theorem xld77 {h : Heap} {b o : Nat} : ld Try.prog h 77 (.pointer (some ⟨b, o, none⟩)) = cell h b o := ld_sc tsz77 tag77
theorem xst77 {ro : Nat} {h : Heap} {b o : Nat} {v : Value} : stv Try.prog ro h 77 (.pointer (some ⟨b, o, none⟩)) v = put ro h b o 1 v := stv_put tsz77
theorem xld78 {h : Heap} {b o : Nat} : ld Try.prog h 78 (.pointer (some ⟨b, o, none⟩)) = cell h b o := ld_sc tsz78 tag78
theorem xst78 {ro : Nat} {h : Heap} {b o : Nat} {v : Value} : stv Try.prog ro h 78 (.pointer (some ⟨b, o, none⟩)) v = put ro h b o 1 v := stv_put tsz78
theorem xld79 {h : Heap} {b o : Nat} : ld Try.prog h 79 (.pointer (some ⟨b, o, none⟩)) = cell h b o := ld_sc tsz79 tag79
theorem xst79 {ro : Nat} {h : Heap} {b o : Nat} {v : Value} : stv Try.prog ro h 79 (.pointer (some ⟨b, o, none⟩)) v = put ro h b o 1 v := stv_put tsz79
theorem xld81 {h : Heap} {b o : Nat} : ld Try.prog h 81 (.pointer (some ⟨b, o, none⟩)) = cell h b o := ld_sc tsz81 tag81
theorem xst81 {ro : Nat} {h : Heap} {b o : Nat} {v : Value} : stv Try.prog ro h 81 (.pointer (some ⟨b, o, none⟩)) v = put ro h b o 1 v := stv_put tsz81
theorem xld82 {h : Heap} {b o : Nat} : ld Try.prog h 82 (.pointer (some ⟨b, o, none⟩)) = cell h b o := ld_sc tsz82 tag82
theorem xst82 {ro : Nat} {h : Heap} {b o : Nat} {v : Value} : stv Try.prog ro h 82 (.pointer (some ⟨b, o, none⟩)) v = put ro h b o 1 v := stv_put tsz82
theorem xld83 {h : Heap} {b o : Nat} : ld Try.prog h 83 (.pointer (some ⟨b, o, none⟩)) = cell h b o := ld_sc tsz83 tag83
theorem xst83 {ro : Nat} {h : Heap} {b o : Nat} {v : Value} : stv Try.prog ro h 83 (.pointer (some ⟨b, o, none⟩)) v = put ro h b o 1 v := stv_put tsz83
theorem xfad84_0 {b o : Nat} : fadr Try.prog 84 (.pointer (some ⟨b, o, none⟩)) 0 = some (.pointer (some ⟨b, o + 0, none⟩)) := fadr_of tfi84_0 (by decide)
theorem xfld84_0 {cs : List Value} : fld Try.prog 84 (.agg ⟨cs⟩) 0 = cs[0]? := fld_sc tfi84_0 tag2
theorem xfad84_1 {b o : Nat} : fadr Try.prog 84 (.pointer (some ⟨b, o, none⟩)) 1 = some (.pointer (some ⟨b, o + 1, none⟩)) := fadr_of tfi84_1 (by decide)
theorem xfld84_1 {cs : List Value} : fld Try.prog 84 (.agg ⟨cs⟩) 1 = cs[1]? := fld_sc tfi84_1 tag2
theorem xld84 {h : Heap} {b o : Nat} : ld Try.prog h 84 (.pointer (some ⟨b, o, none⟩)) = cells h b o 2 := ld_agg tsz84 tag84
theorem xst84 {ro : Nat} {h : Heap} {b o : Nat} {v : Value} : stv Try.prog ro h 84 (.pointer (some ⟨b, o, none⟩)) v = put ro h b o 2 v := stv_put tsz84
theorem xfad85_0 {b o : Nat} : fadr Try.prog 85 (.pointer (some ⟨b, o, none⟩)) 0 = some (.pointer (some ⟨b, o + 0, none⟩)) := fadr_of tfi85_0 (by decide)
theorem xfld85_0 {cs : List Value} : fld Try.prog 85 (.agg ⟨cs⟩) 0 = cs[0]? := fld_sc tfi85_0 tag2
theorem xfad85_1 {b o : Nat} : fadr Try.prog 85 (.pointer (some ⟨b, o, none⟩)) 1 = some (.pointer (some ⟨b, o + 1, none⟩)) := fadr_of tfi85_1 (by decide)
theorem xfld85_1 {cs : List Value} : fld Try.prog 85 (.agg ⟨cs⟩) 1 = cs[1]? := fld_sc tfi85_1 tag2
theorem xld85 {h : Heap} {b o : Nat} : ld Try.prog h 85 (.pointer (some ⟨b, o, none⟩)) = cells h b o 2 := ld_agg tsz85 tag85
theorem xst85 {ro : Nat} {h : Heap} {b o : Nat} {v : Value} : stv Try.prog ro h 85 (.pointer (some ⟨b, o, none⟩)) v = put ro h b o 2 v := stv_put tsz85
theorem xld86 {h : Heap} {b o : Nat} : ld Try.prog h 86 (.pointer (some ⟨b, o, none⟩)) = cell h b o := ld_sc tsz86 tag86
theorem xst86 {ro : Nat} {h : Heap} {b o : Nat} {v : Value} : stv Try.prog ro h 86 (.pointer (some ⟨b, o, none⟩)) v = put ro h b o 1 v := stv_put tsz86
theorem xld87 {h : Heap} {b o : Nat} : ld Try.prog h 87 (.pointer (some ⟨b, o, none⟩)) = cell h b o := ld_sc tsz87 tag87
theorem xst87 {ro : Nat} {h : Heap} {b o : Nat} {v : Value} : stv Try.prog ro h 87 (.pointer (some ⟨b, o, none⟩)) v = put ro h b o 1 v := stv_put tsz87
theorem xld88 {h : Heap} {b o : Nat} : ld Try.prog h 88 (.pointer (some ⟨b, o, none⟩)) = cell h b o := ld_sc tsz88 tag88
theorem xst88 {ro : Nat} {h : Heap} {b o : Nat} {v : Value} : stv Try.prog ro h 88 (.pointer (some ⟨b, o, none⟩)) v = put ro h b o 1 v := stv_put tsz88
theorem xld89 {h : Heap} {b o : Nat} : ld Try.prog h 89 (.pointer (some ⟨b, o, none⟩)) = cell h b o := ld_sc tsz89 tag89
theorem xst89 {ro : Nat} {h : Heap} {b o : Nat} {v : Value} : stv Try.prog ro h 89 (.pointer (some ⟨b, o, none⟩)) v = put ro h b o 1 v := stv_put tsz89
theorem xld90 {h : Heap} {b o : Nat} : ld Try.prog h 90 (.pointer (some ⟨b, o, none⟩)) = cell h b o := ld_sc tsz90 tag90
theorem xst90 {ro : Nat} {h : Heap} {b o : Nat} {v : Value} : stv Try.prog ro h 90 (.pointer (some ⟨b, o, none⟩)) v = put ro h b o 1 v := stv_put tsz90
theorem xld91 {h : Heap} {b o : Nat} : ld Try.prog h 91 (.pointer (some ⟨b, o, none⟩)) = cell h b o := ld_sc tsz91 tag91
theorem xst91 {ro : Nat} {h : Heap} {b o : Nat} {v : Value} : stv Try.prog ro h 91 (.pointer (some ⟨b, o, none⟩)) v = put ro h b o 1 v := stv_put tsz91
theorem xld92 {h : Heap} {b o : Nat} : ld Try.prog h 92 (.pointer (some ⟨b, o, none⟩)) = cell h b o := ld_sc tsz92 tag92
theorem xst92 {ro : Nat} {h : Heap} {b o : Nat} {v : Value} : stv Try.prog ro h 92 (.pointer (some ⟨b, o, none⟩)) v = put ro h b o 1 v := stv_put tsz92
theorem xld93 {h : Heap} {b o : Nat} : ld Try.prog h 93 (.pointer (some ⟨b, o, none⟩)) = cell h b o := ld_sc tsz93 tag93
theorem xst93 {ro : Nat} {h : Heap} {b o : Nat} {v : Value} : stv Try.prog ro h 93 (.pointer (some ⟨b, o, none⟩)) v = put ro h b o 1 v := stv_put tsz93
theorem xld94 {h : Heap} {b o : Nat} : ld Try.prog h 94 (.pointer (some ⟨b, o, none⟩)) = cell h b o := ld_sc tsz94 tag94
theorem xst94 {ro : Nat} {h : Heap} {b o : Nat} {v : Value} : stv Try.prog ro h 94 (.pointer (some ⟨b, o, none⟩)) v = put ro h b o 1 v := stv_put tsz94
theorem xfad95_0 {b o : Nat} : fadr Try.prog 95 (.pointer (some ⟨b, o, none⟩)) 0 = some (.pointer (some ⟨b, o + 0, none⟩)) := fadr_of tfi95_0 (by decide)
theorem xfld95_0 {cs : List Value} : fld Try.prog 95 (.agg ⟨cs⟩) 0 = cs[0]? := fld_sc tfi95_0 tag2
theorem xfad95_1 {b o : Nat} : fadr Try.prog 95 (.pointer (some ⟨b, o, none⟩)) 1 = some (.pointer (some ⟨b, o + 1, none⟩)) := fadr_of tfi95_1 (by decide)
theorem xfld95_1 {cs : List Value} : fld Try.prog 95 (.agg ⟨cs⟩) 1 = cs[1]? := fld_sc tfi95_1 tag2
theorem xld95 {h : Heap} {b o : Nat} : ld Try.prog h 95 (.pointer (some ⟨b, o, none⟩)) = cells h b o 2 := ld_agg tsz95 tag95
theorem xst95 {ro : Nat} {h : Heap} {b o : Nat} {v : Value} : stv Try.prog ro h 95 (.pointer (some ⟨b, o, none⟩)) v = put ro h b o 2 v := stv_put tsz95
theorem xfad96_0 {b o : Nat} : fadr Try.prog 96 (.pointer (some ⟨b, o, none⟩)) 0 = some (.pointer (some ⟨b, o + 0, none⟩)) := fadr_of tfi96_0 (by decide)
theorem xfld96_0 {cs : List Value} : fld Try.prog 96 (.agg ⟨cs⟩) 0 = cs[0]? := fld_sc tfi96_0 tag2
theorem xfad96_1 {b o : Nat} : fadr Try.prog 96 (.pointer (some ⟨b, o, none⟩)) 1 = some (.pointer (some ⟨b, o + 1, none⟩)) := fadr_of tfi96_1 (by decide)
theorem xfld96_1 {cs : List Value} : fld Try.prog 96 (.agg ⟨cs⟩) 1 = cs[1]? := fld_sc tfi96_1 tag2
theorem xld96 {h : Heap} {b o : Nat} : ld Try.prog h 96 (.pointer (some ⟨b, o, none⟩)) = cells h b o 2 := ld_agg tsz96 tag96
theorem xst96 {ro : Nat} {h : Heap} {b o : Nat} {v : Value} : stv Try.prog ro h 96 (.pointer (some ⟨b, o, none⟩)) v = put ro h b o 2 v := stv_put tsz96
theorem xfad97_0 {b o : Nat} : fadr Try.prog 97 (.pointer (some ⟨b, o, none⟩)) 0 = some (.pointer (some ⟨b, o + 0, none⟩)) := fadr_of tfi97_0 (by decide)
theorem xfld97_0 {cs : List Value} : fld Try.prog 97 (.agg ⟨cs⟩) 0 = some (.agg ⟨(cs.drop 0).take 2⟩) := fld_agg tfi97_0 tag96
theorem xfad97_1 {b o : Nat} : fadr Try.prog 97 (.pointer (some ⟨b, o, none⟩)) 1 = some (.pointer (some ⟨b, o + 2, none⟩)) := fadr_of tfi97_1 (by decide)
theorem xfld97_1 {cs : List Value} : fld Try.prog 97 (.agg ⟨cs⟩) 1 = cs[2]? := fld_sc tfi97_1 tag2
theorem xfad97_2 {b o : Nat} : fadr Try.prog 97 (.pointer (some ⟨b, o, none⟩)) 2 = some (.pointer (some ⟨b, o + 3, none⟩)) := fadr_of tfi97_2 (by decide)
theorem xfld97_2 {cs : List Value} : fld Try.prog 97 (.agg ⟨cs⟩) 2 = cs[3]? := fld_sc tfi97_2 tag2
theorem xld97 {h : Heap} {b o : Nat} : ld Try.prog h 97 (.pointer (some ⟨b, o, none⟩)) = cells h b o 4 := ld_agg tsz97 tag97
theorem xst97 {ro : Nat} {h : Heap} {b o : Nat} {v : Value} : stv Try.prog ro h 97 (.pointer (some ⟨b, o, none⟩)) v = put ro h b o 4 v := stv_put tsz97
theorem xfad98_0 {b o : Nat} : fadr Try.prog 98 (.pointer (some ⟨b, o, none⟩)) 0 = some (.pointer (some ⟨b, o + 0, none⟩)) := fadr_of tfi98_0 (by decide)
theorem xfld98_0 {cs : List Value} : fld Try.prog 98 (.agg ⟨cs⟩) 0 = some (.agg ⟨(cs.drop 0).take 2⟩) := fld_agg tfi98_0 tag96
theorem xfad98_1 {b o : Nat} : fadr Try.prog 98 (.pointer (some ⟨b, o, none⟩)) 1 = some (.pointer (some ⟨b, o + 2, none⟩)) := fadr_of tfi98_1 (by decide)
theorem xfld98_1 {cs : List Value} : fld Try.prog 98 (.agg ⟨cs⟩) 1 = cs[2]? := fld_sc tfi98_1 tag2
theorem xfad98_2 {b o : Nat} : fadr Try.prog 98 (.pointer (some ⟨b, o, none⟩)) 2 = some (.pointer (some ⟨b, o + 3, none⟩)) := fadr_of tfi98_2 (by decide)
theorem xfld98_2 {cs : List Value} : fld Try.prog 98 (.agg ⟨cs⟩) 2 = cs[3]? := fld_sc tfi98_2 tag2
theorem xld98 {h : Heap} {b o : Nat} : ld Try.prog h 98 (.pointer (some ⟨b, o, none⟩)) = cells h b o 4 := ld_agg tsz98 tag98
theorem xst98 {ro : Nat} {h : Heap} {b o : Nat} {v : Value} : stv Try.prog ro h 98 (.pointer (some ⟨b, o, none⟩)) v = put ro h b o 4 v := stv_put tsz98
theorem xld99 {h : Heap} {b o : Nat} : ld Try.prog h 99 (.pointer (some ⟨b, o, none⟩)) = cell h b o := ld_sc tsz99 tag99
theorem xst99 {ro : Nat} {h : Heap} {b o : Nat} {v : Value} : stv Try.prog ro h 99 (.pointer (some ⟨b, o, none⟩)) v = put ro h b o 1 v := stv_put tsz99
theorem xld100 {h : Heap} {b o : Nat} : ld Try.prog h 100 (.pointer (some ⟨b, o, none⟩)) = cell h b o := ld_sc tsz100 tag100
theorem xst100 {ro : Nat} {h : Heap} {b o : Nat} {v : Value} : stv Try.prog ro h 100 (.pointer (some ⟨b, o, none⟩)) v = put ro h b o 1 v := stv_put tsz100
theorem xfad101_0 {b o : Nat} : fadr Try.prog 101 (.pointer (some ⟨b, o, none⟩)) 0 = some (.pointer (some ⟨b, o + 0, none⟩)) := fadr_of tfi101_0 (by decide)
theorem xfld101_0 {cs : List Value} : fld Try.prog 101 (.agg ⟨cs⟩) 0 = cs[0]? := fld_sc tfi101_0 tag2
theorem xfad101_1 {b o : Nat} : fadr Try.prog 101 (.pointer (some ⟨b, o, none⟩)) 1 = some (.pointer (some ⟨b, o + 1, none⟩)) := fadr_of tfi101_1 (by decide)
theorem xfld101_1 {cs : List Value} : fld Try.prog 101 (.agg ⟨cs⟩) 1 = cs[1]? := fld_sc tfi101_1 tag2
theorem xld101 {h : Heap} {b o : Nat} : ld Try.prog h 101 (.pointer (some ⟨b, o, none⟩)) = cells h b o 2 := ld_agg tsz101 tag101
theorem xst101 {ro : Nat} {h : Heap} {b o : Nat} {v : Value} : stv Try.prog ro h 101 (.pointer (some ⟨b, o, none⟩)) v = put ro h b o 2 v := stv_put tsz101
theorem xfad102_0 {b o : Nat} : fadr Try.prog 102 (.pointer (some ⟨b, o, none⟩)) 0 = some (.pointer (some ⟨b, o + 0, none⟩)) := fadr_of tfi102_0 (by decide)
theorem xfld102_0 {cs : List Value} : fld Try.prog 102 (.agg ⟨cs⟩) 0 = some (.agg ⟨(cs.drop 0).take 2⟩) := fld_agg tfi102_0 tag101
theorem xfad102_1 {b o : Nat} : fadr Try.prog 102 (.pointer (some ⟨b, o, none⟩)) 1 = some (.pointer (some ⟨b, o + 2, none⟩)) := fadr_of tfi102_1 (by decide)
theorem xfld102_1 {cs : List Value} : fld Try.prog 102 (.agg ⟨cs⟩) 1 = cs[2]? := fld_sc tfi102_1 tag2
theorem xfad102_2 {b o : Nat} : fadr Try.prog 102 (.pointer (some ⟨b, o, none⟩)) 2 = some (.pointer (some ⟨b, o + 3, none⟩)) := fadr_of tfi102_2 (by decide)
theorem xfld102_2 {cs : List Value} : fld Try.prog 102 (.agg ⟨cs⟩) 2 = cs[3]? := fld_sc tfi102_2 tag2
theorem xld102 {h : Heap} {b o : Nat} : ld Try.prog h 102 (.pointer (some ⟨b, o, none⟩)) = cells h b o 4 := ld_agg tsz102 tag102
theorem xst102 {ro : Nat} {h : Heap} {b o : Nat} {v : Value} : stv Try.prog ro h 102 (.pointer (some ⟨b, o, none⟩)) v = put ro h b o 4 v := stv_put tsz102
theorem xfad103_0 {b o : Nat} : fadr Try.prog 103 (.pointer (some ⟨b, o, none⟩)) 0 = some (.pointer (some ⟨b, o + 0, none⟩)) := fadr_of tfi103_0 (by decide)
theorem xfld103_0 {cs : List Value} : fld Try.prog 103 (.agg ⟨cs⟩) 0 = some (.agg ⟨(cs.drop 0).take 2⟩) := fld_agg tfi103_0 tag101
theorem xfad103_1 {b o : Nat} : fadr Try.prog 103 (.pointer (some ⟨b, o, none⟩)) 1 = some (.pointer (some ⟨b, o + 2, none⟩)) := fadr_of tfi103_1 (by decide)
theorem xfld103_1 {cs : List Value} : fld Try.prog 103 (.agg ⟨cs⟩) 1 = cs[2]? := fld_sc tfi103_1 tag2
theorem xfad103_2 {b o : Nat} : fadr Try.prog 103 (.pointer (some ⟨b, o, none⟩)) 2 = some (.pointer (some ⟨b, o + 3, none⟩)) := fadr_of tfi103_2 (by decide)
theorem xfld103_2 {cs : List Value} : fld Try.prog 103 (.agg ⟨cs⟩) 2 = cs[3]? := fld_sc tfi103_2 tag2
theorem xld103 {h : Heap} {b o : Nat} : ld Try.prog h 103 (.pointer (some ⟨b, o, none⟩)) = cells h b o 4 := ld_agg tsz103 tag103
theorem xst103 {ro : Nat} {h : Heap} {b o : Nat} {v : Value} : stv Try.prog ro h 103 (.pointer (some ⟨b, o, none⟩)) v = put ro h b o 4 v := stv_put tsz103
theorem xld104 {h : Heap} {b o : Nat} : ld Try.prog h 104 (.pointer (some ⟨b, o, none⟩)) = cell h b o := ld_sc tsz104 tag104
theorem xst104 {ro : Nat} {h : Heap} {b o : Nat} {v : Value} : stv Try.prog ro h 104 (.pointer (some ⟨b, o, none⟩)) v = put ro h b o 1 v := stv_put tsz104
theorem xld105 {h : Heap} {b o : Nat} : ld Try.prog h 105 (.pointer (some ⟨b, o, none⟩)) = cell h b o := ld_sc tsz105 tag105
theorem xst105 {ro : Nat} {h : Heap} {b o : Nat} {v : Value} : stv Try.prog ro h 105 (.pointer (some ⟨b, o, none⟩)) v = put ro h b o 1 v := stv_put tsz105
theorem xld106 {h : Heap} {b o : Nat} : ld Try.prog h 106 (.pointer (some ⟨b, o, none⟩)) = cell h b o := ld_sc tsz106 tag106
theorem xst106 {ro : Nat} {h : Heap} {b o : Nat} {v : Value} : stv Try.prog ro h 106 (.pointer (some ⟨b, o, none⟩)) v = put ro h b o 1 v := stv_put tsz106
theorem xld107 {h : Heap} {b o : Nat} : ld Try.prog h 107 (.pointer (some ⟨b, o, none⟩)) = cell h b o := ld_sc tsz107 tag107
theorem xst107 {ro : Nat} {h : Heap} {b o : Nat} {v : Value} : stv Try.prog ro h 107 (.pointer (some ⟨b, o, none⟩)) v = put ro h b o 1 v := stv_put tsz107
theorem xld108 {h : Heap} {b o : Nat} : ld Try.prog h 108 (.pointer (some ⟨b, o, none⟩)) = cell h b o := ld_sc tsz108 tag108
theorem xst108 {ro : Nat} {h : Heap} {b o : Nat} {v : Value} : stv Try.prog ro h 108 (.pointer (some ⟨b, o, none⟩)) v = put ro h b o 1 v := stv_put tsz108
theorem xld109 {h : Heap} {b o : Nat} : ld Try.prog h 109 (.pointer (some ⟨b, o, none⟩)) = cell h b o := ld_sc tsz109 tag109
theorem xst109 {ro : Nat} {h : Heap} {b o : Nat} {v : Value} : stv Try.prog ro h 109 (.pointer (some ⟨b, o, none⟩)) v = put ro h b o 1 v := stv_put tsz109
theorem xfad110_0 {b o : Nat} : fadr Try.prog 110 (.pointer (some ⟨b, o, none⟩)) 0 = some (.pointer (some ⟨b, o + 0, none⟩)) := fadr_of tfi110_0 (by decide)
theorem xfld110_0 {cs : List Value} : fld Try.prog 110 (.agg ⟨cs⟩) 0 = cs[0]? := fld_sc tfi110_0 tag42
theorem xfad110_1 {b o : Nat} : fadr Try.prog 110 (.pointer (some ⟨b, o, none⟩)) 1 = some (.pointer (some ⟨b, o + 1, none⟩)) := fadr_of tfi110_1 (by decide)
theorem xfld110_1 {cs : List Value} : fld Try.prog 110 (.agg ⟨cs⟩) 1 = cs[1]? := fld_sc tfi110_1 tag63
theorem xfad110_2 {b o : Nat} : fadr Try.prog 110 (.pointer (some ⟨b, o, none⟩)) 2 = some (.pointer (some ⟨b, o + 2, none⟩)) := fadr_of tfi110_2 (by decide)
theorem xfld110_2 {cs : List Value} : fld Try.prog 110 (.agg ⟨cs⟩) 2 = cs[2]? := fld_sc tfi110_2 tag56
theorem xfad110_3 {b o : Nat} : fadr Try.prog 110 (.pointer (some ⟨b, o, none⟩)) 3 = some (.pointer (some ⟨b, o + 3, none⟩)) := fadr_of tfi110_3 (by decide)
theorem xfld110_3 {cs : List Value} : fld Try.prog 110 (.agg ⟨cs⟩) 3 = cs[3]? := fld_sc tfi110_3 tag2
theorem xld110 {h : Heap} {b o : Nat} : ld Try.prog h 110 (.pointer (some ⟨b, o, none⟩)) = cells h b o 4 := ld_agg tsz110 tag110
theorem xst110 {ro : Nat} {h : Heap} {b o : Nat} {v : Value} : stv Try.prog ro h 110 (.pointer (some ⟨b, o, none⟩)) v = put ro h b o 4 v := stv_put tsz110
theorem xfad111_0 {b o : Nat} : fadr Try.prog 111 (.pointer (some ⟨b, o, none⟩)) 0 = some (.pointer (some ⟨b, o + 0, none⟩)) := fadr_of tfi111_0 (by decide)
theorem xfld111_0 {cs : List Value} : fld Try.prog 111 (.agg ⟨cs⟩) 0 = cs[0]? := fld_sc tfi111_0 tag42
theorem xfad111_1 {b o : Nat} : fadr Try.prog 111 (.pointer (some ⟨b, o, none⟩)) 1 = some (.pointer (some ⟨b, o + 1, none⟩)) := fadr_of tfi111_1 (by decide)
theorem xfld111_1 {cs : List Value} : fld Try.prog 111 (.agg ⟨cs⟩) 1 = cs[1]? := fld_sc tfi111_1 tag63
theorem xfad111_2 {b o : Nat} : fadr Try.prog 111 (.pointer (some ⟨b, o, none⟩)) 2 = some (.pointer (some ⟨b, o + 2, none⟩)) := fadr_of tfi111_2 (by decide)
theorem xfld111_2 {cs : List Value} : fld Try.prog 111 (.agg ⟨cs⟩) 2 = cs[2]? := fld_sc tfi111_2 tag56
theorem xfad111_3 {b o : Nat} : fadr Try.prog 111 (.pointer (some ⟨b, o, none⟩)) 3 = some (.pointer (some ⟨b, o + 3, none⟩)) := fadr_of tfi111_3 (by decide)
theorem xfld111_3 {cs : List Value} : fld Try.prog 111 (.agg ⟨cs⟩) 3 = cs[3]? := fld_sc tfi111_3 tag2
theorem xld111 {h : Heap} {b o : Nat} : ld Try.prog h 111 (.pointer (some ⟨b, o, none⟩)) = cells h b o 4 := ld_agg tsz111 tag111
theorem xst111 {ro : Nat} {h : Heap} {b o : Nat} {v : Value} : stv Try.prog ro h 111 (.pointer (some ⟨b, o, none⟩)) v = put ro h b o 4 v := stv_put tsz111
theorem xld112 {h : Heap} {b o : Nat} : ld Try.prog h 112 (.pointer (some ⟨b, o, none⟩)) = cell h b o := ld_sc tsz112 tag112
theorem xst112 {ro : Nat} {h : Heap} {b o : Nat} {v : Value} : stv Try.prog ro h 112 (.pointer (some ⟨b, o, none⟩)) v = put ro h b o 1 v := stv_put tsz112
theorem xld113 {h : Heap} {b o : Nat} : ld Try.prog h 113 (.pointer (some ⟨b, o, none⟩)) = cell h b o := ld_sc tsz113 tag113
theorem xst113 {ro : Nat} {h : Heap} {b o : Nat} {v : Value} : stv Try.prog ro h 113 (.pointer (some ⟨b, o, none⟩)) v = put ro h b o 1 v := stv_put tsz113
theorem xfad114_0 {b o : Nat} : fadr Try.prog 114 (.pointer (some ⟨b, o, none⟩)) 0 = some (.pointer (some ⟨b, o + 0, none⟩)) := fadr_of tfi114_0 (by decide)
theorem xfld114_0 {cs : List Value} : fld Try.prog 114 (.agg ⟨cs⟩) 0 = cs[0]? := fld_sc tfi114_0 tag2
theorem xfad114_1 {b o : Nat} : fadr Try.prog 114 (.pointer (some ⟨b, o, none⟩)) 1 = some (.pointer (some ⟨b, o + 1, none⟩)) := fadr_of tfi114_1 (by decide)
theorem xfld114_1 {cs : List Value} : fld Try.prog 114 (.agg ⟨cs⟩) 1 = cs[1]? := fld_sc tfi114_1 tag2
theorem xld114 {h : Heap} {b o : Nat} : ld Try.prog h 114 (.pointer (some ⟨b, o, none⟩)) = cells h b o 2 := ld_agg tsz114 tag114
theorem xst114 {ro : Nat} {h : Heap} {b o : Nat} {v : Value} : stv Try.prog ro h 114 (.pointer (some ⟨b, o, none⟩)) v = put ro h b o 2 v := stv_put tsz114
theorem xfad115_0 {b o : Nat} : fadr Try.prog 115 (.pointer (some ⟨b, o, none⟩)) 0 = some (.pointer (some ⟨b, o + 0, none⟩)) := fadr_of tfi115_0 (by decide)
theorem xfld115_0 {cs : List Value} : fld Try.prog 115 (.agg ⟨cs⟩) 0 = cs[0]? := fld_sc tfi115_0 tag2
theorem xfad115_1 {b o : Nat} : fadr Try.prog 115 (.pointer (some ⟨b, o, none⟩)) 1 = some (.pointer (some ⟨b, o + 1, none⟩)) := fadr_of tfi115_1 (by decide)
theorem xfld115_1 {cs : List Value} : fld Try.prog 115 (.agg ⟨cs⟩) 1 = cs[1]? := fld_sc tfi115_1 tag2
theorem xld115 {h : Heap} {b o : Nat} : ld Try.prog h 115 (.pointer (some ⟨b, o, none⟩)) = cells h b o 2 := ld_agg tsz115 tag115
theorem xst115 {ro : Nat} {h : Heap} {b o : Nat} {v : Value} : stv Try.prog ro h 115 (.pointer (some ⟨b, o, none⟩)) v = put ro h b o 2 v := stv_put tsz115
theorem xld116 {h : Heap} {b o : Nat} : ld Try.prog h 116 (.pointer (some ⟨b, o, none⟩)) = cell h b o := ld_sc tsz116 tag116
theorem xst116 {ro : Nat} {h : Heap} {b o : Nat} {v : Value} : stv Try.prog ro h 116 (.pointer (some ⟨b, o, none⟩)) v = put ro h b o 1 v := stv_put tsz116
theorem xld117 {h : Heap} {b o : Nat} : ld Try.prog h 117 (.pointer (some ⟨b, o, none⟩)) = cell h b o := ld_sc tsz117 tag117
theorem xst117 {ro : Nat} {h : Heap} {b o : Nat} {v : Value} : stv Try.prog ro h 117 (.pointer (some ⟨b, o, none⟩)) v = put ro h b o 1 v := stv_put tsz117
theorem xld118 {h : Heap} {b o : Nat} : ld Try.prog h 118 (.pointer (some ⟨b, o, none⟩)) = cell h b o := ld_sc tsz118 tag118
theorem xst118 {ro : Nat} {h : Heap} {b o : Nat} {v : Value} : stv Try.prog ro h 118 (.pointer (some ⟨b, o, none⟩)) v = put ro h b o 1 v := stv_put tsz118
theorem xfad119_0 {b o : Nat} : fadr Try.prog 119 (.pointer (some ⟨b, o, none⟩)) 0 = some (.pointer (some ⟨b, o + 0, none⟩)) := fadr_of tfi119_0 (by decide)
theorem xfld119_0 {cs : List Value} : fld Try.prog 119 (.agg ⟨cs⟩) 0 = cs[0]? := fld_sc tfi119_0 tag2
theorem xfad119_1 {b o : Nat} : fadr Try.prog 119 (.pointer (some ⟨b, o, none⟩)) 1 = some (.pointer (some ⟨b, o + 1, none⟩)) := fadr_of tfi119_1 (by decide)
theorem xfld119_1 {cs : List Value} : fld Try.prog 119 (.agg ⟨cs⟩) 1 = cs[1]? := fld_sc tfi119_1 tag2
theorem xld119 {h : Heap} {b o : Nat} : ld Try.prog h 119 (.pointer (some ⟨b, o, none⟩)) = cells h b o 2 := ld_agg tsz119 tag119
theorem xst119 {ro : Nat} {h : Heap} {b o : Nat} {v : Value} : stv Try.prog ro h 119 (.pointer (some ⟨b, o, none⟩)) v = put ro h b o 2 v := stv_put tsz119
theorem xld120 {h : Heap} {b o : Nat} : ld Try.prog h 120 (.pointer (some ⟨b, o, none⟩)) = cell h b o := ld_sc tsz120 tag120
theorem xst120 {ro : Nat} {h : Heap} {b o : Nat} {v : Value} : stv Try.prog ro h 120 (.pointer (some ⟨b, o, none⟩)) v = put ro h b o 1 v := stv_put tsz120
theorem xld121 {h : Heap} {b o : Nat} : ld Try.prog h 121 (.pointer (some ⟨b, o, none⟩)) = cell h b o := ld_sc tsz121 tag121
theorem xst121 {ro : Nat} {h : Heap} {b o : Nat} {v : Value} : stv Try.prog ro h 121 (.pointer (some ⟨b, o, none⟩)) v = put ro h b o 1 v := stv_put tsz121
theorem xld122 {h : Heap} {b o : Nat} : ld Try.prog h 122 (.pointer (some ⟨b, o, none⟩)) = cell h b o := ld_sc tsz122 tag122
theorem xst122 {ro : Nat} {h : Heap} {b o : Nat} {v : Value} : stv Try.prog ro h 122 (.pointer (some ⟨b, o, none⟩)) v = put ro h b o 1 v := stv_put tsz122
theorem xld123 {h : Heap} {b o : Nat} : ld Try.prog h 123 (.pointer (some ⟨b, o, none⟩)) = cell h b o := ld_sc tsz123 tag123
theorem xst123 {ro : Nat} {h : Heap} {b o : Nat} {v : Value} : stv Try.prog ro h 123 (.pointer (some ⟨b, o, none⟩)) v = put ro h b o 1 v := stv_put tsz123
theorem xld124 {h : Heap} {b o : Nat} : ld Try.prog h 124 (.pointer (some ⟨b, o, none⟩)) = cell h b o := ld_sc tsz124 tag124
theorem xst124 {ro : Nat} {h : Heap} {b o : Nat} {v : Value} : stv Try.prog ro h 124 (.pointer (some ⟨b, o, none⟩)) v = put ro h b o 1 v := stv_put tsz124
theorem xld125 {h : Heap} {b o : Nat} : ld Try.prog h 125 (.pointer (some ⟨b, o, none⟩)) = cell h b o := ld_sc tsz125 tag125
theorem xst125 {ro : Nat} {h : Heap} {b o : Nat} {v : Value} : stv Try.prog ro h 125 (.pointer (some ⟨b, o, none⟩)) v = put ro h b o 1 v := stv_put tsz125
theorem xld126 {h : Heap} {b o : Nat} : ld Try.prog h 126 (.pointer (some ⟨b, o, none⟩)) = cell h b o := ld_sc tsz126 tag126
theorem xst126 {ro : Nat} {h : Heap} {b o : Nat} {v : Value} : stv Try.prog ro h 126 (.pointer (some ⟨b, o, none⟩)) v = put ro h b o 1 v := stv_put tsz126
theorem xld127 {h : Heap} {b o : Nat} : ld Try.prog h 127 (.pointer (some ⟨b, o, none⟩)) = cell h b o := ld_sc tsz127 tag127
theorem xst127 {ro : Nat} {h : Heap} {b o : Nat} {v : Value} : stv Try.prog ro h 127 (.pointer (some ⟨b, o, none⟩)) v = put ro h b o 1 v := stv_put tsz127
theorem xld128 {h : Heap} {b o : Nat} : ld Try.prog h 128 (.pointer (some ⟨b, o, none⟩)) = cell h b o := ld_sc tsz128 tag128
theorem xst128 {ro : Nat} {h : Heap} {b o : Nat} {v : Value} : stv Try.prog ro h 128 (.pointer (some ⟨b, o, none⟩)) v = put ro h b o 1 v := stv_put tsz128
theorem xld129 {h : Heap} {b o : Nat} : ld Try.prog h 129 (.pointer (some ⟨b, o, none⟩)) = cell h b o := ld_sc tsz129 tag129
theorem xst129 {ro : Nat} {h : Heap} {b o : Nat} {v : Value} : stv Try.prog ro h 129 (.pointer (some ⟨b, o, none⟩)) v = put ro h b o 1 v := stv_put tsz129
theorem xld130 {h : Heap} {b o : Nat} : ld Try.prog h 130 (.pointer (some ⟨b, o, none⟩)) = cell h b o := ld_sc tsz130 tag130
theorem xst130 {ro : Nat} {h : Heap} {b o : Nat} {v : Value} : stv Try.prog ro h 130 (.pointer (some ⟨b, o, none⟩)) v = put ro h b o 1 v := stv_put tsz130
theorem xld131 {h : Heap} {b o : Nat} : ld Try.prog h 131 (.pointer (some ⟨b, o, none⟩)) = cell h b o := ld_sc tsz131 tag131
theorem xst131 {ro : Nat} {h : Heap} {b o : Nat} {v : Value} : stv Try.prog ro h 131 (.pointer (some ⟨b, o, none⟩)) v = put ro h b o 1 v := stv_put tsz131
theorem xld132 {h : Heap} {b o : Nat} : ld Try.prog h 132 (.pointer (some ⟨b, o, none⟩)) = cell h b o := ld_sc tsz132 tag132
theorem xst132 {ro : Nat} {h : Heap} {b o : Nat} {v : Value} : stv Try.prog ro h 132 (.pointer (some ⟨b, o, none⟩)) v = put ro h b o 1 v := stv_put tsz132
theorem xld133 {h : Heap} {b o : Nat} : ld Try.prog h 133 (.pointer (some ⟨b, o, none⟩)) = cell h b o := ld_sc tsz133 tag133
theorem xst133 {ro : Nat} {h : Heap} {b o : Nat} {v : Value} : stv Try.prog ro h 133 (.pointer (some ⟨b, o, none⟩)) v = put ro h b o 1 v := stv_put tsz133
theorem xld134 {h : Heap} {b o : Nat} : ld Try.prog h 134 (.pointer (some ⟨b, o, none⟩)) = cell h b o := ld_sc tsz134 tag134
theorem xst134 {ro : Nat} {h : Heap} {b o : Nat} {v : Value} : stv Try.prog ro h 134 (.pointer (some ⟨b, o, none⟩)) v = put ro h b o 1 v := stv_put tsz134
theorem xld135 {h : Heap} {b o : Nat} : ld Try.prog h 135 (.pointer (some ⟨b, o, none⟩)) = cell h b o := ld_sc tsz135 tag135
theorem xst135 {ro : Nat} {h : Heap} {b o : Nat} {v : Value} : stv Try.prog ro h 135 (.pointer (some ⟨b, o, none⟩)) v = put ro h b o 1 v := stv_put tsz135
theorem xld136 {h : Heap} {b o : Nat} : ld Try.prog h 136 (.pointer (some ⟨b, o, none⟩)) = cell h b o := ld_sc tsz136 tag136
theorem xst136 {ro : Nat} {h : Heap} {b o : Nat} {v : Value} : stv Try.prog ro h 136 (.pointer (some ⟨b, o, none⟩)) v = put ro h b o 1 v := stv_put tsz136
theorem xld138 {h : Heap} {b o : Nat} : ld Try.prog h 138 (.pointer (some ⟨b, o, none⟩)) = cell h b o := ld_sc tsz138 tag138
theorem xst138 {ro : Nat} {h : Heap} {b o : Nat} {v : Value} : stv Try.prog ro h 138 (.pointer (some ⟨b, o, none⟩)) v = put ro h b o 1 v := stv_put tsz138
theorem xld139 {h : Heap} {b o : Nat} : ld Try.prog h 139 (.pointer (some ⟨b, o, none⟩)) = cell h b o := ld_sc tsz139 tag139
theorem xst139 {ro : Nat} {h : Heap} {b o : Nat} {v : Value} : stv Try.prog ro h 139 (.pointer (some ⟨b, o, none⟩)) v = put ro h b o 1 v := stv_put tsz139
theorem xld140 {h : Heap} {b o : Nat} : ld Try.prog h 140 (.pointer (some ⟨b, o, none⟩)) = cell h b o := ld_sc tsz140 tag140
theorem xst140 {ro : Nat} {h : Heap} {b o : Nat} {v : Value} : stv Try.prog ro h 140 (.pointer (some ⟨b, o, none⟩)) v = put ro h b o 1 v := stv_put tsz140
theorem xld141 {h : Heap} {b o : Nat} : ld Try.prog h 141 (.pointer (some ⟨b, o, none⟩)) = cell h b o := ld_sc tsz141 tag141
theorem xst141 {ro : Nat} {h : Heap} {b o : Nat} {v : Value} : stv Try.prog ro h 141 (.pointer (some ⟨b, o, none⟩)) v = put ro h b o 1 v := stv_put tsz141
theorem xld143 {h : Heap} {b o : Nat} : ld Try.prog h 143 (.pointer (some ⟨b, o, none⟩)) = cell h b o := ld_sc tsz143 tag143
theorem xst143 {ro : Nat} {h : Heap} {b o : Nat} {v : Value} : stv Try.prog ro h 143 (.pointer (some ⟨b, o, none⟩)) v = put ro h b o 1 v := stv_put tsz143
theorem xld144 {h : Heap} {b o : Nat} : ld Try.prog h 144 (.pointer (some ⟨b, o, none⟩)) = cell h b o := ld_sc tsz144 tag144
theorem xst144 {ro : Nat} {h : Heap} {b o : Nat} {v : Value} : stv Try.prog ro h 144 (.pointer (some ⟨b, o, none⟩)) v = put ro h b o 1 v := stv_put tsz144
theorem xld145 {h : Heap} {b o : Nat} : ld Try.prog h 145 (.pointer (some ⟨b, o, none⟩)) = cell h b o := ld_sc tsz145 tag145
theorem xst145 {ro : Nat} {h : Heap} {b o : Nat} {v : Value} : stv Try.prog ro h 145 (.pointer (some ⟨b, o, none⟩)) v = put ro h b o 1 v := stv_put tsz145
theorem xld146 {h : Heap} {b o : Nat} : ld Try.prog h 146 (.pointer (some ⟨b, o, none⟩)) = cell h b o := ld_sc tsz146 tag146
theorem xst146 {ro : Nat} {h : Heap} {b o : Nat} {v : Value} : stv Try.prog ro h 146 (.pointer (some ⟨b, o, none⟩)) v = put ro h b o 1 v := stv_put tsz146
theorem xld147 {h : Heap} {b o : Nat} : ld Try.prog h 147 (.pointer (some ⟨b, o, none⟩)) = cell h b o := ld_sc tsz147 tag147
theorem xst147 {ro : Nat} {h : Heap} {b o : Nat} {v : Value} : stv Try.prog ro h 147 (.pointer (some ⟨b, o, none⟩)) v = put ro h b o 1 v := stv_put tsz147
theorem xld148 {h : Heap} {b o : Nat} : ld Try.prog h 148 (.pointer (some ⟨b, o, none⟩)) = cell h b o := ld_sc tsz148 tag148
theorem xst148 {ro : Nat} {h : Heap} {b o : Nat} {v : Value} : stv Try.prog ro h 148 (.pointer (some ⟨b, o, none⟩)) v = put ro h b o 1 v := stv_put tsz148
theorem xld149 {h : Heap} {b o : Nat} : ld Try.prog h 149 (.pointer (some ⟨b, o, none⟩)) = cell h b o := ld_sc tsz149 tag149
theorem xst149 {ro : Nat} {h : Heap} {b o : Nat} {v : Value} : stv Try.prog ro h 149 (.pointer (some ⟨b, o, none⟩)) v = put ro h b o 1 v := stv_put tsz149
theorem xlen150 {ro : Nat} {a : Option Addr} {n c : Nat} {h : Heap} : ablt Try.prog ro .len [150] [.slice a n c] h = some (.int .i64 n, h) := len_slc Try.underlying150
theorem xiad150 {b o len cap : Nat} {k : IntKind} {n : Int} (h0 : 0 ≤ n) (h1 : n < len) : iadr Try.prog 150 (.slice (some ⟨b, o, none⟩) len cap) (.int k n) = some (.pointer (some ⟨b, o + n.toNat * 1, none⟩)) := iadr_slc Try.underlying150 tsz5 h0 h1
theorem xld150 {h : Heap} {b o : Nat} : ld Try.prog h 150 (.pointer (some ⟨b, o, none⟩)) = cell h b o := ld_sc tsz150 tag150
theorem xst150 {ro : Nat} {h : Heap} {b o : Nat} {v : Value} : stv Try.prog ro h 150 (.pointer (some ⟨b, o, none⟩)) v = put ro h b o 1 v := stv_put tsz150
theorem xld151 {h : Heap} {b o : Nat} : ld Try.prog h 151 (.pointer (some ⟨b, o, none⟩)) = cell h b o := ld_sc tsz151 tag151
theorem xst151 {ro : Nat} {h : Heap} {b o : Nat} {v : Value} : stv Try.prog ro h 151 (.pointer (some ⟨b, o, none⟩)) v = put ro h b o 1 v := stv_put tsz151
theorem xld152 {h : Heap} {b o : Nat} : ld Try.prog h 152 (.pointer (some ⟨b, o, none⟩)) = cell h b o := ld_sc tsz152 tag152
theorem xst152 {ro : Nat} {h : Heap} {b o : Nat} {v : Value} : stv Try.prog ro h 152 (.pointer (some ⟨b, o, none⟩)) v = put ro h b o 1 v := stv_put tsz152
theorem xld153 {h : Heap} {b o : Nat} : ld Try.prog h 153 (.pointer (some ⟨b, o, none⟩)) = cell h b o := ld_sc tsz153 tag153
theorem xst153 {ro : Nat} {h : Heap} {b o : Nat} {v : Value} : stv Try.prog ro h 153 (.pointer (some ⟨b, o, none⟩)) v = put ro h b o 1 v := stv_put tsz153
theorem xld154 {h : Heap} {b o : Nat} : ld Try.prog h 154 (.pointer (some ⟨b, o, none⟩)) = cell h b o := ld_sc tsz154 tag154
theorem xst154 {ro : Nat} {h : Heap} {b o : Nat} {v : Value} : stv Try.prog ro h 154 (.pointer (some ⟨b, o, none⟩)) v = put ro h b o 1 v := stv_put tsz154
theorem xfad155_0 {b o : Nat} : fadr Try.prog 155 (.pointer (some ⟨b, o, none⟩)) 0 = some (.pointer (some ⟨b, o + 0, none⟩)) := fadr_of tfi155_0 (by decide)
theorem xfld155_0 {cs : List Value} : fld Try.prog 155 (.agg ⟨cs⟩) 0 = cs[0]? := fld_sc tfi155_0 tag17
theorem xfad155_1 {b o : Nat} : fadr Try.prog 155 (.pointer (some ⟨b, o, none⟩)) 1 = some (.pointer (some ⟨b, o + 1, none⟩)) := fadr_of tfi155_1 (by decide)
theorem xfld155_1 {cs : List Value} : fld Try.prog 155 (.agg ⟨cs⟩) 1 = cs[1]? := fld_sc tfi155_1 tag17
theorem xfad155_2 {b o : Nat} : fadr Try.prog 155 (.pointer (some ⟨b, o, none⟩)) 2 = some (.pointer (some ⟨b, o + 2, none⟩)) := fadr_of tfi155_2 (by decide)
theorem xfld155_2 {cs : List Value} : fld Try.prog 155 (.agg ⟨cs⟩) 2 = cs[2]? := fld_sc tfi155_2 tag17
theorem xfad155_3 {b o : Nat} : fadr Try.prog 155 (.pointer (some ⟨b, o, none⟩)) 3 = some (.pointer (some ⟨b, o + 3, none⟩)) := fadr_of tfi155_3 (by decide)
theorem xfld155_3 {cs : List Value} : fld Try.prog 155 (.agg ⟨cs⟩) 3 = cs[3]? := fld_sc tfi155_3 tag9
theorem xld155 {h : Heap} {b o : Nat} : ld Try.prog h 155 (.pointer (some ⟨b, o, none⟩)) = cells h b o 4 := ld_agg tsz155 tag155
theorem xst155 {ro : Nat} {h : Heap} {b o : Nat} {v : Value} : stv Try.prog ro h 155 (.pointer (some ⟨b, o, none⟩)) v = put ro h b o 4 v := stv_put tsz155
theorem xfad156_0 {b o : Nat} : fadr Try.prog 156 (.pointer (some ⟨b, o, none⟩)) 0 = some (.pointer (some ⟨b, o + 0, none⟩)) := fadr_of tfi156_0 (by decide)
theorem xfld156_0 {cs : List Value} : fld Try.prog 156 (.agg ⟨cs⟩) 0 = cs[0]? := fld_sc tfi156_0 tag17
theorem xfad156_1 {b o : Nat} : fadr Try.prog 156 (.pointer (some ⟨b, o, none⟩)) 1 = some (.pointer (some ⟨b, o + 1, none⟩)) := fadr_of tfi156_1 (by decide)
theorem xfld156_1 {cs : List Value} : fld Try.prog 156 (.agg ⟨cs⟩) 1 = cs[1]? := fld_sc tfi156_1 tag17
theorem xfad156_2 {b o : Nat} : fadr Try.prog 156 (.pointer (some ⟨b, o, none⟩)) 2 = some (.pointer (some ⟨b, o + 2, none⟩)) := fadr_of tfi156_2 (by decide)
theorem xfld156_2 {cs : List Value} : fld Try.prog 156 (.agg ⟨cs⟩) 2 = cs[2]? := fld_sc tfi156_2 tag17
theorem xfad156_3 {b o : Nat} : fadr Try.prog 156 (.pointer (some ⟨b, o, none⟩)) 3 = some (.pointer (some ⟨b, o + 3, none⟩)) := fadr_of tfi156_3 (by decide)
theorem xfld156_3 {cs : List Value} : fld Try.prog 156 (.agg ⟨cs⟩) 3 = cs[3]? := fld_sc tfi156_3 tag9
theorem xld156 {h : Heap} {b o : Nat} : ld Try.prog h 156 (.pointer (some ⟨b, o, none⟩)) = cells h b o 4 := ld_agg tsz156 tag156
theorem xst156 {ro : Nat} {h : Heap} {b o : Nat} {v : Value} : stv Try.prog ro h 156 (.pointer (some ⟨b, o, none⟩)) v = put ro h b o 4 v := stv_put tsz156
theorem xld157 {h : Heap} {b o : Nat} : ld Try.prog h 157 (.pointer (some ⟨b, o, none⟩)) = cells h b o 0 := ld_agg tsz157 tag157
theorem xst157 {ro : Nat} {h : Heap} {b o : Nat} {v : Value} : stv Try.prog ro h 157 (.pointer (some ⟨b, o, none⟩)) v = put ro h b o 0 v := stv_put tsz157
theorem xfld158_0 {cs : List Value} : fld Try.prog 158 (.agg ⟨cs⟩) 0 = some (.agg ⟨(cs.drop 0).take 0⟩) := fld_agg tfi158_0 tag157
theorem xld158 {h : Heap} {b o : Nat} : ld Try.prog h 158 (.pointer (some ⟨b, o, none⟩)) = cells h b o 0 := ld_agg tsz158 tag158
theorem xst158 {ro : Nat} {h : Heap} {b o : Nat} {v : Value} : stv Try.prog ro h 158 (.pointer (some ⟨b, o, none⟩)) v = put ro h b o 0 v := stv_put tsz158
theorem xfld159_0 {cs : List Value} : fld Try.prog 159 (.agg ⟨cs⟩) 0 = some (.agg ⟨(cs.drop 0).take 0⟩) := fld_agg tfi159_0 tag157
theorem xld159 {h : Heap} {b o : Nat} : ld Try.prog h 159 (.pointer (some ⟨b, o, none⟩)) = cells h b o 0 := ld_agg tsz159 tag159
theorem xst159 {ro : Nat} {h : Heap} {b o : Nat} {v : Value} : stv Try.prog ro h 159 (.pointer (some ⟨b, o, none⟩)) v = put ro h b o 0 v := stv_put tsz159
theorem xld160 {h : Heap} {b o : Nat} : ld Try.prog h 160 (.pointer (some ⟨b, o, none⟩)) = cell h b o := ld_sc tsz160 tag160
theorem xst160 {ro : Nat} {h : Heap} {b o : Nat} {v : Value} : stv Try.prog ro h 160 (.pointer (some ⟨b, o, none⟩)) v = put ro h b o 1 v := stv_put tsz160
theorem xld161 {h : Heap} {b o : Nat} : ld Try.prog h 161 (.pointer (some ⟨b, o, none⟩)) = cell h b o := ld_sc tsz161 tag161
theorem xst161 {ro : Nat} {h : Heap} {b o : Nat} {v : Value} : stv Try.prog ro h 161 (.pointer (some ⟨b, o, none⟩)) v = put ro h b o 1 v := stv_put tsz161
theorem xld162 {h : Heap} {b o : Nat} : ld Try.prog h 162 (.pointer (some ⟨b, o, none⟩)) = cell h b o := ld_sc tsz162 tag162
theorem xst162 {ro : Nat} {h : Heap} {b o : Nat} {v : Value} : stv Try.prog ro h 162 (.pointer (some ⟨b, o, none⟩)) v = put ro h b o 1 v := stv_put tsz162
theorem xld163 {h : Heap} {b o : Nat} : ld Try.prog h 163 (.pointer (some ⟨b, o, none⟩)) = cell h b o := ld_sc tsz163 tag163
theorem xst163 {ro : Nat} {h : Heap} {b o : Nat} {v : Value} : stv Try.prog ro h 163 (.pointer (some ⟨b, o, none⟩)) v = put ro h b o 1 v := stv_put tsz163
theorem xld164 {h : Heap} {b o : Nat} : ld Try.prog h 164 (.pointer (some ⟨b, o, none⟩)) = cell h b o := ld_sc tsz164 tag164
theorem xst164 {ro : Nat} {h : Heap} {b o : Nat} {v : Value} : stv Try.prog ro h 164 (.pointer (some ⟨b, o, none⟩)) v = put ro h b o 1 v := stv_put tsz164
theorem xld165 {h : Heap} {b o : Nat} : ld Try.prog h 165 (.pointer (some ⟨b, o, none⟩)) = cell h b o := ld_sc tsz165 tag165
theorem xst165 {ro : Nat} {h : Heap} {b o : Nat} {v : Value} : stv Try.prog ro h 165 (.pointer (some ⟨b, o, none⟩)) v = put ro h b o 1 v := stv_put tsz165
theorem xfad166_0 {b o : Nat} : fadr Try.prog 166 (.pointer (some ⟨b, o, none⟩)) 0 = some (.pointer (some ⟨b, o + 0, none⟩)) := fadr_of tfi166_0 (by decide)
theorem xfld166_0 {cs : List Value} : fld Try.prog 166 (.agg ⟨cs⟩) 0 = cs[0]? := fld_sc tfi166_0 tag12
theorem xfad166_1 {b o : Nat} : fadr Try.prog 166 (.pointer (some ⟨b, o, none⟩)) 1 = some (.pointer (some ⟨b, o + 1, none⟩)) := fadr_of tfi166_1 (by decide)
theorem xfld166_1 {cs : List Value} : fld Try.prog 166 (.agg ⟨cs⟩) 1 = cs[1]? := fld_sc tfi166_1 tag12
theorem xfad166_2 {b o : Nat} : fadr Try.prog 166 (.pointer (some ⟨b, o, none⟩)) 2 = some (.pointer (some ⟨b, o + 2, none⟩)) := fadr_of tfi166_2 (by decide)
theorem xfld166_2 {cs : List Value} : fld Try.prog 166 (.agg ⟨cs⟩) 2 = cs[2]? := fld_sc tfi166_2 tag146
theorem xfad166_3 {b o : Nat} : fadr Try.prog 166 (.pointer (some ⟨b, o, none⟩)) 3 = some (.pointer (some ⟨b, o + 3, none⟩)) := fadr_of tfi166_3 (by decide)
theorem xfld166_3 {cs : List Value} : fld Try.prog 166 (.agg ⟨cs⟩) 3 = cs[3]? := fld_sc tfi166_3 tag160
theorem xfad166_4 {b o : Nat} : fadr Try.prog 166 (.pointer (some ⟨b, o, none⟩)) 4 = some (.pointer (some ⟨b, o + 4, none⟩)) := fadr_of tfi166_4 (by decide)
theorem xfld166_4 {cs : List Value} : fld Try.prog 166 (.agg ⟨cs⟩) 4 = cs[4]? := fld_sc tfi166_4 tag5
theorem xfad166_5 {b o : Nat} : fadr Try.prog 166 (.pointer (some ⟨b, o, none⟩)) 5 = some (.pointer (some ⟨b, o + 5, none⟩)) := fadr_of tfi166_5 (by decide)
theorem xfld166_5 {cs : List Value} : fld Try.prog 166 (.agg ⟨cs⟩) 5 = cs[5]? := fld_sc tfi166_5 tag5
theorem xfad166_6 {b o : Nat} : fadr Try.prog 166 (.pointer (some ⟨b, o, none⟩)) 6 = some (.pointer (some ⟨b, o + 6, none⟩)) := fadr_of tfi166_6 (by decide)
theorem xfld166_6 {cs : List Value} : fld Try.prog 166 (.agg ⟨cs⟩) 6 = cs[6]? := fld_sc tfi166_6 tag161
theorem xfad166_7 {b o : Nat} : fadr Try.prog 166 (.pointer (some ⟨b, o, none⟩)) 7 = some (.pointer (some ⟨b, o + 7, none⟩)) := fadr_of tfi166_7 (by decide)
theorem xfld166_7 {cs : List Value} : fld Try.prog 166 (.agg ⟨cs⟩) 7 = cs[7]? := fld_sc tfi166_7 tag162
theorem xfad166_8 {b o : Nat} : fadr Try.prog 166 (.pointer (some ⟨b, o, none⟩)) 8 = some (.pointer (some ⟨b, o + 8, none⟩)) := fadr_of tfi166_8 (by decide)
theorem xfld166_8 {cs : List Value} : fld Try.prog 166 (.agg ⟨cs⟩) 8 = cs[8]? := fld_sc tfi166_8 tag163
theorem xfad166_9 {b o : Nat} : fadr Try.prog 166 (.pointer (some ⟨b, o, none⟩)) 9 = some (.pointer (some ⟨b, o + 9, none⟩)) := fadr_of tfi166_9 (by decide)
theorem xfld166_9 {cs : List Value} : fld Try.prog 166 (.agg ⟨cs⟩) 9 = cs[9]? := fld_sc tfi166_9 tag164
theorem xfad166_10 {b o : Nat} : fadr Try.prog 166 (.pointer (some ⟨b, o, none⟩)) 10 = some (.pointer (some ⟨b, o + 10, none⟩)) := fadr_of tfi166_10 (by decide)
theorem xfld166_10 {cs : List Value} : fld Try.prog 166 (.agg ⟨cs⟩) 10 = cs[10]? := fld_sc tfi166_10 tag165
theorem xld166 {h : Heap} {b o : Nat} : ld Try.prog h 166 (.pointer (some ⟨b, o, none⟩)) = cells h b o 11 := ld_agg tsz166 tag166
theorem xst166 {ro : Nat} {h : Heap} {b o : Nat} {v : Value} : stv Try.prog ro h 166 (.pointer (some ⟨b, o, none⟩)) v = put ro h b o 11 v := stv_put tsz166
theorem xfad167_0 {b o : Nat} : fadr Try.prog 167 (.pointer (some ⟨b, o, none⟩)) 0 = some (.pointer (some ⟨b, o + 0, none⟩)) := fadr_of tfi167_0 (by decide)
theorem xfld167_0 {cs : List Value} : fld Try.prog 167 (.agg ⟨cs⟩) 0 = cs[0]? := fld_sc tfi167_0 tag12
theorem xfad167_1 {b o : Nat} : fadr Try.prog 167 (.pointer (some ⟨b, o, none⟩)) 1 = some (.pointer (some ⟨b, o + 1, none⟩)) := fadr_of tfi167_1 (by decide)
theorem xfld167_1 {cs : List Value} : fld Try.prog 167 (.agg ⟨cs⟩) 1 = cs[1]? := fld_sc tfi167_1 tag12
theorem xfad167_2 {b o : Nat} : fadr Try.prog 167 (.pointer (some ⟨b, o, none⟩)) 2 = some (.pointer (some ⟨b, o + 2, none⟩)) := fadr_of tfi167_2 (by decide)
theorem xfld167_2 {cs : List Value} : fld Try.prog 167 (.agg ⟨cs⟩) 2 = cs[2]? := fld_sc tfi167_2 tag146
theorem xfad167_3 {b o : Nat} : fadr Try.prog 167 (.pointer (some ⟨b, o, none⟩)) 3 = some (.pointer (some ⟨b, o + 3, none⟩)) := fadr_of tfi167_3 (by decide)
theorem xfld167_3 {cs : List Value} : fld Try.prog 167 (.agg ⟨cs⟩) 3 = cs[3]? := fld_sc tfi167_3 tag160
theorem xfad167_4 {b o : Nat} : fadr Try.prog 167 (.pointer (some ⟨b, o, none⟩)) 4 = some (.pointer (some ⟨b, o + 4, none⟩)) := fadr_of tfi167_4 (by decide)
theorem xfld167_4 {cs : List Value} : fld Try.prog 167 (.agg ⟨cs⟩) 4 = cs[4]? := fld_sc tfi167_4 tag5
theorem xfad167_5 {b o : Nat} : fadr Try.prog 167 (.pointer (some ⟨b, o, none⟩)) 5 = some (.pointer (some ⟨b, o + 5, none⟩)) := fadr_of tfi167_5 (by decide)
theorem xfld167_5 {cs : List Value} : fld Try.prog 167 (.agg ⟨cs⟩) 5 = cs[5]? := fld_sc tfi167_5 tag5
theorem xfad167_6 {b o : Nat} : fadr Try.prog 167 (.pointer (some ⟨b, o, none⟩)) 6 = some (.pointer (some ⟨b, o + 6, none⟩)) := fadr_of tfi167_6 (by decide)
theorem xfld167_6 {cs : List Value} : fld Try.prog 167 (.agg ⟨cs⟩) 6 = cs[6]? := fld_sc tfi167_6 tag161
theorem xfad167_7 {b o : Nat} : fadr Try.prog 167 (.pointer (some ⟨b, o, none⟩)) 7 = some (.pointer (some ⟨b, o + 7, none⟩)) := fadr_of tfi167_7 (by decide)
theorem xfld167_7 {cs : List Value} : fld Try.prog 167 (.agg ⟨cs⟩) 7 = cs[7]? := fld_sc tfi167_7 tag162
theorem xfad167_8 {b o : Nat} : fadr Try.prog 167 (.pointer (some ⟨b, o, none⟩)) 8 = some (.pointer (some ⟨b, o + 8, none⟩)) := fadr_of tfi167_8 (by decide)
theorem xfld167_8 {cs : List Value} : fld Try.prog 167 (.agg ⟨cs⟩) 8 = cs[8]? := fld_sc tfi167_8 tag163
theorem xfad167_9 {b o : Nat} : fadr Try.prog 167 (.pointer (some ⟨b, o, none⟩)) 9 = some (.pointer (some ⟨b, o + 9, none⟩)) := fadr_of tfi167_9 (by decide)
theorem xfld167_9 {cs : List Value} : fld Try.prog 167 (.agg ⟨cs⟩) 9 = cs[9]? := fld_sc tfi167_9 tag164
theorem xfad167_10 {b o : Nat} : fadr Try.prog 167 (.pointer (some ⟨b, o, none⟩)) 10 = some (.pointer (some ⟨b, o + 10, none⟩)) := fadr_of tfi167_10 (by decide)
theorem xfld167_10 {cs : List Value} : fld Try.prog 167 (.agg ⟨cs⟩) 10 = cs[10]? := fld_sc tfi167_10 tag165
theorem xld167 {h : Heap} {b o : Nat} : ld Try.prog h 167 (.pointer (some ⟨b, o, none⟩)) = cells h b o 11 := ld_agg tsz167 tag167
theorem xst167 {ro : Nat} {h : Heap} {b o : Nat} {v : Value} : stv Try.prog ro h 167 (.pointer (some ⟨b, o, none⟩)) v = put ro h b o 11 v := stv_put tsz167
theorem xld168 {h : Heap} {b o : Nat} : ld Try.prog h 168 (.pointer (some ⟨b, o, none⟩)) = cell h b o := ld_sc tsz168 tag168
theorem xst168 {ro : Nat} {h : Heap} {b o : Nat} {v : Value} : stv Try.prog ro h 168 (.pointer (some ⟨b, o, none⟩)) v = put ro h b o 1 v := stv_put tsz168
theorem xbls28_0 {h : Heap} : bldS Try.prog h 28 0 [] = some (.slice (some ⟨h.length, 0, none⟩) 0 0, h ++ [⟨85, []⟩]) := bldS_nil tel28 tsz85 tze85
theorem xbls28_1 {h : Heap} {v : Value} (hl : (cellsOf v).length = 2) (h1 : (cellsOf v).all one = true) : bldS Try.prog h 28 1 [(0, v)] = some (.slice (some ⟨h.length, 0, none⟩) 1 1, h ++ [⟨85, cellsOf v⟩]) := bldS_one tel28 tsz85 tze85 rfl (by decide) hl h1
theorem xbls29_0 {h : Heap} : bldS Try.prog h 29 0 [] = some (.slice (some ⟨h.length, 0, none⟩) 0 0, h ++ [⟨86, []⟩]) := bldS_nil tel29 tsz86 tze86
theorem xbls29_1 {h : Heap} {v : Value} (hl : (cellsOf v).length = 1) (h1 : (cellsOf v).all one = true) : bldS Try.prog h 29 1 [(0, v)] = some (.slice (some ⟨h.length, 0, none⟩) 1 1, h ++ [⟨86, cellsOf v⟩]) := bldS_one tel29 tsz86 tze86 rfl (by decide) hl h1
theorem xbls30_0 {h : Heap} : bldS Try.prog h 30 0 [] = some (.slice (some ⟨h.length, 0, none⟩) 0 0, h ++ [⟨29, []⟩]) := bldS_nil tel30 tsz29 tze29
theorem xbls30_1 {h : Heap} {v : Value} (hl : (cellsOf v).length = 1) (h1 : (cellsOf v).all one = true) : bldS Try.prog h 30 1 [(0, v)] = some (.slice (some ⟨h.length, 0, none⟩) 1 1, h ++ [⟨29, cellsOf v⟩]) := bldS_one tel30 tsz29 tze29 rfl (by decide) hl h1
theorem xbls37_0 {h : Heap} : bldS Try.prog h 37 0 [] = some (.slice (some ⟨h.length, 0, none⟩) 0 0, h ++ [⟨103, []⟩]) := bldS_nil tel37 tsz103 tze103
theorem xbls37_1 {h : Heap} {v : Value} (hl : (cellsOf v).length = 4) (h1 : (cellsOf v).all one = true) : bldS Try.prog h 37 1 [(0, v)] = some (.slice (some ⟨h.length, 0, none⟩) 1 1, h ++ [⟨103, cellsOf v⟩]) := bldS_one tel37 tsz103 tze103 rfl (by decide) hl h1
theorem xbls39_0 {h : Heap} : bldS Try.prog h 39 0 [] = some (.slice (some ⟨h.length, 0, none⟩) 0 0, h ++ [⟨63, []⟩]) := bldS_nil tel39 tsz63 tze63
theorem xbls39_1 {h : Heap} {v : Value} (hl : (cellsOf v).length = 1) (h1 : (cellsOf v).all one = true) : bldS Try.prog h 39 1 [(0, v)] = some (.slice (some ⟨h.length, 0, none⟩) 1 1, h ++ [⟨63, cellsOf v⟩]) := bldS_one tel39 tsz63 tze63 rfl (by decide) hl h1
theorem xbls42_0 {h : Heap} : bldS Try.prog h 42 0 [] = some (.slice (some ⟨h.length, 0, none⟩) 0 0, h ++ [⟨98, []⟩]) := bldS_nil tel42 tsz98 tze98
theorem xbls42_1 {h : Heap} {v : Value} (hl : (cellsOf v).length = 4) (h1 : (cellsOf v).all one = true) : bldS Try.prog h 42 1 [(0, v)] = some (.slice (some ⟨h.length, 0, none⟩) 1 1, h ++ [⟨98, cellsOf v⟩]) := bldS_one tel42 tsz98 tze98 rfl (by decide) hl h1
theorem xbls56_0 {h : Heap} : bldS Try.prog h 56 0 [] = some (.slice (some ⟨h.length, 0, none⟩) 0 0, h ++ [⟨115, []⟩]) := bldS_nil tel56 tsz115 tze115
theorem xbls56_1 {h : Heap} {v : Value} (hl : (cellsOf v).length = 2) (h1 : (cellsOf v).all one = true) : bldS Try.prog h 56 1 [(0, v)] = some (.slice (some ⟨h.length, 0, none⟩) 1 1, h ++ [⟨115, cellsOf v⟩]) := bldS_one tel56 tsz115 tze115 rfl (by decide) hl h1
theorem xbls61_0 {h : Heap} : bldS Try.prog h 61 0 [] = some (.slice (some ⟨h.length, 0, none⟩) 0 0, h ++ [⟨119, []⟩]) := bldS_nil tel61 tsz119 tze119
theorem xbls61_1 {h : Heap} {v : Value} (hl : (cellsOf v).length = 2) (h1 : (cellsOf v).all one = true) : bldS Try.prog h 61 1 [(0, v)] = some (.slice (some ⟨h.length, 0, none⟩) 1 1, h ++ [⟨119, cellsOf v⟩]) := bldS_one tel61 tsz119 tze119 rfl (by decide) hl h1
theorem xbls63_0 {h : Heap} : bldS Try.prog h 63 0 [] = some (.slice (some ⟨h.length, 0, none⟩) 0 0, h ++ [⟨2, []⟩]) := bldS_nil tel63 tsz2 tze2
theorem xbls63_1 {h : Heap} {v : Value} (hl : (cellsOf v).length = 1) (h1 : (cellsOf v).all one = true) : bldS Try.prog h 63 1 [(0, v)] = some (.slice (some ⟨h.length, 0, none⟩) 1 1, h ++ [⟨2, cellsOf v⟩]) := bldS_one tel63 tsz2 tze2 rfl (by decide) hl h1
theorem xbls72_0 {h : Heap} : bldS Try.prog h 72 0 [] = some (.slice (some ⟨h.length, 0, none⟩) 0 0, h ++ [⟨50, []⟩]) := bldS_nil tel72 tsz50 tze50
theorem xbls72_1 {h : Heap} {v : Value} (hl : (cellsOf v).length = 2) (h1 : (cellsOf v).all one = true) : bldS Try.prog h 72 1 [(0, v)] = some (.slice (some ⟨h.length, 0, none⟩) 1 1, h ++ [⟨50, cellsOf v⟩]) := bldS_one tel72 tsz50 tze50 rfl (by decide) hl h1
theorem xbls150_0 {h : Heap} : bldS Try.prog h 150 0 [] = some (.slice (some ⟨h.length, 0, none⟩) 0 0, h ++ [⟨5, []⟩]) := bldS_nil tel150 tsz5 tze5
theorem xbls150_1 {h : Heap} {v : Value} (hl : (cellsOf v).length = 1) (h1 : (cellsOf v).all one = true) : bldS Try.prog h 150 1 [(0, v)] = some (.slice (some ⟨h.length, 0, none⟩) 1 1, h ++ [⟨5, cellsOf v⟩]) := bldS_one tel150 tsz5 tze5 rfl (by decide) hl h1
theorem xbld85  : bld Try.prog 85 [] = some (.agg ⟨[.int .i64 0, .int .i64 0]⟩) := by
  simp only [bld, tze85, tpl85, Option.bind_some, lay, cellsOf_agg, List.getElem?_cons_zero, List.getElem?_cons_succ, List.length_cons, List.length_nil, ne_eq, not_true_eq_false, false_or, Nat.reduceAdd, Nat.reduceLeDiff, Nat.reduceGT, gt_iff_lt, Nat.reduceLT, Nat.lt_irrefl, if_false, Nat.not_lt_zero]
  simp [splice]
theorem xbld32_0_1 {v0 v1 : Value} (h0 : cellsOf v0 = [v0]) (h1 : cellsOf v1 = [v1]) : bld Try.prog 32 [(0, v0), (1, v1)] = some (.agg ⟨[v0, v1, .slice none 0 0]⟩) := by
  simp only [bld, tze32, tpl32, Option.bind_some, lay, cellsOf_agg, h0, h1, List.getElem?_cons_zero, List.getElem?_cons_succ, List.length_cons, List.length_nil, ne_eq, not_true_eq_false, false_or, Nat.reduceAdd, Nat.reduceLeDiff, Nat.reduceGT, gt_iff_lt, Nat.reduceLT, Nat.lt_irrefl, if_false, Nat.not_lt_zero]
  simp [splice]
theorem xbld50  : bld Try.prog 50 [] = some (.agg ⟨[.int .i64 0, .slice none 0 0]⟩) := by
  simp only [bld, tze50, tpl50, Option.bind_some, lay, cellsOf_agg, List.getElem?_cons_zero, List.getElem?_cons_succ, List.length_cons, List.length_nil, ne_eq, not_true_eq_false, false_or, Nat.reduceAdd, Nat.reduceLeDiff, Nat.reduceGT, gt_iff_lt, Nat.reduceLT, Nat.lt_irrefl, if_false, Nat.not_lt_zero]
  simp [splice]
theorem xbld111_0_1 {v0 v1 : Value} (h0 : cellsOf v0 = [v0]) (h1 : cellsOf v1 = [v1]) : bld Try.prog 111 [(0, v0), (1, v1)] = some (.agg ⟨[v0, v1, .slice none 0 0, .int .i64 0]⟩) := by
  simp only [bld, tze111, tpl111, Option.bind_some, lay, cellsOf_agg, h0, h1, List.getElem?_cons_zero, List.getElem?_cons_succ, List.length_cons, List.length_nil, ne_eq, not_true_eq_false, false_or, Nat.reduceAdd, Nat.reduceLeDiff, Nat.reduceGT, gt_iff_lt, Nat.reduceLT, Nat.lt_irrefl, if_false, Nat.not_lt_zero]
  simp [splice]
theorem xbld115_0_1 {v0 v1 : Value} (h0 : cellsOf v0 = [v0]) (h1 : cellsOf v1 = [v1]) : bld Try.prog 115 [(0, v0), (1, v1)] = some (.agg ⟨[v0, v1]⟩) := by
  simp only [bld, tze115, tpl115, Option.bind_some, lay, cellsOf_agg, h0, h1, List.getElem?_cons_zero, List.getElem?_cons_succ, List.length_cons, List.length_nil, ne_eq, not_true_eq_false, false_or, Nat.reduceAdd, Nat.reduceLeDiff, Nat.reduceGT, gt_iff_lt, Nat.reduceLT, Nat.lt_irrefl, if_false, Nat.not_lt_zero]
  simp [splice]
theorem xbld74  : bld Try.prog 74 [] = some (.agg ⟨[.int .i64 0, .slice none 0 0]⟩) := by
  simp only [bld, tze74, tpl74, Option.bind_some, lay, cellsOf_agg, List.getElem?_cons_zero, List.getElem?_cons_succ, List.length_cons, List.length_nil, ne_eq, not_true_eq_false, false_or, Nat.reduceAdd, Nat.reduceLeDiff, Nat.reduceGT, gt_iff_lt, Nat.reduceLT, Nat.lt_irrefl, if_false, Nat.not_lt_zero]
  simp [splice]
theorem xbld74_0 {v0 : Value} (h0 : cellsOf v0 = [v0]) : bld Try.prog 74 [(0, v0)] = some (.agg ⟨[v0, .slice none 0 0]⟩) := by
  simp only [bld, tze74, tpl74, Option.bind_some, lay, cellsOf_agg, h0, List.getElem?_cons_zero, List.getElem?_cons_succ, List.length_cons, List.length_nil, ne_eq, not_true_eq_false, false_or, Nat.reduceAdd, Nat.reduceLeDiff, Nat.reduceGT, gt_iff_lt, Nat.reduceLT, Nat.lt_irrefl, if_false, Nat.not_lt_zero]
  simp [splice]
theorem xbld32_0_1_2 {v0 v1 v2 : Value} (h0 : cellsOf v0 = [v0]) (h1 : cellsOf v1 = [v1]) (h2 : cellsOf v2 = [v2]) : bld Try.prog 32 [(0, v0), (1, v1), (2, v2)] = some (.agg ⟨[v0, v1, v2]⟩) := by
  simp only [bld, tze32, tpl32, Option.bind_some, lay, cellsOf_agg, h0, h1, h2, List.getElem?_cons_zero, List.getElem?_cons_succ, List.length_cons, List.length_nil, ne_eq, not_true_eq_false, false_or, Nat.reduceAdd, Nat.reduceLeDiff, Nat.reduceGT, gt_iff_lt, Nat.reduceLT, Nat.lt_irrefl, if_false, Nat.not_lt_zero]
  simp [splice]
theorem xbld50_1 {v0 : Value} (h0 : cellsOf v0 = [v0]) : bld Try.prog 50 [(1, v0)] = some (.agg ⟨[.int .i64 0, v0]⟩) := by
  simp only [bld, tze50, tpl50, Option.bind_some, lay, cellsOf_agg, h0, List.getElem?_cons_zero, List.getElem?_cons_succ, List.length_cons, List.length_nil, ne_eq, not_true_eq_false, false_or, Nat.reduceAdd, Nat.reduceLeDiff, Nat.reduceGT, gt_iff_lt, Nat.reduceLT, Nat.lt_irrefl, if_false, Nat.not_lt_zero]
  simp [splice]
theorem xbld50_0 {v0 : Value} (h0 : cellsOf v0 = [v0]) : bld Try.prog 50 [(0, v0)] = some (.agg ⟨[v0, .slice none 0 0]⟩) := by
  simp only [bld, tze50, tpl50, Option.bind_some, lay, cellsOf_agg, h0, List.getElem?_cons_zero, List.getElem?_cons_succ, List.length_cons, List.length_nil, ne_eq, not_true_eq_false, false_or, Nat.reduceAdd, Nat.reduceLeDiff, Nat.reduceGT, gt_iff_lt, Nat.reduceLT, Nat.lt_irrefl, if_false, Nat.not_lt_zero]
  simp [splice]
theorem xbld74_0_1 {v0 v1 : Value} (h0 : cellsOf v0 = [v0]) (h1 : cellsOf v1 = [v1]) : bld Try.prog 74 [(0, v0), (1, v1)] = some (.agg ⟨[v0, v1]⟩) := by
  simp only [bld, tze74, tpl74, Option.bind_some, lay, cellsOf_agg, h0, h1, List.getElem?_cons_zero, List.getElem?_cons_succ, List.length_cons, List.length_nil, ne_eq, not_true_eq_false, false_or, Nat.reduceAdd, Nat.reduceLeDiff, Nat.reduceGT, gt_iff_lt, Nat.reduceLT, Nat.lt_irrefl, if_false, Nat.not_lt_zero]
  simp [splice]
theorem xcv5_2 {h : Heap} {k' : IntKind} {n : Int} : aconv Try.prog h 5 2 (.int k' n) = some (.int .i64 (IntKind.i64.wrap n)) := conv_int Try.underlying5 Try.underlying2
theorem xcv86_125 {h : Heap} {q : FloatKind} {a b : Nat} : aconv Try.prog h 86 125 (.complex q a b) = (fconv q a .f64).bind fun u => (fconv q b .f64).map fun v => .complex .f64 u v := conv_cc Try.underlying86 Try.underlying125
theorem xcv3_126 {h : Heap} {k' : IntKind} {n : Int} : aconv Try.prog h 3 126 (.int k' n) = some (.float .f64 (cf .f64 (FloatKind.nearest .f64 n))) := conv_if Try.underlying3 Try.underlying126
theorem xcv125_86 {h : Heap} {q : FloatKind} {a b : Nat} : aconv Try.prog h 125 86 (.complex q a b) = (fconv q a .f32).bind fun u => (fconv q b .f32).map fun v => .complex .f32 u v := conv_cc Try.underlying125 Try.underlying86
theorem xcv2_146 {h : Heap} {k' : IntKind} {n : Int} : aconv Try.prog h 2 146 (.int k' n) = some (.int .u32 (IntKind.u32.wrap n)) := conv_int Try.underlying2 Try.underlying146
theorem xcv3_144 {h : Heap} {k' : IntKind} {n : Int} : aconv Try.prog h 3 144 (.int k' n) = some (.int .u64 (IntKind.u64.wrap n)) := conv_int Try.underlying3 Try.underlying144
theorem xcv2_5 {h : Heap} {k' : IntKind} {n : Int} : aconv Try.prog h 2 5 (.int k' n) = some (.int .u8 (IntKind.u8.wrap n)) := conv_int Try.underlying2 Try.underlying5
theorem xcv146_2 {h : Heap} {k' : IntKind} {n : Int} : aconv Try.prog h 146 2 (.int k' n) = some (.int .i64 (IntKind.i64.wrap n)) := conv_int Try.underlying146 Try.underlying2
theorem fr0 : Try.f0.results.toList = [] := rfl
theorem fr1 : Try.f1.results.toList = [] := rfl
theorem fr2 : Try.f2.results.toList = [] := rfl
theorem fr3 : Try.f3.results.toList = [.tmp 2] := rfl
theorem fr4 : Try.f4.results.toList = [.tmp 4] := rfl
theorem fr5 : Try.f5.results.toList = [.tmp 0] := rfl
theorem fr6 : Try.f6.results.toList = [.tmp 4] := rfl
theorem fr7 : Try.f7.results.toList = [.tmp 4] := rfl
theorem fr8 : Try.f8.results.toList = [.tmp 4] := rfl
theorem fr9 : Try.f9.results.toList = [.tmp 4] := rfl
theorem fr10 : Try.f10.results.toList = [.tmp 6] := rfl
theorem fr11 : Try.f11.results.toList = [.tmp 2] := rfl
theorem fr12 : Try.f12.results.toList = [.tmp 2] := rfl
theorem fr13 : Try.f13.results.toList = [.tmp 2, .tmp 3] := rfl
theorem fr14 : Try.f14.results.toList = [.tmp 2, .tmp 3] := rfl
theorem fr15 : Try.f15.results.toList = [.tmp 4, .tmp 5, .tmp 6] := rfl
theorem fr16 : Try.f16.results.toList = [.tmp 4, .tmp 5, .tmp 6] := rfl
theorem fr17 : Try.f17.results.toList = [.cell 0 32] := rfl
theorem fr18 : Try.f18.results.toList = [.cell 0 32] := rfl
theorem fr19 : Try.f19.results.toList = [.tmp 4] := rfl
theorem fr20 : Try.f20.results.toList = [.tmp 4] := rfl
theorem fr21 : Try.f21.results.toList = [.tmp 4] := rfl
theorem fr22 : Try.f22.results.toList = [.tmp 4] := rfl
theorem fr23 : Try.f23.results.toList = [.tmp 4, .tmp 5] := rfl
theorem fr24 : Try.f24.results.toList = [.tmp 2] := rfl
theorem fr25 : Try.f25.results.toList = [.tmp 4, .tmp 5] := rfl
theorem fr26 : Try.f26.results.toList = [.tmp 4] := rfl
theorem fr27 : Try.f27.results.toList = [.tmp 4] := rfl
theorem fr28 : Try.f28.results.toList = [.tmp 4] := rfl
theorem fr29 : Try.f29.results.toList = [.tmp 4] := rfl
theorem fr30 : Try.f30.results.toList = [.tmp 4] := rfl
theorem fr31 : Try.f31.results.toList = [.cell 4 50, .tmp 5] := rfl
theorem fr32 : Try.f32.results.toList = [.cell 4 50, .tmp 5] := rfl
theorem fr33 : Try.f33.results.toList = [.tmp 4] := rfl
theorem fr34 : Try.f34.results.toList = [.tmp 4] := rfl
theorem fr35 : Try.f35.results.toList = [.tmp 4] := rfl
theorem fr36 : Try.f36.results.toList = [.tmp 4, .tmp 5] := rfl
theorem fr37 : Try.f37.results.toList = [.tmp 4, .tmp 5] := rfl
theorem fr38 : Try.f38.results.toList = [.tmp 4] := rfl
theorem fr39 : Try.f39.results.toList = [.tmp 4] := rfl
theorem fr40 : Try.f40.results.toList = [.tmp 4] := rfl
theorem fr41 : Try.f41.results.toList = [.tmp 4] := rfl
theorem fr42 : Try.f42.results.toList = [.tmp 4, .tmp 5] := rfl
theorem fr43 : Try.f43.results.toList = [.tmp 2] := rfl
theorem fr44 : Try.f44.results.toList = [.tmp 4, .tmp 5] := rfl
theorem fr45 : Try.f45.results.toList = [.tmp 4] := rfl
theorem fr46 : Try.f46.results.toList = [.tmp 4] := rfl
theorem fr47 : Try.f47.results.toList = [.tmp 4] := rfl
theorem fr48 : Try.f48.results.toList = [.tmp 6, .tmp 7] := rfl
theorem fr49 : Try.f49.results.toList = [.tmp 6, .tmp 7] := rfl
theorem fr50 : Try.f50.results.toList = [.cell 2 74, .tmp 3, .tmp 4] := rfl
theorem fr51 : Try.f51.results.toList = [.cell 2 74, .tmp 3, .tmp 4] := rfl
theorem fr52 : Try.f52.results.toList = [.tmp 4] := rfl
theorem fr53 : Try.f53.results.toList = [.tmp 4] := rfl
theorem fr54 : Try.f54.results.toList = [.tmp 4] := rfl
theorem fr55 : Try.f55.results.toList = [.cell 2 74, .tmp 3] := rfl
theorem fr56 : Try.f56.results.toList = [.cell 2 74, .tmp 3] := rfl
theorem fr57 : Try.f57.results.toList = [.tmp 2] := rfl
theorem fr58 : Try.f58.results.toList = [.tmp 2] := rfl
theorem fr59 : Try.f59.results.toList = [.tmp 2] := rfl
theorem fr60 : Try.f60.results.toList = [.tmp 2, .tmp 3] := rfl
theorem fr61 : Try.f61.results.toList = [.tmp 2, .tmp 3] := rfl
theorem fr62 : Try.f62.results.toList = [.cell 0 32] := rfl
theorem fr63 : Try.f63.results.toList = [.tmp 4] := rfl
theorem fr64 : Try.f64.results.toList = [.tmp 4] := rfl
theorem fr65 : Try.f65.results.toList = [.tmp 4] := rfl
theorem fr66 : Try.f66.results.toList = [.tmp 4] := rfl
theorem fr67 : Try.f67.results.toList = [.tmp 4] := rfl
theorem fr68 : Try.f68.results.toList = [.tmp 4] := rfl
theorem fr69 : Try.f69.results.toList = [.tmp 4] := rfl
theorem fr70 : Try.f70.results.toList = [.tmp 4] := rfl
theorem fr71 : Try.f71.results.toList = [.tmp 4] := rfl
theorem fr72 : Try.f72.results.toList = [.tmp 2] := rfl
theorem fr73 : Try.f73.results.toList = [.tmp 6] := rfl
theorem fr74 : Try.f74.results.toList = [.tmp 4] := rfl
theorem fr75 : Try.f75.results.toList = [.tmp 2] := rfl
theorem fr76 : Try.f76.results.toList = [.cell 2 98] := rfl
theorem fr77 : Try.f77.results.toList = [.tmp 2] := rfl
theorem fr78 : Try.f78.results.toList = [.tmp 6] := rfl
theorem fr79 : Try.f79.results.toList = [.tmp 5] := rfl
theorem fr80 : Try.f80.results.toList = [.tmp 2] := rfl
theorem fr81 : Try.f81.results.toList = [.tmp 4] := rfl
theorem fr82 : Try.f82.results.toList = [.tmp 3] := rfl
theorem fr83 : Try.f83.results.toList = [.tmp 4] := rfl
theorem fr84 : Try.f84.results.toList = [.tmp 4] := rfl
theorem fr85 : Try.f85.results.toList = [.cell 6 50, .tmp 7] := rfl
theorem fr86 : Try.f86.results.toList = [.cell 4 50, .tmp 5] := rfl
theorem fr87 : Try.f87.results.toList = [.tmp 4] := rfl
theorem fr88 : Try.f88.results.toList = [.tmp 2] := rfl
theorem fr89 : Try.f89.results.toList = [.tmp 4] := rfl
theorem fr90 : Try.f90.results.toList = [.tmp 4] := rfl
theorem fr91 : Try.f91.results.toList = [.tmp 4] := rfl
theorem fr92 : Try.f92.results.toList = [.cell 2 115] := rfl
theorem fr93 : Try.f93.results.toList = [.tmp 4] := rfl
theorem fr94 : Try.f94.results.toList = [.tmp 2] := rfl
theorem fr95 : Try.f95.results.toList = [.cell 2 74, .tmp 3, .tmp 4] := rfl
theorem fr96 : Try.f96.results.toList = [.tmp 4] := rfl
theorem fr97 : Try.f97.results.toList = [.tmp 4] := rfl
theorem fr98 : Try.f98.results.toList = [.tmp 4] := rfl
theorem fr99 : Try.f99.results.toList = [.tmp 4] := rfl
theorem fr100 : Try.f100.results.toList = [.tmp 4] := rfl
theorem fr101 : Try.f101.results.toList = [.tmp 4] := rfl
theorem fr102 : Try.f102.results.toList = [.tmp 2] := rfl
theorem fr103 : Try.f103.results.toList = [.cell 2 96] := rfl
theorem fr104 : Try.f104.results.toList = [.tmp 2] := rfl
theorem fr105 : Try.f105.results.toList = [.tmp 4] := rfl
theorem fr106 : Try.f106.results.toList = [.tmp 4] := rfl
theorem fr107 : Try.f107.results.toList = [.tmp 4] := rfl
theorem fr108 : Try.f108.results.toList = [.tmp 2] := rfl
theorem fr109 : Try.f109.results.toList = [.tmp 2] := rfl
theorem fr110 : Try.f110.results.toList = [.tmp 2] := rfl
theorem fr111 : Try.f111.results.toList = [.tmp 2, .tmp 3] := rfl
theorem fr112 : Try.f112.results.toList = [.tmp 2] := rfl
theorem fr113 : Try.f113.results.toList = [.tmp 2] := rfl
theorem fr114 : Try.f114.results.toList = [.tmp 4] := rfl
theorem fr115 : Try.f115.results.toList = [.tmp 3] := rfl
theorem fr116 : Try.f116.results.toList = [.tmp 4] := rfl
theorem fr117 : Try.f117.results.toList = [.tmp 4] := rfl
theorem fr118 : Try.f118.results.toList = [] := rfl
theorem fr119 : Try.f119.results.toList = [.tmp 4] := rfl
theorem fr120 : Try.f120.results.toList = [.tmp 2] := rfl
theorem fr121 : Try.f121.results.toList = [.tmp 4] := rfl
theorem fr122 : Try.f122.results.toList = [.tmp 4] := rfl
theorem fr123 : Try.f123.results.toList = [.tmp 2] := rfl
theorem fr124 : Try.f124.results.toList = [.tmp 4, .tmp 5] := rfl
theorem fr125 : Try.f125.results.toList = [] := rfl
theorem fr126 : Try.f126.results.toList = [] := rfl
theorem fr127 : Try.f127.results.toList = [] := rfl
theorem fr128 : Try.f128.results.toList = [] := rfl
theorem fr129 : Try.f129.results.toList = [] := rfl
theorem fr130 : Try.f130.results.toList = [] := rfl
theorem fr131 : Try.f131.results.toList = [] := rfl
theorem fr132 : Try.f132.results.toList = [] := rfl
theorem fr133 : Try.f133.results.toList = [] := rfl
theorem fr134 : Try.f134.results.toList = [] := rfl
theorem fr135 : Try.f135.results.toList = [] := rfl
theorem fr136 : Try.f136.results.toList = [] := rfl
theorem fr137 : Try.f137.results.toList = [] := rfl
theorem fr138 : Try.f138.results.toList = [] := rfl
theorem fr139 : Try.f139.results.toList = [] := rfl
theorem fr140 : Try.f140.results.toList = [] := rfl
theorem fr141 : Try.f141.results.toList = [] := rfl
end Go.Proofs.Ytbakaopgdcojfaa.Sim
