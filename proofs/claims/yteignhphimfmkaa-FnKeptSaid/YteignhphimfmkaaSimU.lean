/- The rules of the calculus, type by type and function by function. Written by a program of this session; no condition. -/
import Derived.Test.YteignhphimfmkaaSimW
import Derived.Test.YteignhphimfmkaaSimT
set_option linter.unusedSimpArgs false
set_option linter.unusedVariables false
namespace Go.Proofs.Yteignhphimfmkaa.Sim
open Go Go.RowKit

theorem xld1 {h : Heap} {b o : Nat} : ld Try.prog h 1 (.pointer (some ⟨b, o, none⟩)) = cell h b o := ld_sc tsz1 tag1
theorem xst1 {ro : Nat} {h : Heap} {b o : Nat} {v : Value} : stv Try.prog ro h 1 (.pointer (some ⟨b, o, none⟩)) v = put ro h b o 1 v := stv_put tsz1
theorem xld2 {h : Heap} {b o : Nat} : ld Try.prog h 2 (.pointer (some ⟨b, o, none⟩)) = cell h b o := ld_sc tsz2 tag2
theorem xst2 {ro : Nat} {h : Heap} {b o : Nat} {v : Value} : stv Try.prog ro h 2 (.pointer (some ⟨b, o, none⟩)) v = put ro h b o 1 v := stv_put tsz2
theorem xld3 {h : Heap} {b o : Nat} : ld Try.prog h 3 (.pointer (some ⟨b, o, none⟩)) = cell h b o := ld_sc tsz3 tag3
theorem xst3 {ro : Nat} {h : Heap} {b o : Nat} {v : Value} : stv Try.prog ro h 3 (.pointer (some ⟨b, o, none⟩)) v = put ro h b o 1 v := stv_put tsz3
theorem xbeql4 (a b : Bool) : abin Try.prog .eql 4 (.bool a) (.bool b) = some (.bool (a == b)) := bin_beql 4 Try.underlying4 a b
theorem xbneq4 (a b : Bool) : abin Try.prog .neq 4 (.bool a) (.bool b) = some (.bool (a != b)) := bin_bneq 4 Try.underlying4 a b
theorem xld4 {h : Heap} {b o : Nat} : ld Try.prog h 4 (.pointer (some ⟨b, o, none⟩)) = cell h b o := ld_sc tsz4 tag4
theorem xst4 {ro : Nat} {h : Heap} {b o : Nat} {v : Value} : stv Try.prog ro h 4 (.pointer (some ⟨b, o, none⟩)) v = put ro h b o 1 v := stv_put tsz4
theorem xld5 {h : Heap} {b o : Nat} : ld Try.prog h 5 (.pointer (some ⟨b, o, none⟩)) = cell h b o := ld_sc tsz5 tag5
theorem xst5 {ro : Nat} {h : Heap} {b o : Nat} {v : Value} : stv Try.prog ro h 5 (.pointer (some ⟨b, o, none⟩)) v = put ro h b o 1 v := stv_put tsz5
theorem xld6 {h : Heap} {b o : Nat} : ld Try.prog h 6 (.pointer (some ⟨b, o, none⟩)) = cell h b o := ld_sc tsz6 tag6
theorem xst6 {ro : Nat} {h : Heap} {b o : Nat} {v : Value} : stv Try.prog ro h 6 (.pointer (some ⟨b, o, none⟩)) v = put ro h b o 1 v := stv_put tsz6
theorem xfad7_0 {b o : Nat} : fadr Try.prog 7 (.pointer (some ⟨b, o, none⟩)) 0 = some (.pointer (some ⟨b, o + 0, none⟩)) := fadr_of tfi7_0 (by decide)
theorem xfld7_0 {cs : List Value} : fld Try.prog 7 (.agg ⟨cs⟩) 0 = cs[0]? := fld_sc tfi7_0 tag2
theorem xfad7_1 {b o : Nat} : fadr Try.prog 7 (.pointer (some ⟨b, o, none⟩)) 1 = some (.pointer (some ⟨b, o + 1, none⟩)) := fadr_of tfi7_1 (by decide)
theorem xfld7_1 {cs : List Value} : fld Try.prog 7 (.agg ⟨cs⟩) 1 = cs[1]? := fld_sc tfi7_1 tag3
theorem xfad7_2 {b o : Nat} : fadr Try.prog 7 (.pointer (some ⟨b, o, none⟩)) 2 = some (.pointer (some ⟨b, o + 2, none⟩)) := fadr_of tfi7_2 (by decide)
theorem xfld7_2 {cs : List Value} : fld Try.prog 7 (.agg ⟨cs⟩) 2 = cs[2]? := fld_sc tfi7_2 tag4
theorem xfad7_3 {b o : Nat} : fadr Try.prog 7 (.pointer (some ⟨b, o, none⟩)) 3 = some (.pointer (some ⟨b, o + 3, none⟩)) := fadr_of tfi7_3 (by decide)
theorem xfld7_3 {cs : List Value} : fld Try.prog 7 (.agg ⟨cs⟩) 3 = cs[3]? := fld_sc tfi7_3 tag6
theorem xld7 {h : Heap} {b o : Nat} : ld Try.prog h 7 (.pointer (some ⟨b, o, none⟩)) = cells h b o 4 := ld_agg tsz7 tag7
theorem xst7 {ro : Nat} {h : Heap} {b o : Nat} {v : Value} : stv Try.prog ro h 7 (.pointer (some ⟨b, o, none⟩)) v = put ro h b o 4 v := stv_put tsz7
theorem xfad8_0 {b o : Nat} : fadr Try.prog 8 (.pointer (some ⟨b, o, none⟩)) 0 = some (.pointer (some ⟨b, o + 0, none⟩)) := fadr_of tfi8_0 (by decide)
theorem xfld8_0 {cs : List Value} : fld Try.prog 8 (.agg ⟨cs⟩) 0 = cs[0]? := fld_sc tfi8_0 tag2
theorem xfad8_1 {b o : Nat} : fadr Try.prog 8 (.pointer (some ⟨b, o, none⟩)) 1 = some (.pointer (some ⟨b, o + 1, none⟩)) := fadr_of tfi8_1 (by decide)
theorem xfld8_1 {cs : List Value} : fld Try.prog 8 (.agg ⟨cs⟩) 1 = cs[1]? := fld_sc tfi8_1 tag3
theorem xfad8_2 {b o : Nat} : fadr Try.prog 8 (.pointer (some ⟨b, o, none⟩)) 2 = some (.pointer (some ⟨b, o + 2, none⟩)) := fadr_of tfi8_2 (by decide)
theorem xfld8_2 {cs : List Value} : fld Try.prog 8 (.agg ⟨cs⟩) 2 = cs[2]? := fld_sc tfi8_2 tag4
theorem xfad8_3 {b o : Nat} : fadr Try.prog 8 (.pointer (some ⟨b, o, none⟩)) 3 = some (.pointer (some ⟨b, o + 3, none⟩)) := fadr_of tfi8_3 (by decide)
theorem xfld8_3 {cs : List Value} : fld Try.prog 8 (.agg ⟨cs⟩) 3 = cs[3]? := fld_sc tfi8_3 tag6
theorem xld8 {h : Heap} {b o : Nat} : ld Try.prog h 8 (.pointer (some ⟨b, o, none⟩)) = cells h b o 4 := ld_agg tsz8 tag8
theorem xst8 {ro : Nat} {h : Heap} {b o : Nat} {v : Value} : stv Try.prog ro h 8 (.pointer (some ⟨b, o, none⟩)) v = put ro h b o 4 v := stv_put tsz8
theorem xlen9 {ro : Nat} {s : ByteArray} {h : Heap} : ablt Try.prog ro .len [9] [.string s] h = some (.int .i64 s.size, h) := len_str Try.underlying9
theorem xidx9 {s : ByteArray} {k : IntKind} {n : Int} (h0 : 0 ≤ n) (h1 : n < s.size) : idx Try.prog 9 (.string s) (.int k n) = some (.int .u8 (bt s n)) := idx_str Try.underlying9 h0 h1
theorem xsl9 {ro : Nat} {s : ByteArray} {h : Heap} {k k' : IntKind} {l q : Int} (h0 : 0 ≤ l) (h1 : l ≤ q) (h2 : q ≤ s.size) : slc Try.prog ro h 9 (.string s) (some (.int k l)) (some (.int k' q)) none = some (.string (s.extract l.toNat q.toNat)) := slc_str Try.underlying9 h0 h1 h2
theorem xslo9 {ro : Nat} {s : ByteArray} {h : Heap} {k : IntKind} {l : Int} (h0 : 0 ≤ l) (h1 : l ≤ s.size) : slc Try.prog ro h 9 (.string s) (some (.int k l)) none none = some (.string (s.extract l.toNat s.size)) := slc_str_lo Try.underlying9 h0 h1
theorem xshi9 {ro : Nat} {s : ByteArray} {h : Heap} {k : IntKind} {q : Int} (h0 : 0 ≤ q) (h1 : q ≤ s.size) : slc Try.prog ro h 9 (.string s) none (some (.int k q)) none = some (.string (s.extract 0 q.toNat)) := slc_str_hi Try.underlying9 h0 h1
theorem xld9 {h : Heap} {b o : Nat} : ld Try.prog h 9 (.pointer (some ⟨b, o, none⟩)) = cell h b o := ld_sc tsz9 tag9
theorem xst9 {ro : Nat} {h : Heap} {b o : Nat} {v : Value} : stv Try.prog ro h 9 (.pointer (some ⟨b, o, none⟩)) v = put ro h b o 1 v := stv_put tsz9
theorem xlen10 {ro : Nat} {s : ByteArray} {h : Heap} : ablt Try.prog ro .len [10] [.string s] h = some (.int .i64 s.size, h) := len_str Try.underlying10
theorem xidx10 {s : ByteArray} {k : IntKind} {n : Int} (h0 : 0 ≤ n) (h1 : n < s.size) : idx Try.prog 10 (.string s) (.int k n) = some (.int .u8 (bt s n)) := idx_str Try.underlying10 h0 h1
theorem xsl10 {ro : Nat} {s : ByteArray} {h : Heap} {k k' : IntKind} {l q : Int} (h0 : 0 ≤ l) (h1 : l ≤ q) (h2 : q ≤ s.size) : slc Try.prog ro h 10 (.string s) (some (.int k l)) (some (.int k' q)) none = some (.string (s.extract l.toNat q.toNat)) := slc_str Try.underlying10 h0 h1 h2
theorem xslo10 {ro : Nat} {s : ByteArray} {h : Heap} {k : IntKind} {l : Int} (h0 : 0 ≤ l) (h1 : l ≤ s.size) : slc Try.prog ro h 10 (.string s) (some (.int k l)) none none = some (.string (s.extract l.toNat s.size)) := slc_str_lo Try.underlying10 h0 h1
theorem xshi10 {ro : Nat} {s : ByteArray} {h : Heap} {k : IntKind} {q : Int} (h0 : 0 ≤ q) (h1 : q ≤ s.size) : slc Try.prog ro h 10 (.string s) none (some (.int k q)) none = some (.string (s.extract 0 q.toNat)) := slc_str_hi Try.underlying10 h0 h1
theorem xld10 {h : Heap} {b o : Nat} : ld Try.prog h 10 (.pointer (some ⟨b, o, none⟩)) = cell h b o := ld_sc tsz10 tag10
theorem xst10 {ro : Nat} {h : Heap} {b o : Nat} {v : Value} : stv Try.prog ro h 10 (.pointer (some ⟨b, o, none⟩)) v = put ro h b o 1 v := stv_put tsz10
theorem xlen11 {ro : Nat} {s : ByteArray} {h : Heap} : ablt Try.prog ro .len [11] [.string s] h = some (.int .i64 s.size, h) := len_str Try.underlying11
theorem xidx11 {s : ByteArray} {k : IntKind} {n : Int} (h0 : 0 ≤ n) (h1 : n < s.size) : idx Try.prog 11 (.string s) (.int k n) = some (.int .u8 (bt s n)) := idx_str Try.underlying11 h0 h1
theorem xsl11 {ro : Nat} {s : ByteArray} {h : Heap} {k k' : IntKind} {l q : Int} (h0 : 0 ≤ l) (h1 : l ≤ q) (h2 : q ≤ s.size) : slc Try.prog ro h 11 (.string s) (some (.int k l)) (some (.int k' q)) none = some (.string (s.extract l.toNat q.toNat)) := slc_str Try.underlying11 h0 h1 h2
theorem xslo11 {ro : Nat} {s : ByteArray} {h : Heap} {k : IntKind} {l : Int} (h0 : 0 ≤ l) (h1 : l ≤ s.size) : slc Try.prog ro h 11 (.string s) (some (.int k l)) none none = some (.string (s.extract l.toNat s.size)) := slc_str_lo Try.underlying11 h0 h1
theorem xshi11 {ro : Nat} {s : ByteArray} {h : Heap} {k : IntKind} {q : Int} (h0 : 0 ≤ q) (h1 : q ≤ s.size) : slc Try.prog ro h 11 (.string s) none (some (.int k q)) none = some (.string (s.extract 0 q.toNat)) := slc_str_hi Try.underlying11 h0 h1
theorem xld11 {h : Heap} {b o : Nat} : ld Try.prog h 11 (.pointer (some ⟨b, o, none⟩)) = cell h b o := ld_sc tsz11 tag11
theorem xst11 {ro : Nat} {h : Heap} {b o : Nat} {v : Value} : stv Try.prog ro h 11 (.pointer (some ⟨b, o, none⟩)) v = put ro h b o 1 v := stv_put tsz11
theorem xld12 {h : Heap} {b o : Nat} : ld Try.prog h 12 (.pointer (some ⟨b, o, none⟩)) = cell h b o := ld_sc tsz12 tag12
theorem xst12 {ro : Nat} {h : Heap} {b o : Nat} {v : Value} : stv Try.prog ro h 12 (.pointer (some ⟨b, o, none⟩)) v = put ro h b o 1 v := stv_put tsz12
theorem xfad13_0 {b o : Nat} : fadr Try.prog 13 (.pointer (some ⟨b, o, none⟩)) 0 = some (.pointer (some ⟨b, o + 0, none⟩)) := fadr_of tfi13_0 (by decide)
theorem xfld13_0 {cs : List Value} : fld Try.prog 13 (.agg ⟨cs⟩) 0 = cs[0]? := fld_sc tfi13_0 tag9
theorem xfad13_1 {b o : Nat} : fadr Try.prog 13 (.pointer (some ⟨b, o, none⟩)) 1 = some (.pointer (some ⟨b, o + 1, none⟩)) := fadr_of tfi13_1 (by decide)
theorem xfld13_1 {cs : List Value} : fld Try.prog 13 (.agg ⟨cs⟩) 1 = cs[1]? := fld_sc tfi13_1 tag12
theorem xld13 {h : Heap} {b o : Nat} : ld Try.prog h 13 (.pointer (some ⟨b, o, none⟩)) = cells h b o 2 := ld_agg tsz13 tag13
theorem xst13 {ro : Nat} {h : Heap} {b o : Nat} {v : Value} : stv Try.prog ro h 13 (.pointer (some ⟨b, o, none⟩)) v = put ro h b o 2 v := stv_put tsz13
theorem xfad14_0 {b o : Nat} : fadr Try.prog 14 (.pointer (some ⟨b, o, none⟩)) 0 = some (.pointer (some ⟨b, o + 0, none⟩)) := fadr_of tfi14_0 (by decide)
theorem xfld14_0 {cs : List Value} : fld Try.prog 14 (.agg ⟨cs⟩) 0 = cs[0]? := fld_sc tfi14_0 tag9
theorem xfad14_1 {b o : Nat} : fadr Try.prog 14 (.pointer (some ⟨b, o, none⟩)) 1 = some (.pointer (some ⟨b, o + 1, none⟩)) := fadr_of tfi14_1 (by decide)
theorem xfld14_1 {cs : List Value} : fld Try.prog 14 (.agg ⟨cs⟩) 1 = cs[1]? := fld_sc tfi14_1 tag12
theorem xld14 {h : Heap} {b o : Nat} : ld Try.prog h 14 (.pointer (some ⟨b, o, none⟩)) = cells h b o 2 := ld_agg tsz14 tag14
theorem xst14 {ro : Nat} {h : Heap} {b o : Nat} {v : Value} : stv Try.prog ro h 14 (.pointer (some ⟨b, o, none⟩)) v = put ro h b o 2 v := stv_put tsz14
theorem xld15 {h : Heap} {b o : Nat} : ld Try.prog h 15 (.pointer (some ⟨b, o, none⟩)) = cell h b o := ld_sc tsz15 tag15
theorem xst15 {ro : Nat} {h : Heap} {b o : Nat} {v : Value} : stv Try.prog ro h 15 (.pointer (some ⟨b, o, none⟩)) v = put ro h b o 1 v := stv_put tsz15
theorem xld16 {h : Heap} {b o : Nat} : ld Try.prog h 16 (.pointer (some ⟨b, o, none⟩)) = cell h b o := ld_sc tsz16 tag16
theorem xst16 {ro : Nat} {h : Heap} {b o : Nat} {v : Value} : stv Try.prog ro h 16 (.pointer (some ⟨b, o, none⟩)) v = put ro h b o 1 v := stv_put tsz16
theorem xld17 {h : Heap} {b o : Nat} : ld Try.prog h 17 (.pointer (some ⟨b, o, none⟩)) = cell h b o := ld_sc tsz17 tag17
theorem xst17 {ro : Nat} {h : Heap} {b o : Nat} {v : Value} : stv Try.prog ro h 17 (.pointer (some ⟨b, o, none⟩)) v = put ro h b o 1 v := stv_put tsz17
theorem xfad18_0 {b o : Nat} : fadr Try.prog 18 (.pointer (some ⟨b, o, none⟩)) 0 = some (.pointer (some ⟨b, o + 0, none⟩)) := fadr_of tfi18_0 (by decide)
theorem xfld18_0 {cs : List Value} : fld Try.prog 18 (.agg ⟨cs⟩) 0 = cs[0]? := fld_sc tfi18_0 tag17
theorem xld18 {h : Heap} {b o : Nat} : ld Try.prog h 18 (.pointer (some ⟨b, o, none⟩)) = cells h b o 1 := ld_agg tsz18 tag18
theorem xst18 {ro : Nat} {h : Heap} {b o : Nat} {v : Value} : stv Try.prog ro h 18 (.pointer (some ⟨b, o, none⟩)) v = put ro h b o 1 v := stv_put tsz18
theorem xfad19_0 {b o : Nat} : fadr Try.prog 19 (.pointer (some ⟨b, o, none⟩)) 0 = some (.pointer (some ⟨b, o + 0, none⟩)) := fadr_of tfi19_0 (by decide)
theorem xfld19_0 {cs : List Value} : fld Try.prog 19 (.agg ⟨cs⟩) 0 = cs[0]? := fld_sc tfi19_0 tag17
theorem xld19 {h : Heap} {b o : Nat} : ld Try.prog h 19 (.pointer (some ⟨b, o, none⟩)) = cells h b o 1 := ld_agg tsz19 tag19
theorem xst19 {ro : Nat} {h : Heap} {b o : Nat} {v : Value} : stv Try.prog ro h 19 (.pointer (some ⟨b, o, none⟩)) v = put ro h b o 1 v := stv_put tsz19
theorem xld21 {h : Heap} {b o : Nat} : ld Try.prog h 21 (.pointer (some ⟨b, o, none⟩)) = cell h b o := ld_sc tsz21 tag21
theorem xst21 {ro : Nat} {h : Heap} {b o : Nat} {v : Value} : stv Try.prog ro h 21 (.pointer (some ⟨b, o, none⟩)) v = put ro h b o 1 v := stv_put tsz21
theorem xlen22 {ro : Nat} {a : Option Addr} {n c : Nat} {h : Heap} : ablt Try.prog ro .len [22] [.slice a n c] h = some (.int .i64 n, h) := len_slc Try.underlying22
theorem xiad22 {b o len cap : Nat} {k : IntKind} {n : Int} (h0 : 0 ≤ n) (h1 : n < len) : iadr Try.prog 22 (.slice (some ⟨b, o, none⟩) len cap) (.int k n) = some (.pointer (some ⟨b, o + n.toNat * 1, none⟩)) := iadr_slc Try.underlying22 tsz5 h0 h1
theorem xld22 {h : Heap} {b o : Nat} : ld Try.prog h 22 (.pointer (some ⟨b, o, none⟩)) = cell h b o := ld_sc tsz22 tag22
theorem xst22 {ro : Nat} {h : Heap} {b o : Nat} {v : Value} : stv Try.prog ro h 22 (.pointer (some ⟨b, o, none⟩)) v = put ro h b o 1 v := stv_put tsz22
theorem xld23 {h : Heap} {b o : Nat} : ld Try.prog h 23 (.pointer (some ⟨b, o, none⟩)) = cell h b o := ld_sc tsz23 tag23
theorem xst23 {ro : Nat} {h : Heap} {b o : Nat} {v : Value} : stv Try.prog ro h 23 (.pointer (some ⟨b, o, none⟩)) v = put ro h b o 1 v := stv_put tsz23
theorem xlen24 {ro : Nat} {a : Option Addr} {n c : Nat} {h : Heap} : ablt Try.prog ro .len [24] [.slice a n c] h = some (.int .i64 n, h) := len_slc Try.underlying24
theorem xiad24 {b o len cap : Nat} {k : IntKind} {n : Int} (h0 : 0 ≤ n) (h1 : n < len) : iadr Try.prog 24 (.slice (some ⟨b, o, none⟩) len cap) (.int k n) = some (.pointer (some ⟨b, o + n.toNat * 2, none⟩)) := iadr_slc Try.underlying24 tsz41 h0 h1
theorem xld24 {h : Heap} {b o : Nat} : ld Try.prog h 24 (.pointer (some ⟨b, o, none⟩)) = cell h b o := ld_sc tsz24 tag24
theorem xst24 {ro : Nat} {h : Heap} {b o : Nat} {v : Value} : stv Try.prog ro h 24 (.pointer (some ⟨b, o, none⟩)) v = put ro h b o 1 v := stv_put tsz24
theorem xfad25_0 {b o : Nat} : fadr Try.prog 25 (.pointer (some ⟨b, o, none⟩)) 0 = some (.pointer (some ⟨b, o + 0, none⟩)) := fadr_of tfi25_0 (by decide)
theorem xfld25_0 {cs : List Value} : fld Try.prog 25 (.agg ⟨cs⟩) 0 = cs[0]? := fld_sc tfi25_0 tag2
theorem xfad25_1 {b o : Nat} : fadr Try.prog 25 (.pointer (some ⟨b, o, none⟩)) 1 = some (.pointer (some ⟨b, o + 1, none⟩)) := fadr_of tfi25_1 (by decide)
theorem xfld25_1 {cs : List Value} : fld Try.prog 25 (.agg ⟨cs⟩) 1 = cs[1]? := fld_sc tfi25_1 tag24
theorem xld25 {h : Heap} {b o : Nat} : ld Try.prog h 25 (.pointer (some ⟨b, o, none⟩)) = cells h b o 2 := ld_agg tsz25 tag25
theorem xst25 {ro : Nat} {h : Heap} {b o : Nat} {v : Value} : stv Try.prog ro h 25 (.pointer (some ⟨b, o, none⟩)) v = put ro h b o 2 v := stv_put tsz25
theorem xfad26_0 {b o : Nat} : fadr Try.prog 26 (.pointer (some ⟨b, o, none⟩)) 0 = some (.pointer (some ⟨b, o + 0, none⟩)) := fadr_of tfi26_0 (by decide)
theorem xfld26_0 {cs : List Value} : fld Try.prog 26 (.agg ⟨cs⟩) 0 = cs[0]? := fld_sc tfi26_0 tag2
theorem xfad26_1 {b o : Nat} : fadr Try.prog 26 (.pointer (some ⟨b, o, none⟩)) 1 = some (.pointer (some ⟨b, o + 1, none⟩)) := fadr_of tfi26_1 (by decide)
theorem xfld26_1 {cs : List Value} : fld Try.prog 26 (.agg ⟨cs⟩) 1 = cs[1]? := fld_sc tfi26_1 tag24
theorem xld26 {h : Heap} {b o : Nat} : ld Try.prog h 26 (.pointer (some ⟨b, o, none⟩)) = cells h b o 2 := ld_agg tsz26 tag26
theorem xst26 {ro : Nat} {h : Heap} {b o : Nat} {v : Value} : stv Try.prog ro h 26 (.pointer (some ⟨b, o, none⟩)) v = put ro h b o 2 v := stv_put tsz26
theorem xld27 {h : Heap} {b o : Nat} : ld Try.prog h 27 (.pointer (some ⟨b, o, none⟩)) = cell h b o := ld_sc tsz27 tag27
theorem xst27 {ro : Nat} {h : Heap} {b o : Nat} {v : Value} : stv Try.prog ro h 27 (.pointer (some ⟨b, o, none⟩)) v = put ro h b o 1 v := stv_put tsz27
theorem xld29 {h : Heap} {b o : Nat} : ld Try.prog h 29 (.pointer (some ⟨b, o, none⟩)) = cell h b o := ld_sc tsz29 tag29
theorem xst29 {ro : Nat} {h : Heap} {b o : Nat} {v : Value} : stv Try.prog ro h 29 (.pointer (some ⟨b, o, none⟩)) v = put ro h b o 1 v := stv_put tsz29
theorem xld31 {h : Heap} {b o : Nat} : ld Try.prog h 31 (.pointer (some ⟨b, o, none⟩)) = cell h b o := ld_sc tsz31 tag31
theorem xst31 {ro : Nat} {h : Heap} {b o : Nat} {v : Value} : stv Try.prog ro h 31 (.pointer (some ⟨b, o, none⟩)) v = put ro h b o 1 v := stv_put tsz31
theorem xld33 {h : Heap} {b o : Nat} : ld Try.prog h 33 (.pointer (some ⟨b, o, none⟩)) = cell h b o := ld_sc tsz33 tag33
theorem xst33 {ro : Nat} {h : Heap} {b o : Nat} {v : Value} : stv Try.prog ro h 33 (.pointer (some ⟨b, o, none⟩)) v = put ro h b o 1 v := stv_put tsz33
theorem xld34 {h : Heap} {b o : Nat} : ld Try.prog h 34 (.pointer (some ⟨b, o, none⟩)) = cell h b o := ld_sc tsz34 tag34
theorem xst34 {ro : Nat} {h : Heap} {b o : Nat} {v : Value} : stv Try.prog ro h 34 (.pointer (some ⟨b, o, none⟩)) v = put ro h b o 1 v := stv_put tsz34
theorem xld35 {h : Heap} {b o : Nat} : ld Try.prog h 35 (.pointer (some ⟨b, o, none⟩)) = cell h b o := ld_sc tsz35 tag35
theorem xst35 {ro : Nat} {h : Heap} {b o : Nat} {v : Value} : stv Try.prog ro h 35 (.pointer (some ⟨b, o, none⟩)) v = put ro h b o 1 v := stv_put tsz35
theorem xld36 {h : Heap} {b o : Nat} : ld Try.prog h 36 (.pointer (some ⟨b, o, none⟩)) = cell h b o := ld_sc tsz36 tag36
theorem xst36 {ro : Nat} {h : Heap} {b o : Nat} {v : Value} : stv Try.prog ro h 36 (.pointer (some ⟨b, o, none⟩)) v = put ro h b o 1 v := stv_put tsz36
theorem xld38 {h : Heap} {b o : Nat} : ld Try.prog h 38 (.pointer (some ⟨b, o, none⟩)) = cell h b o := ld_sc tsz38 tag38
theorem xst38 {ro : Nat} {h : Heap} {b o : Nat} {v : Value} : stv Try.prog ro h 38 (.pointer (some ⟨b, o, none⟩)) v = put ro h b o 1 v := stv_put tsz38
theorem xlen39 {ro : Nat} {a : Option Addr} {n c : Nat} {h : Heap} : ablt Try.prog ro .len [39] [.slice a n c] h = some (.int .i64 n, h) := len_slc Try.underlying39
theorem xiad39 {b o len cap : Nat} {k : IntKind} {n : Int} (h0 : 0 ≤ n) (h1 : n < len) : iadr Try.prog 39 (.slice (some ⟨b, o, none⟩) len cap) (.int k n) = some (.pointer (some ⟨b, o + n.toNat * 1, none⟩)) := iadr_slc Try.underlying39 tsz65 h0 h1
theorem xld39 {h : Heap} {b o : Nat} : ld Try.prog h 39 (.pointer (some ⟨b, o, none⟩)) = cell h b o := ld_sc tsz39 tag39
theorem xst39 {ro : Nat} {h : Heap} {b o : Nat} {v : Value} : stv Try.prog ro h 39 (.pointer (some ⟨b, o, none⟩)) v = put ro h b o 1 v := stv_put tsz39
theorem xfad40_0 {b o : Nat} : fadr Try.prog 40 (.pointer (some ⟨b, o, none⟩)) 0 = some (.pointer (some ⟨b, o + 0, none⟩)) := fadr_of tfi40_0 (by decide)
theorem xfld40_0 {cs : List Value} : fld Try.prog 40 (.agg ⟨cs⟩) 0 = cs[0]? := fld_sc tfi40_0 tag2
theorem xfad40_1 {b o : Nat} : fadr Try.prog 40 (.pointer (some ⟨b, o, none⟩)) 1 = some (.pointer (some ⟨b, o + 1, none⟩)) := fadr_of tfi40_1 (by decide)
theorem xfld40_1 {cs : List Value} : fld Try.prog 40 (.agg ⟨cs⟩) 1 = cs[1]? := fld_sc tfi40_1 tag39
theorem xld40 {h : Heap} {b o : Nat} : ld Try.prog h 40 (.pointer (some ⟨b, o, none⟩)) = cells h b o 2 := ld_agg tsz40 tag40
theorem xst40 {ro : Nat} {h : Heap} {b o : Nat} {v : Value} : stv Try.prog ro h 40 (.pointer (some ⟨b, o, none⟩)) v = put ro h b o 2 v := stv_put tsz40
theorem xfad41_0 {b o : Nat} : fadr Try.prog 41 (.pointer (some ⟨b, o, none⟩)) 0 = some (.pointer (some ⟨b, o + 0, none⟩)) := fadr_of tfi41_0 (by decide)
theorem xfld41_0 {cs : List Value} : fld Try.prog 41 (.agg ⟨cs⟩) 0 = cs[0]? := fld_sc tfi41_0 tag2
theorem xfad41_1 {b o : Nat} : fadr Try.prog 41 (.pointer (some ⟨b, o, none⟩)) 1 = some (.pointer (some ⟨b, o + 1, none⟩)) := fadr_of tfi41_1 (by decide)
theorem xfld41_1 {cs : List Value} : fld Try.prog 41 (.agg ⟨cs⟩) 1 = cs[1]? := fld_sc tfi41_1 tag39
theorem xld41 {h : Heap} {b o : Nat} : ld Try.prog h 41 (.pointer (some ⟨b, o, none⟩)) = cells h b o 2 := ld_agg tsz41 tag41
theorem xst41 {ro : Nat} {h : Heap} {b o : Nat} {v : Value} : stv Try.prog ro h 41 (.pointer (some ⟨b, o, none⟩)) v = put ro h b o 2 v := stv_put tsz41
theorem xld43 {h : Heap} {b o : Nat} : ld Try.prog h 43 (.pointer (some ⟨b, o, none⟩)) = cell h b o := ld_sc tsz43 tag43
theorem xst43 {ro : Nat} {h : Heap} {b o : Nat} {v : Value} : stv Try.prog ro h 43 (.pointer (some ⟨b, o, none⟩)) v = put ro h b o 1 v := stv_put tsz43
theorem xld44 {h : Heap} {b o : Nat} : ld Try.prog h 44 (.pointer (some ⟨b, o, none⟩)) = cell h b o := ld_sc tsz44 tag44
theorem xst44 {ro : Nat} {h : Heap} {b o : Nat} {v : Value} : stv Try.prog ro h 44 (.pointer (some ⟨b, o, none⟩)) v = put ro h b o 1 v := stv_put tsz44
theorem xld46 {h : Heap} {b o : Nat} : ld Try.prog h 46 (.pointer (some ⟨b, o, none⟩)) = cell h b o := ld_sc tsz46 tag46
theorem xst46 {ro : Nat} {h : Heap} {b o : Nat} {v : Value} : stv Try.prog ro h 46 (.pointer (some ⟨b, o, none⟩)) v = put ro h b o 1 v := stv_put tsz46
theorem xld47 {h : Heap} {b o : Nat} : ld Try.prog h 47 (.pointer (some ⟨b, o, none⟩)) = cell h b o := ld_sc tsz47 tag47
theorem xst47 {ro : Nat} {h : Heap} {b o : Nat} {v : Value} : stv Try.prog ro h 47 (.pointer (some ⟨b, o, none⟩)) v = put ro h b o 1 v := stv_put tsz47
theorem xld48 {h : Heap} {b o : Nat} : ld Try.prog h 48 (.pointer (some ⟨b, o, none⟩)) = cell h b o := ld_sc tsz48 tag48
theorem xst48 {ro : Nat} {h : Heap} {b o : Nat} {v : Value} : stv Try.prog ro h 48 (.pointer (some ⟨b, o, none⟩)) v = put ro h b o 1 v := stv_put tsz48
theorem xld49 {h : Heap} {b o : Nat} : ld Try.prog h 49 (.pointer (some ⟨b, o, none⟩)) = cell h b o := ld_sc tsz49 tag49
theorem xst49 {ro : Nat} {h : Heap} {b o : Nat} {v : Value} : stv Try.prog ro h 49 (.pointer (some ⟨b, o, none⟩)) v = put ro h b o 1 v := stv_put tsz49
theorem xld50 {h : Heap} {b o : Nat} : ld Try.prog h 50 (.pointer (some ⟨b, o, none⟩)) = cell h b o := ld_sc tsz50 tag50
theorem xst50 {ro : Nat} {h : Heap} {b o : Nat} {v : Value} : stv Try.prog ro h 50 (.pointer (some ⟨b, o, none⟩)) v = put ro h b o 1 v := stv_put tsz50
theorem xfad51_0 {b o : Nat} : fadr Try.prog 51 (.pointer (some ⟨b, o, none⟩)) 0 = some (.pointer (some ⟨b, o + 0, none⟩)) := fadr_of tfi51_0 (by decide)
theorem xfld51_0 {cs : List Value} : fld Try.prog 51 (.agg ⟨cs⟩) 0 = cs[0]? := fld_sc tfi51_0 tag50
theorem xfad51_1 {b o : Nat} : fadr Try.prog 51 (.pointer (some ⟨b, o, none⟩)) 1 = some (.pointer (some ⟨b, o + 1, none⟩)) := fadr_of tfi51_1 (by decide)
theorem xfld51_1 {cs : List Value} : fld Try.prog 51 (.agg ⟨cs⟩) 1 = cs[1]? := fld_sc tfi51_1 tag22
theorem xld51 {h : Heap} {b o : Nat} : ld Try.prog h 51 (.pointer (some ⟨b, o, none⟩)) = cells h b o 2 := ld_agg tsz51 tag51
theorem xst51 {ro : Nat} {h : Heap} {b o : Nat} {v : Value} : stv Try.prog ro h 51 (.pointer (some ⟨b, o, none⟩)) v = put ro h b o 2 v := stv_put tsz51
theorem xfad52_0 {b o : Nat} : fadr Try.prog 52 (.pointer (some ⟨b, o, none⟩)) 0 = some (.pointer (some ⟨b, o + 0, none⟩)) := fadr_of tfi52_0 (by decide)
theorem xfld52_0 {cs : List Value} : fld Try.prog 52 (.agg ⟨cs⟩) 0 = cs[0]? := fld_sc tfi52_0 tag50
theorem xfad52_1 {b o : Nat} : fadr Try.prog 52 (.pointer (some ⟨b, o, none⟩)) 1 = some (.pointer (some ⟨b, o + 1, none⟩)) := fadr_of tfi52_1 (by decide)
theorem xfld52_1 {cs : List Value} : fld Try.prog 52 (.agg ⟨cs⟩) 1 = cs[1]? := fld_sc tfi52_1 tag22
theorem xld52 {h : Heap} {b o : Nat} : ld Try.prog h 52 (.pointer (some ⟨b, o, none⟩)) = cells h b o 2 := ld_agg tsz52 tag52
theorem xst52 {ro : Nat} {h : Heap} {b o : Nat} {v : Value} : stv Try.prog ro h 52 (.pointer (some ⟨b, o, none⟩)) v = put ro h b o 2 v := stv_put tsz52
theorem xld56 {h : Heap} {b o : Nat} : ld Try.prog h 56 (.pointer (some ⟨b, o, none⟩)) = cell h b o := ld_sc tsz56 tag56
theorem xst56 {ro : Nat} {h : Heap} {b o : Nat} {v : Value} : stv Try.prog ro h 56 (.pointer (some ⟨b, o, none⟩)) v = put ro h b o 1 v := stv_put tsz56
theorem xld57 {h : Heap} {b o : Nat} : ld Try.prog h 57 (.pointer (some ⟨b, o, none⟩)) = cell h b o := ld_sc tsz57 tag57
theorem xst57 {ro : Nat} {h : Heap} {b o : Nat} {v : Value} : stv Try.prog ro h 57 (.pointer (some ⟨b, o, none⟩)) v = put ro h b o 1 v := stv_put tsz57
theorem xld58 {h : Heap} {b o : Nat} : ld Try.prog h 58 (.pointer (some ⟨b, o, none⟩)) = cell h b o := ld_sc tsz58 tag58
theorem xst58 {ro : Nat} {h : Heap} {b o : Nat} {v : Value} : stv Try.prog ro h 58 (.pointer (some ⟨b, o, none⟩)) v = put ro h b o 1 v := stv_put tsz58
theorem xld59 {h : Heap} {b o : Nat} : ld Try.prog h 59 (.pointer (some ⟨b, o, none⟩)) = cell h b o := ld_sc tsz59 tag59
theorem xst59 {ro : Nat} {h : Heap} {b o : Nat} {v : Value} : stv Try.prog ro h 59 (.pointer (some ⟨b, o, none⟩)) v = put ro h b o 1 v := stv_put tsz59
theorem xld60 {h : Heap} {b o : Nat} : ld Try.prog h 60 (.pointer (some ⟨b, o, none⟩)) = cell h b o := ld_sc tsz60 tag60
theorem xst60 {ro : Nat} {h : Heap} {b o : Nat} {v : Value} : stv Try.prog ro h 60 (.pointer (some ⟨b, o, none⟩)) v = put ro h b o 1 v := stv_put tsz60
theorem xld61 {h : Heap} {b o : Nat} : ld Try.prog h 61 (.pointer (some ⟨b, o, none⟩)) = cell h b o := ld_sc tsz61 tag61
theorem xst61 {ro : Nat} {h : Heap} {b o : Nat} {v : Value} : stv Try.prog ro h 61 (.pointer (some ⟨b, o, none⟩)) v = put ro h b o 1 v := stv_put tsz61
theorem xld62 {h : Heap} {b o : Nat} : ld Try.prog h 62 (.pointer (some ⟨b, o, none⟩)) = cell h b o := ld_sc tsz62 tag62
theorem xst62 {ro : Nat} {h : Heap} {b o : Nat} {v : Value} : stv Try.prog ro h 62 (.pointer (some ⟨b, o, none⟩)) v = put ro h b o 1 v := stv_put tsz62
theorem xld63 {h : Heap} {b o : Nat} : ld Try.prog h 63 (.pointer (some ⟨b, o, none⟩)) = cell h b o := ld_sc tsz63 tag63
theorem xst63 {ro : Nat} {h : Heap} {b o : Nat} {v : Value} : stv Try.prog ro h 63 (.pointer (some ⟨b, o, none⟩)) v = put ro h b o 1 v := stv_put tsz63
theorem xld64 {h : Heap} {b o : Nat} : ld Try.prog h 64 (.pointer (some ⟨b, o, none⟩)) = cell h b o := ld_sc tsz64 tag64
theorem xst64 {ro : Nat} {h : Heap} {b o : Nat} {v : Value} : stv Try.prog ro h 64 (.pointer (some ⟨b, o, none⟩)) v = put ro h b o 1 v := stv_put tsz64
theorem xld65 {h : Heap} {b o : Nat} : ld Try.prog h 65 (.pointer (some ⟨b, o, none⟩)) = cell h b o := ld_sc tsz65 tag65
theorem xst65 {ro : Nat} {h : Heap} {b o : Nat} {v : Value} : stv Try.prog ro h 65 (.pointer (some ⟨b, o, none⟩)) v = put ro h b o 1 v := stv_put tsz65
theorem xld66 {h : Heap} {b o : Nat} : ld Try.prog h 66 (.pointer (some ⟨b, o, none⟩)) = cell h b o := ld_sc tsz66 tag66
theorem xst66 {ro : Nat} {h : Heap} {b o : Nat} {v : Value} : stv Try.prog ro h 66 (.pointer (some ⟨b, o, none⟩)) v = put ro h b o 1 v := stv_put tsz66
theorem xfad67_0 {b o : Nat} : fadr Try.prog 67 (.pointer (some ⟨b, o, none⟩)) 0 = some (.pointer (some ⟨b, o + 0, none⟩)) := fadr_of tfi67_0 (by decide)
theorem xfld67_0 {cs : List Value} : fld Try.prog 67 (.agg ⟨cs⟩) 0 = cs[0]? := fld_sc tfi67_0 tag22
theorem xfad67_1 {b o : Nat} : fadr Try.prog 67 (.pointer (some ⟨b, o, none⟩)) 1 = some (.pointer (some ⟨b, o + 1, none⟩)) := fadr_of tfi67_1 (by decide)
theorem xfld67_1 {cs : List Value} : fld Try.prog 67 (.agg ⟨cs⟩) 1 = cs[1]? := fld_sc tfi67_1 tag3
theorem xfad67_2 {b o : Nat} : fadr Try.prog 67 (.pointer (some ⟨b, o, none⟩)) 2 = some (.pointer (some ⟨b, o + 2, none⟩)) := fadr_of tfi67_2 (by decide)
theorem xfld67_2 {cs : List Value} : fld Try.prog 67 (.agg ⟨cs⟩) 2 = cs[2]? := fld_sc tfi67_2 tag66
theorem xld67 {h : Heap} {b o : Nat} : ld Try.prog h 67 (.pointer (some ⟨b, o, none⟩)) = cells h b o 3 := ld_agg tsz67 tag67
theorem xst67 {ro : Nat} {h : Heap} {b o : Nat} {v : Value} : stv Try.prog ro h 67 (.pointer (some ⟨b, o, none⟩)) v = put ro h b o 3 v := stv_put tsz67
theorem xfad68_0 {b o : Nat} : fadr Try.prog 68 (.pointer (some ⟨b, o, none⟩)) 0 = some (.pointer (some ⟨b, o + 0, none⟩)) := fadr_of tfi68_0 (by decide)
theorem xfld68_0 {cs : List Value} : fld Try.prog 68 (.agg ⟨cs⟩) 0 = cs[0]? := fld_sc tfi68_0 tag22
theorem xfad68_1 {b o : Nat} : fadr Try.prog 68 (.pointer (some ⟨b, o, none⟩)) 1 = some (.pointer (some ⟨b, o + 1, none⟩)) := fadr_of tfi68_1 (by decide)
theorem xfld68_1 {cs : List Value} : fld Try.prog 68 (.agg ⟨cs⟩) 1 = cs[1]? := fld_sc tfi68_1 tag3
theorem xfad68_2 {b o : Nat} : fadr Try.prog 68 (.pointer (some ⟨b, o, none⟩)) 2 = some (.pointer (some ⟨b, o + 2, none⟩)) := fadr_of tfi68_2 (by decide)
theorem xfld68_2 {cs : List Value} : fld Try.prog 68 (.agg ⟨cs⟩) 2 = cs[2]? := fld_sc tfi68_2 tag66
theorem xld68 {h : Heap} {b o : Nat} : ld Try.prog h 68 (.pointer (some ⟨b, o, none⟩)) = cells h b o 3 := ld_agg tsz68 tag68
theorem xst68 {ro : Nat} {h : Heap} {b o : Nat} {v : Value} : stv Try.prog ro h 68 (.pointer (some ⟨b, o, none⟩)) v = put ro h b o 3 v := stv_put tsz68
theorem xld69 {h : Heap} {b o : Nat} : ld Try.prog h 69 (.pointer (some ⟨b, o, none⟩)) = cell h b o := ld_sc tsz69 tag69
theorem xst69 {ro : Nat} {h : Heap} {b o : Nat} {v : Value} : stv Try.prog ro h 69 (.pointer (some ⟨b, o, none⟩)) v = put ro h b o 1 v := stv_put tsz69
theorem xld70 {h : Heap} {b o : Nat} : ld Try.prog h 70 (.pointer (some ⟨b, o, none⟩)) = cell h b o := ld_sc tsz70 tag70
theorem xst70 {ro : Nat} {h : Heap} {b o : Nat} {v : Value} : stv Try.prog ro h 70 (.pointer (some ⟨b, o, none⟩)) v = put ro h b o 1 v := stv_put tsz70
theorem xld71 {h : Heap} {b o : Nat} : ld Try.prog h 71 (.pointer (some ⟨b, o, none⟩)) = cell h b o := ld_sc tsz71 tag71
theorem xst71 {ro : Nat} {h : Heap} {b o : Nat} {v : Value} : stv Try.prog ro h 71 (.pointer (some ⟨b, o, none⟩)) v = put ro h b o 1 v := stv_put tsz71
theorem xld72 {h : Heap} {b o : Nat} : ld Try.prog h 72 (.pointer (some ⟨b, o, none⟩)) = cell h b o := ld_sc tsz72 tag72
theorem xst72 {ro : Nat} {h : Heap} {b o : Nat} {v : Value} : stv Try.prog ro h 72 (.pointer (some ⟨b, o, none⟩)) v = put ro h b o 1 v := stv_put tsz72
theorem xld73 {h : Heap} {b o : Nat} : ld Try.prog h 73 (.pointer (some ⟨b, o, none⟩)) = cell h b o := ld_sc tsz73 tag73
theorem xst73 {ro : Nat} {h : Heap} {b o : Nat} {v : Value} : stv Try.prog ro h 73 (.pointer (some ⟨b, o, none⟩)) v = put ro h b o 1 v := stv_put tsz73
theorem xld74 {h : Heap} {b o : Nat} : ld Try.prog h 74 (.pointer (some ⟨b, o, none⟩)) = cell h b o := ld_sc tsz74 tag74
theorem xst74 {ro : Nat} {h : Heap} {b o : Nat} {v : Value} : stv Try.prog ro h 74 (.pointer (some ⟨b, o, none⟩)) v = put ro h b o 1 v := stv_put tsz74
theorem xld75 {h : Heap} {b o : Nat} : ld Try.prog h 75 (.pointer (some ⟨b, o, none⟩)) = cell h b o := ld_sc tsz75 tag75
theorem xst75 {ro : Nat} {h : Heap} {b o : Nat} {v : Value} : stv Try.prog ro h 75 (.pointer (some ⟨b, o, none⟩)) v = put ro h b o 1 v := stv_put tsz75
theorem xld76 {h : Heap} {b o : Nat} : ld Try.prog h 76 (.pointer (some ⟨b, o, none⟩)) = cell h b o := ld_sc tsz76 tag76
theorem xst76 {ro : Nat} {h : Heap} {b o : Nat} {v : Value} : stv Try.prog ro h 76 (.pointer (some ⟨b, o, none⟩)) v = put ro h b o 1 v := stv_put tsz76
theorem xld77 {h : Heap} {b o : Nat} : ld Try.prog h 77 (.pointer (some ⟨b, o, none⟩)) = cell h b o := ld_sc tsz77 tag77
theorem xst77 {ro : Nat} {h : Heap} {b o : Nat} {v : Value} : stv Try.prog ro h 77 (.pointer (some ⟨b, o, none⟩)) v = put ro h b o 1 v := stv_put tsz77
theorem xld79 {h : Heap} {b o : Nat} : ld Try.prog h 79 (.pointer (some ⟨b, o, none⟩)) = cell h b o := ld_sc tsz79 tag79
theorem xst79 {ro : Nat} {h : Heap} {b o : Nat} {v : Value} : stv Try.prog ro h 79 (.pointer (some ⟨b, o, none⟩)) v = put ro h b o 1 v := stv_put tsz79
theorem xld80 {h : Heap} {b o : Nat} : ld Try.prog h 80 (.pointer (some ⟨b, o, none⟩)) = cell h b o := ld_sc tsz80 tag80
theorem xst80 {ro : Nat} {h : Heap} {b o : Nat} {v : Value} : stv Try.prog ro h 80 (.pointer (some ⟨b, o, none⟩)) v = put ro h b o 1 v := stv_put tsz80
theorem xld81 {h : Heap} {b o : Nat} : ld Try.prog h 81 (.pointer (some ⟨b, o, none⟩)) = cell h b o := ld_sc tsz81 tag81
theorem xst81 {ro : Nat} {h : Heap} {b o : Nat} {v : Value} : stv Try.prog ro h 81 (.pointer (some ⟨b, o, none⟩)) v = put ro h b o 1 v := stv_put tsz81
theorem xld82 {h : Heap} {b o : Nat} : ld Try.prog h 82 (.pointer (some ⟨b, o, none⟩)) = cell h b o := ld_sc tsz82 tag82
theorem xst82 {ro : Nat} {h : Heap} {b o : Nat} {v : Value} : stv Try.prog ro h 82 (.pointer (some ⟨b, o, none⟩)) v = put ro h b o 1 v := stv_put tsz82
theorem xld83 {h : Heap} {b o : Nat} : ld Try.prog h 83 (.pointer (some ⟨b, o, none⟩)) = cell h b o := ld_sc tsz83 tag83
theorem xst83 {ro : Nat} {h : Heap} {b o : Nat} {v : Value} : stv Try.prog ro h 83 (.pointer (some ⟨b, o, none⟩)) v = put ro h b o 1 v := stv_put tsz83
theorem xld84 {h : Heap} {b o : Nat} : ld Try.prog h 84 (.pointer (some ⟨b, o, none⟩)) = cell h b o := ld_sc tsz84 tag84
theorem xst84 {ro : Nat} {h : Heap} {b o : Nat} {v : Value} : stv Try.prog ro h 84 (.pointer (some ⟨b, o, none⟩)) v = put ro h b o 1 v := stv_put tsz84
theorem xld85 {h : Heap} {b o : Nat} : ld Try.prog h 85 (.pointer (some ⟨b, o, none⟩)) = cell h b o := ld_sc tsz85 tag85
theorem xst85 {ro : Nat} {h : Heap} {b o : Nat} {v : Value} : stv Try.prog ro h 85 (.pointer (some ⟨b, o, none⟩)) v = put ro h b o 1 v := stv_put tsz85
theorem xld86 {h : Heap} {b o : Nat} : ld Try.prog h 86 (.pointer (some ⟨b, o, none⟩)) = cell h b o := ld_sc tsz86 tag86
theorem xst86 {ro : Nat} {h : Heap} {b o : Nat} {v : Value} : stv Try.prog ro h 86 (.pointer (some ⟨b, o, none⟩)) v = put ro h b o 1 v := stv_put tsz86
theorem xld87 {h : Heap} {b o : Nat} : ld Try.prog h 87 (.pointer (some ⟨b, o, none⟩)) = cell h b o := ld_sc tsz87 tag87
theorem xst87 {ro : Nat} {h : Heap} {b o : Nat} {v : Value} : stv Try.prog ro h 87 (.pointer (some ⟨b, o, none⟩)) v = put ro h b o 1 v := stv_put tsz87
theorem xld88 {h : Heap} {b o : Nat} : ld Try.prog h 88 (.pointer (some ⟨b, o, none⟩)) = cell h b o := ld_sc tsz88 tag88
theorem xst88 {ro : Nat} {h : Heap} {b o : Nat} {v : Value} : stv Try.prog ro h 88 (.pointer (some ⟨b, o, none⟩)) v = put ro h b o 1 v := stv_put tsz88
theorem xld89 {h : Heap} {b o : Nat} : ld Try.prog h 89 (.pointer (some ⟨b, o, none⟩)) = cell h b o := ld_sc tsz89 tag89
theorem xst89 {ro : Nat} {h : Heap} {b o : Nat} {v : Value} : stv Try.prog ro h 89 (.pointer (some ⟨b, o, none⟩)) v = put ro h b o 1 v := stv_put tsz89
theorem xld90 {h : Heap} {b o : Nat} : ld Try.prog h 90 (.pointer (some ⟨b, o, none⟩)) = cell h b o := ld_sc tsz90 tag90
theorem xst90 {ro : Nat} {h : Heap} {b o : Nat} {v : Value} : stv Try.prog ro h 90 (.pointer (some ⟨b, o, none⟩)) v = put ro h b o 1 v := stv_put tsz90
theorem xld91 {h : Heap} {b o : Nat} : ld Try.prog h 91 (.pointer (some ⟨b, o, none⟩)) = cell h b o := ld_sc tsz91 tag91
theorem xst91 {ro : Nat} {h : Heap} {b o : Nat} {v : Value} : stv Try.prog ro h 91 (.pointer (some ⟨b, o, none⟩)) v = put ro h b o 1 v := stv_put tsz91
theorem xld92 {h : Heap} {b o : Nat} : ld Try.prog h 92 (.pointer (some ⟨b, o, none⟩)) = cell h b o := ld_sc tsz92 tag92
theorem xst92 {ro : Nat} {h : Heap} {b o : Nat} {v : Value} : stv Try.prog ro h 92 (.pointer (some ⟨b, o, none⟩)) v = put ro h b o 1 v := stv_put tsz92
theorem xld93 {h : Heap} {b o : Nat} : ld Try.prog h 93 (.pointer (some ⟨b, o, none⟩)) = cell h b o := ld_sc tsz93 tag93
theorem xst93 {ro : Nat} {h : Heap} {b o : Nat} {v : Value} : stv Try.prog ro h 93 (.pointer (some ⟨b, o, none⟩)) v = put ro h b o 1 v := stv_put tsz93
theorem xld94 {h : Heap} {b o : Nat} : ld Try.prog h 94 (.pointer (some ⟨b, o, none⟩)) = cell h b o := ld_sc tsz94 tag94
theorem xst94 {ro : Nat} {h : Heap} {b o : Nat} {v : Value} : stv Try.prog ro h 94 (.pointer (some ⟨b, o, none⟩)) v = put ro h b o 1 v := stv_put tsz94
theorem xld95 {h : Heap} {b o : Nat} : ld Try.prog h 95 (.pointer (some ⟨b, o, none⟩)) = cell h b o := ld_sc tsz95 tag95
theorem xst95 {ro : Nat} {h : Heap} {b o : Nat} {v : Value} : stv Try.prog ro h 95 (.pointer (some ⟨b, o, none⟩)) v = put ro h b o 1 v := stv_put tsz95
theorem xld96 {h : Heap} {b o : Nat} : ld Try.prog h 96 (.pointer (some ⟨b, o, none⟩)) = cell h b o := ld_sc tsz96 tag96
theorem xst96 {ro : Nat} {h : Heap} {b o : Nat} {v : Value} : stv Try.prog ro h 96 (.pointer (some ⟨b, o, none⟩)) v = put ro h b o 1 v := stv_put tsz96
theorem xlen97 {ro : Nat} {a : Option Addr} {n c : Nat} {h : Heap} : ablt Try.prog ro .len [97] [.slice a n c] h = some (.int .i64 n, h) := len_slc Try.underlying97
theorem xiad97 {b o len cap : Nat} {k : IntKind} {n : Int} (h0 : 0 ≤ n) (h1 : n < len) : iadr Try.prog 97 (.slice (some ⟨b, o, none⟩) len cap) (.int k n) = some (.pointer (some ⟨b, o + n.toNat * 1, none⟩)) := iadr_slc Try.underlying97 tsz2 h0 h1
theorem xmk97 {h : Heap} {k1 k2 : IntKind} {l : Int} (h0 : 0 ≤ l) (h1 : (8 : Nat) * l ≤ 140737488355328) (h2 : l ≤ 9223372036854775807) : mk Try.prog h 97 (.int k1 l) (.int k2 l) = some (.slice (some ⟨h.length, 0, none⟩) l.toNat l.toNat, h ++ [zblk 2 (l.toNat * 1)]) := mk_go tel97 tsz2 tby2 tze2 rfl (by decide) h0 h1 h2
theorem xld97 {h : Heap} {b o : Nat} : ld Try.prog h 97 (.pointer (some ⟨b, o, none⟩)) = cell h b o := ld_sc tsz97 tag97
theorem xst97 {ro : Nat} {h : Heap} {b o : Nat} {v : Value} : stv Try.prog ro h 97 (.pointer (some ⟨b, o, none⟩)) v = put ro h b o 1 v := stv_put tsz97
theorem xfad98_0 {b o : Nat} : fadr Try.prog 98 (.pointer (some ⟨b, o, none⟩)) 0 = some (.pointer (some ⟨b, o + 0, none⟩)) := fadr_of tfi98_0 (by decide)
theorem xfld98_0 {cs : List Value} : fld Try.prog 98 (.agg ⟨cs⟩) 0 = cs[0]? := fld_sc tfi98_0 tag17
theorem xfad98_1 {b o : Nat} : fadr Try.prog 98 (.pointer (some ⟨b, o, none⟩)) 1 = some (.pointer (some ⟨b, o + 1, none⟩)) := fadr_of tfi98_1 (by decide)
theorem xfld98_1 {cs : List Value} : fld Try.prog 98 (.agg ⟨cs⟩) 1 = cs[1]? := fld_sc tfi98_1 tag17
theorem xfad98_2 {b o : Nat} : fadr Try.prog 98 (.pointer (some ⟨b, o, none⟩)) 2 = some (.pointer (some ⟨b, o + 2, none⟩)) := fadr_of tfi98_2 (by decide)
theorem xfld98_2 {cs : List Value} : fld Try.prog 98 (.agg ⟨cs⟩) 2 = cs[2]? := fld_sc tfi98_2 tag17
theorem xfad98_3 {b o : Nat} : fadr Try.prog 98 (.pointer (some ⟨b, o, none⟩)) 3 = some (.pointer (some ⟨b, o + 3, none⟩)) := fadr_of tfi98_3 (by decide)
theorem xfld98_3 {cs : List Value} : fld Try.prog 98 (.agg ⟨cs⟩) 3 = cs[3]? := fld_sc tfi98_3 tag9
theorem xld98 {h : Heap} {b o : Nat} : ld Try.prog h 98 (.pointer (some ⟨b, o, none⟩)) = cells h b o 4 := ld_agg tsz98 tag98
theorem xst98 {ro : Nat} {h : Heap} {b o : Nat} {v : Value} : stv Try.prog ro h 98 (.pointer (some ⟨b, o, none⟩)) v = put ro h b o 4 v := stv_put tsz98
theorem xfad99_0 {b o : Nat} : fadr Try.prog 99 (.pointer (some ⟨b, o, none⟩)) 0 = some (.pointer (some ⟨b, o + 0, none⟩)) := fadr_of tfi99_0 (by decide)
theorem xfld99_0 {cs : List Value} : fld Try.prog 99 (.agg ⟨cs⟩) 0 = cs[0]? := fld_sc tfi99_0 tag17
theorem xfad99_1 {b o : Nat} : fadr Try.prog 99 (.pointer (some ⟨b, o, none⟩)) 1 = some (.pointer (some ⟨b, o + 1, none⟩)) := fadr_of tfi99_1 (by decide)
theorem xfld99_1 {cs : List Value} : fld Try.prog 99 (.agg ⟨cs⟩) 1 = cs[1]? := fld_sc tfi99_1 tag17
theorem xfad99_2 {b o : Nat} : fadr Try.prog 99 (.pointer (some ⟨b, o, none⟩)) 2 = some (.pointer (some ⟨b, o + 2, none⟩)) := fadr_of tfi99_2 (by decide)
theorem xfld99_2 {cs : List Value} : fld Try.prog 99 (.agg ⟨cs⟩) 2 = cs[2]? := fld_sc tfi99_2 tag17
theorem xfad99_3 {b o : Nat} : fadr Try.prog 99 (.pointer (some ⟨b, o, none⟩)) 3 = some (.pointer (some ⟨b, o + 3, none⟩)) := fadr_of tfi99_3 (by decide)
theorem xfld99_3 {cs : List Value} : fld Try.prog 99 (.agg ⟨cs⟩) 3 = cs[3]? := fld_sc tfi99_3 tag9
theorem xld99 {h : Heap} {b o : Nat} : ld Try.prog h 99 (.pointer (some ⟨b, o, none⟩)) = cells h b o 4 := ld_agg tsz99 tag99
theorem xst99 {ro : Nat} {h : Heap} {b o : Nat} {v : Value} : stv Try.prog ro h 99 (.pointer (some ⟨b, o, none⟩)) v = put ro h b o 4 v := stv_put tsz99
theorem xld100 {h : Heap} {b o : Nat} : ld Try.prog h 100 (.pointer (some ⟨b, o, none⟩)) = cells h b o 0 := ld_agg tsz100 tag100
theorem xst100 {ro : Nat} {h : Heap} {b o : Nat} {v : Value} : stv Try.prog ro h 100 (.pointer (some ⟨b, o, none⟩)) v = put ro h b o 0 v := stv_put tsz100
theorem xfld101_0 {cs : List Value} : fld Try.prog 101 (.agg ⟨cs⟩) 0 = some (.agg ⟨(cs.drop 0).take 0⟩) := fld_agg tfi101_0 tag100
theorem xld101 {h : Heap} {b o : Nat} : ld Try.prog h 101 (.pointer (some ⟨b, o, none⟩)) = cells h b o 0 := ld_agg tsz101 tag101
theorem xst101 {ro : Nat} {h : Heap} {b o : Nat} {v : Value} : stv Try.prog ro h 101 (.pointer (some ⟨b, o, none⟩)) v = put ro h b o 0 v := stv_put tsz101
theorem xfld102_0 {cs : List Value} : fld Try.prog 102 (.agg ⟨cs⟩) 0 = some (.agg ⟨(cs.drop 0).take 0⟩) := fld_agg tfi102_0 tag100
theorem xld102 {h : Heap} {b o : Nat} : ld Try.prog h 102 (.pointer (some ⟨b, o, none⟩)) = cells h b o 0 := ld_agg tsz102 tag102
theorem xst102 {ro : Nat} {h : Heap} {b o : Nat} {v : Value} : stv Try.prog ro h 102 (.pointer (some ⟨b, o, none⟩)) v = put ro h b o 0 v := stv_put tsz102
theorem xld103 {h : Heap} {b o : Nat} : ld Try.prog h 103 (.pointer (some ⟨b, o, none⟩)) = cell h b o := ld_sc tsz103 tag103
theorem xst103 {ro : Nat} {h : Heap} {b o : Nat} {v : Value} : stv Try.prog ro h 103 (.pointer (some ⟨b, o, none⟩)) v = put ro h b o 1 v := stv_put tsz103
theorem xld104 {h : Heap} {b o : Nat} : ld Try.prog h 104 (.pointer (some ⟨b, o, none⟩)) = cell h b o := ld_sc tsz104 tag104
theorem xst104 {ro : Nat} {h : Heap} {b o : Nat} {v : Value} : stv Try.prog ro h 104 (.pointer (some ⟨b, o, none⟩)) v = put ro h b o 1 v := stv_put tsz104
theorem xld105 {h : Heap} {b o : Nat} : ld Try.prog h 105 (.pointer (some ⟨b, o, none⟩)) = cell h b o := ld_sc tsz105 tag105
theorem xst105 {ro : Nat} {h : Heap} {b o : Nat} {v : Value} : stv Try.prog ro h 105 (.pointer (some ⟨b, o, none⟩)) v = put ro h b o 1 v := stv_put tsz105
theorem xld106 {h : Heap} {b o : Nat} : ld Try.prog h 106 (.pointer (some ⟨b, o, none⟩)) = cell h b o := ld_sc tsz106 tag106
theorem xst106 {ro : Nat} {h : Heap} {b o : Nat} {v : Value} : stv Try.prog ro h 106 (.pointer (some ⟨b, o, none⟩)) v = put ro h b o 1 v := stv_put tsz106
theorem xld107 {h : Heap} {b o : Nat} : ld Try.prog h 107 (.pointer (some ⟨b, o, none⟩)) = cell h b o := ld_sc tsz107 tag107
theorem xst107 {ro : Nat} {h : Heap} {b o : Nat} {v : Value} : stv Try.prog ro h 107 (.pointer (some ⟨b, o, none⟩)) v = put ro h b o 1 v := stv_put tsz107
theorem xld108 {h : Heap} {b o : Nat} : ld Try.prog h 108 (.pointer (some ⟨b, o, none⟩)) = cell h b o := ld_sc tsz108 tag108
theorem xst108 {ro : Nat} {h : Heap} {b o : Nat} {v : Value} : stv Try.prog ro h 108 (.pointer (some ⟨b, o, none⟩)) v = put ro h b o 1 v := stv_put tsz108
theorem xfad109_0 {b o : Nat} : fadr Try.prog 109 (.pointer (some ⟨b, o, none⟩)) 0 = some (.pointer (some ⟨b, o + 0, none⟩)) := fadr_of tfi109_0 (by decide)
theorem xfld109_0 {cs : List Value} : fld Try.prog 109 (.agg ⟨cs⟩) 0 = cs[0]? := fld_sc tfi109_0 tag12
theorem xfad109_1 {b o : Nat} : fadr Try.prog 109 (.pointer (some ⟨b, o, none⟩)) 1 = some (.pointer (some ⟨b, o + 1, none⟩)) := fadr_of tfi109_1 (by decide)
theorem xfld109_1 {cs : List Value} : fld Try.prog 109 (.agg ⟨cs⟩) 1 = cs[1]? := fld_sc tfi109_1 tag12
theorem xfad109_2 {b o : Nat} : fadr Try.prog 109 (.pointer (some ⟨b, o, none⟩)) 2 = some (.pointer (some ⟨b, o + 2, none⟩)) := fadr_of tfi109_2 (by decide)
theorem xfld109_2 {cs : List Value} : fld Try.prog 109 (.agg ⟨cs⟩) 2 = cs[2]? := fld_sc tfi109_2 tag86
theorem xfad109_3 {b o : Nat} : fadr Try.prog 109 (.pointer (some ⟨b, o, none⟩)) 3 = some (.pointer (some ⟨b, o + 3, none⟩)) := fadr_of tfi109_3 (by decide)
theorem xfld109_3 {cs : List Value} : fld Try.prog 109 (.agg ⟨cs⟩) 3 = cs[3]? := fld_sc tfi109_3 tag104
theorem xfad109_4 {b o : Nat} : fadr Try.prog 109 (.pointer (some ⟨b, o, none⟩)) 4 = some (.pointer (some ⟨b, o + 4, none⟩)) := fadr_of tfi109_4 (by decide)
theorem xfld109_4 {cs : List Value} : fld Try.prog 109 (.agg ⟨cs⟩) 4 = cs[4]? := fld_sc tfi109_4 tag5
theorem xfad109_5 {b o : Nat} : fadr Try.prog 109 (.pointer (some ⟨b, o, none⟩)) 5 = some (.pointer (some ⟨b, o + 5, none⟩)) := fadr_of tfi109_5 (by decide)
theorem xfld109_5 {cs : List Value} : fld Try.prog 109 (.agg ⟨cs⟩) 5 = cs[5]? := fld_sc tfi109_5 tag5
theorem xfad109_6 {b o : Nat} : fadr Try.prog 109 (.pointer (some ⟨b, o, none⟩)) 6 = some (.pointer (some ⟨b, o + 6, none⟩)) := fadr_of tfi109_6 (by decide)
theorem xfld109_6 {cs : List Value} : fld Try.prog 109 (.agg ⟨cs⟩) 6 = cs[6]? := fld_sc tfi109_6 tag105
theorem xfad109_7 {b o : Nat} : fadr Try.prog 109 (.pointer (some ⟨b, o, none⟩)) 7 = some (.pointer (some ⟨b, o + 7, none⟩)) := fadr_of tfi109_7 (by decide)
theorem xfld109_7 {cs : List Value} : fld Try.prog 109 (.agg ⟨cs⟩) 7 = cs[7]? := fld_sc tfi109_7 tag106
theorem xfad109_8 {b o : Nat} : fadr Try.prog 109 (.pointer (some ⟨b, o, none⟩)) 8 = some (.pointer (some ⟨b, o + 8, none⟩)) := fadr_of tfi109_8 (by decide)
theorem xfld109_8 {cs : List Value} : fld Try.prog 109 (.agg ⟨cs⟩) 8 = cs[8]? := fld_sc tfi109_8 tag75
theorem xfad109_9 {b o : Nat} : fadr Try.prog 109 (.pointer (some ⟨b, o, none⟩)) 9 = some (.pointer (some ⟨b, o + 9, none⟩)) := fadr_of tfi109_9 (by decide)
theorem xfld109_9 {cs : List Value} : fld Try.prog 109 (.agg ⟨cs⟩) 9 = cs[9]? := fld_sc tfi109_9 tag107
theorem xfad109_10 {b o : Nat} : fadr Try.prog 109 (.pointer (some ⟨b, o, none⟩)) 10 = some (.pointer (some ⟨b, o + 10, none⟩)) := fadr_of tfi109_10 (by decide)
theorem xfld109_10 {cs : List Value} : fld Try.prog 109 (.agg ⟨cs⟩) 10 = cs[10]? := fld_sc tfi109_10 tag108
theorem xld109 {h : Heap} {b o : Nat} : ld Try.prog h 109 (.pointer (some ⟨b, o, none⟩)) = cells h b o 11 := ld_agg tsz109 tag109
theorem xst109 {ro : Nat} {h : Heap} {b o : Nat} {v : Value} : stv Try.prog ro h 109 (.pointer (some ⟨b, o, none⟩)) v = put ro h b o 11 v := stv_put tsz109
theorem xfad110_0 {b o : Nat} : fadr Try.prog 110 (.pointer (some ⟨b, o, none⟩)) 0 = some (.pointer (some ⟨b, o + 0, none⟩)) := fadr_of tfi110_0 (by decide)
theorem xfld110_0 {cs : List Value} : fld Try.prog 110 (.agg ⟨cs⟩) 0 = cs[0]? := fld_sc tfi110_0 tag12
theorem xfad110_1 {b o : Nat} : fadr Try.prog 110 (.pointer (some ⟨b, o, none⟩)) 1 = some (.pointer (some ⟨b, o + 1, none⟩)) := fadr_of tfi110_1 (by decide)
theorem xfld110_1 {cs : List Value} : fld Try.prog 110 (.agg ⟨cs⟩) 1 = cs[1]? := fld_sc tfi110_1 tag12
theorem xfad110_2 {b o : Nat} : fadr Try.prog 110 (.pointer (some ⟨b, o, none⟩)) 2 = some (.pointer (some ⟨b, o + 2, none⟩)) := fadr_of tfi110_2 (by decide)
theorem xfld110_2 {cs : List Value} : fld Try.prog 110 (.agg ⟨cs⟩) 2 = cs[2]? := fld_sc tfi110_2 tag86
theorem xfad110_3 {b o : Nat} : fadr Try.prog 110 (.pointer (some ⟨b, o, none⟩)) 3 = some (.pointer (some ⟨b, o + 3, none⟩)) := fadr_of tfi110_3 (by decide)
theorem xfld110_3 {cs : List Value} : fld Try.prog 110 (.agg ⟨cs⟩) 3 = cs[3]? := fld_sc tfi110_3 tag104
theorem xfad110_4 {b o : Nat} : fadr Try.prog 110 (.pointer (some ⟨b, o, none⟩)) 4 = some (.pointer (some ⟨b, o + 4, none⟩)) := fadr_of tfi110_4 (by decide)
theorem xfld110_4 {cs : List Value} : fld Try.prog 110 (.agg ⟨cs⟩) 4 = cs[4]? := fld_sc tfi110_4 tag5
theorem xfad110_5 {b o : Nat} : fadr Try.prog 110 (.pointer (some ⟨b, o, none⟩)) 5 = some (.pointer (some ⟨b, o + 5, none⟩)) := fadr_of tfi110_5 (by decide)
theorem xfld110_5 {cs : List Value} : fld Try.prog 110 (.agg ⟨cs⟩) 5 = cs[5]? := fld_sc tfi110_5 tag5
theorem xfad110_6 {b o : Nat} : fadr Try.prog 110 (.pointer (some ⟨b, o, none⟩)) 6 = some (.pointer (some ⟨b, o + 6, none⟩)) := fadr_of tfi110_6 (by decide)
theorem xfld110_6 {cs : List Value} : fld Try.prog 110 (.agg ⟨cs⟩) 6 = cs[6]? := fld_sc tfi110_6 tag105
theorem xfad110_7 {b o : Nat} : fadr Try.prog 110 (.pointer (some ⟨b, o, none⟩)) 7 = some (.pointer (some ⟨b, o + 7, none⟩)) := fadr_of tfi110_7 (by decide)
theorem xfld110_7 {cs : List Value} : fld Try.prog 110 (.agg ⟨cs⟩) 7 = cs[7]? := fld_sc tfi110_7 tag106
theorem xfad110_8 {b o : Nat} : fadr Try.prog 110 (.pointer (some ⟨b, o, none⟩)) 8 = some (.pointer (some ⟨b, o + 8, none⟩)) := fadr_of tfi110_8 (by decide)
theorem xfld110_8 {cs : List Value} : fld Try.prog 110 (.agg ⟨cs⟩) 8 = cs[8]? := fld_sc tfi110_8 tag75
theorem xfad110_9 {b o : Nat} : fadr Try.prog 110 (.pointer (some ⟨b, o, none⟩)) 9 = some (.pointer (some ⟨b, o + 9, none⟩)) := fadr_of tfi110_9 (by decide)
theorem xfld110_9 {cs : List Value} : fld Try.prog 110 (.agg ⟨cs⟩) 9 = cs[9]? := fld_sc tfi110_9 tag107
theorem xfad110_10 {b o : Nat} : fadr Try.prog 110 (.pointer (some ⟨b, o, none⟩)) 10 = some (.pointer (some ⟨b, o + 10, none⟩)) := fadr_of tfi110_10 (by decide)
theorem xfld110_10 {cs : List Value} : fld Try.prog 110 (.agg ⟨cs⟩) 10 = cs[10]? := fld_sc tfi110_10 tag108
theorem xld110 {h : Heap} {b o : Nat} : ld Try.prog h 110 (.pointer (some ⟨b, o, none⟩)) = cells h b o 11 := ld_agg tsz110 tag110
theorem xst110 {ro : Nat} {h : Heap} {b o : Nat} {v : Value} : stv Try.prog ro h 110 (.pointer (some ⟨b, o, none⟩)) v = put ro h b o 11 v := stv_put tsz110
theorem xbls22_0 {h : Heap} : bldS Try.prog h 22 0 [] = some (.slice (some ⟨h.length, 0, none⟩) 0 0, h ++ [⟨5, []⟩]) := bldS_nil tel22 tsz5 tze5
theorem xbls22_1 {h : Heap} {v : Value} (hl : (cellsOf v).length = 1) (h1 : (cellsOf v).all one = true) : bldS Try.prog h 22 1 [(0, v)] = some (.slice (some ⟨h.length, 0, none⟩) 1 1, h ++ [⟨5, cellsOf v⟩]) := bldS_one tel22 tsz5 tze5 rfl (by decide) hl h1
theorem xbls24_0 {h : Heap} : bldS Try.prog h 24 0 [] = some (.slice (some ⟨h.length, 0, none⟩) 0 0, h ++ [⟨41, []⟩]) := bldS_nil tel24 tsz41 tze41
theorem xbls24_1 {h : Heap} {v : Value} (hl : (cellsOf v).length = 2) (h1 : (cellsOf v).all one = true) : bldS Try.prog h 24 1 [(0, v)] = some (.slice (some ⟨h.length, 0, none⟩) 1 1, h ++ [⟨41, cellsOf v⟩]) := bldS_one tel24 tsz41 tze41 rfl (by decide) hl h1
theorem xbls39_0 {h : Heap} : bldS Try.prog h 39 0 [] = some (.slice (some ⟨h.length, 0, none⟩) 0 0, h ++ [⟨65, []⟩]) := bldS_nil tel39 tsz65 tze65
theorem xbls39_1 {h : Heap} {v : Value} (hl : (cellsOf v).length = 1) (h1 : (cellsOf v).all one = true) : bldS Try.prog h 39 1 [(0, v)] = some (.slice (some ⟨h.length, 0, none⟩) 1 1, h ++ [⟨65, cellsOf v⟩]) := bldS_one tel39 tsz65 tze65 rfl (by decide) hl h1
theorem xbls97_0 {h : Heap} : bldS Try.prog h 97 0 [] = some (.slice (some ⟨h.length, 0, none⟩) 0 0, h ++ [⟨2, []⟩]) := bldS_nil tel97 tsz2 tze2
theorem xbls97_1 {h : Heap} {v : Value} (hl : (cellsOf v).length = 1) (h1 : (cellsOf v).all one = true) : bldS Try.prog h 97 1 [(0, v)] = some (.slice (some ⟨h.length, 0, none⟩) 1 1, h ++ [⟨2, cellsOf v⟩]) := bldS_one tel97 tsz2 tze2 rfl (by decide) hl h1
theorem xbld52  : bld Try.prog 52 [] = some (.agg ⟨[.pointer none, .slice none 0 0]⟩) := by
  simp only [bld, tze52, tpl52, Option.bind_some, lay, cellsOf_agg, List.getElem?_cons_zero, List.getElem?_cons_succ, List.length_cons, List.length_nil, ne_eq, not_true_eq_false, false_or, Nat.reduceAdd, Nat.reduceLeDiff, Nat.reduceGT, gt_iff_lt, Nat.reduceLT, Nat.lt_irrefl, if_false, Nat.not_lt_zero]
  simp [splice]
theorem xbld26  : bld Try.prog 26 [] = some (.agg ⟨[.int .i64 0, .slice none 0 0]⟩) := by
  simp only [bld, tze26, tpl26, Option.bind_some, lay, cellsOf_agg, List.getElem?_cons_zero, List.getElem?_cons_succ, List.length_cons, List.length_nil, ne_eq, not_true_eq_false, false_or, Nat.reduceAdd, Nat.reduceLeDiff, Nat.reduceGT, gt_iff_lt, Nat.reduceLT, Nat.lt_irrefl, if_false, Nat.not_lt_zero]
  simp [splice]
theorem xbld26_0 {v0 : Value} (h0 : cellsOf v0 = [v0]) : bld Try.prog 26 [(0, v0)] = some (.agg ⟨[v0, .slice none 0 0]⟩) := by
  simp only [bld, tze26, tpl26, Option.bind_some, lay, cellsOf_agg, h0, List.getElem?_cons_zero, List.getElem?_cons_succ, List.length_cons, List.length_nil, ne_eq, not_true_eq_false, false_or, Nat.reduceAdd, Nat.reduceLeDiff, Nat.reduceGT, gt_iff_lt, Nat.reduceLT, Nat.lt_irrefl, if_false, Nat.not_lt_zero]
  simp [splice]
theorem xbld41  : bld Try.prog 41 [] = some (.agg ⟨[.int .i64 0, .slice none 0 0]⟩) := by
  simp only [bld, tze41, tpl41, Option.bind_some, lay, cellsOf_agg, List.getElem?_cons_zero, List.getElem?_cons_succ, List.length_cons, List.length_nil, ne_eq, not_true_eq_false, false_or, Nat.reduceAdd, Nat.reduceLeDiff, Nat.reduceGT, gt_iff_lt, Nat.reduceLT, Nat.lt_irrefl, if_false, Nat.not_lt_zero]
  simp [splice]
theorem xbld68_0 {v0 : Value} (h0 : cellsOf v0 = [v0]) : bld Try.prog 68 [(0, v0)] = some (.agg ⟨[v0, .int .i64 0, .int .u64 0]⟩) := by
  simp only [bld, tze68, tpl68, Option.bind_some, lay, cellsOf_agg, h0, List.getElem?_cons_zero, List.getElem?_cons_succ, List.length_cons, List.length_nil, ne_eq, not_true_eq_false, false_or, Nat.reduceAdd, Nat.reduceLeDiff, Nat.reduceGT, gt_iff_lt, Nat.reduceLT, Nat.lt_irrefl, if_false, Nat.not_lt_zero]
  simp [splice]
theorem xbld41_0 {v0 : Value} (h0 : cellsOf v0 = [v0]) : bld Try.prog 41 [(0, v0)] = some (.agg ⟨[v0, .slice none 0 0]⟩) := by
  simp only [bld, tze41, tpl41, Option.bind_some, lay, cellsOf_agg, h0, List.getElem?_cons_zero, List.getElem?_cons_succ, List.length_cons, List.length_nil, ne_eq, not_true_eq_false, false_or, Nat.reduceAdd, Nat.reduceLeDiff, Nat.reduceGT, gt_iff_lt, Nat.reduceLT, Nat.lt_irrefl, if_false, Nat.not_lt_zero]
  simp [splice]
theorem xbld26_0_1 {v0 v1 : Value} (h0 : cellsOf v0 = [v0]) (h1 : cellsOf v1 = [v1]) : bld Try.prog 26 [(0, v0), (1, v1)] = some (.agg ⟨[v0, v1]⟩) := by
  simp only [bld, tze26, tpl26, Option.bind_some, lay, cellsOf_agg, h0, h1, List.getElem?_cons_zero, List.getElem?_cons_succ, List.length_cons, List.length_nil, ne_eq, not_true_eq_false, false_or, Nat.reduceAdd, Nat.reduceLeDiff, Nat.reduceGT, gt_iff_lt, Nat.reduceLT, Nat.lt_irrefl, if_false, Nat.not_lt_zero]
  simp [splice]
theorem xbld41_0_1 {v0 v1 : Value} (h0 : cellsOf v0 = [v0]) (h1 : cellsOf v1 = [v1]) : bld Try.prog 41 [(0, v0), (1, v1)] = some (.agg ⟨[v0, v1]⟩) := by
  simp only [bld, tze41, tpl41, Option.bind_some, lay, cellsOf_agg, h0, h1, List.getElem?_cons_zero, List.getElem?_cons_succ, List.length_cons, List.length_nil, ne_eq, not_true_eq_false, false_or, Nat.reduceAdd, Nat.reduceLeDiff, Nat.reduceGT, gt_iff_lt, Nat.reduceLT, Nat.lt_irrefl, if_false, Nat.not_lt_zero]
  simp [splice]
theorem xcv2_5 {h : Heap} {k' : IntKind} {n : Int} : aconv Try.prog h 2 5 (.int k' n) = some (.int .u8 (IntKind.u8.wrap n)) := conv_int Try.underlying2 Try.underlying5
theorem xcv5_2 {h : Heap} {k' : IntKind} {n : Int} : aconv Try.prog h 5 2 (.int k' n) = some (.int .i64 (IntKind.i64.wrap n)) := conv_int Try.underlying5 Try.underlying2
theorem xcv86_2 {h : Heap} {k' : IntKind} {n : Int} : aconv Try.prog h 86 2 (.int k' n) = some (.int .i64 (IntKind.i64.wrap n)) := conv_int Try.underlying86 Try.underlying2
theorem xcv2_86 {h : Heap} {k' : IntKind} {n : Int} : aconv Try.prog h 2 86 (.int k' n) = some (.int .u32 (IntKind.u32.wrap n)) := conv_int Try.underlying2 Try.underlying86
theorem xcv73_91 {h : Heap} {q : FloatKind} {b : Nat} : aconv Try.prog h 73 91 (.float q b) = (fconv q b .f64).map fun r => .float .f64 r := conv_ff Try.underlying73 Try.underlying91
theorem xcv5_3 {h : Heap} {k' : IntKind} {n : Int} : aconv Try.prog h 5 3 (.int k' n) = some (.int .i64 (IntKind.i64.wrap n)) := conv_int Try.underlying5 Try.underlying3
theorem xcv3_66 {h : Heap} {k' : IntKind} {n : Int} : aconv Try.prog h 3 66 (.int k' n) = some (.int .u64 (IntKind.u64.wrap n)) := conv_int Try.underlying3 Try.underlying66
theorem xcv66_2 {h : Heap} {k' : IntKind} {n : Int} : aconv Try.prog h 66 2 (.int k' n) = some (.int .i64 (IntKind.i64.wrap n)) := conv_int Try.underlying66 Try.underlying2
theorem xcv2_73 {h : Heap} {k' : IntKind} {n : Int} : aconv Try.prog h 2 73 (.int k' n) = some (.float .f32 (cf .f32 (FloatKind.nearest .f32 n))) := conv_if Try.underlying2 Try.underlying73
theorem fr0 : Try.f0.results.toList = [] := rfl
theorem fr1 : Try.f1.results.toList = [] := rfl
theorem fr2 : Try.f2.results.toList = [] := rfl
theorem fr3 : Try.f3.results.toList = [.tmp 4] := rfl
theorem fr4 : Try.f4.results.toList = [.tmp 4] := rfl
theorem fr5 : Try.f5.results.toList = [.cell 2 26] := rfl
theorem fr6 : Try.f6.results.toList = [.tmp 2, .tmp 3] := rfl
theorem fr7 : Try.f7.results.toList = [.cell 2 26, .tmp 3] := rfl
theorem fr8 : Try.f8.results.toList = [.tmp 2, .tmp 3] := rfl
theorem fr9 : Try.f9.results.toList = [.tmp 2] := rfl
theorem fr10 : Try.f10.results.toList = [.tmp 4] := rfl
theorem fr11 : Try.f11.results.toList = [.tmp 6] := rfl
theorem fr12 : Try.f12.results.toList = [.cell 2 26, .tmp 3, .tmp 4] := rfl
theorem fr13 : Try.f13.results.toList = [.cell 4 41, .tmp 5] := rfl
theorem fr14 : Try.f14.results.toList = [.tmp 4] := rfl
theorem fr15 : Try.f15.results.toList = [.tmp 4, .tmp 5, .tmp 6] := rfl
theorem fr16 : Try.f16.results.toList = [.tmp 2] := rfl
theorem fr17 : Try.f17.results.toList = [.cell 2 26] := rfl
theorem fr18 : Try.f18.results.toList = [.tmp 4, .tmp 5] := rfl
theorem fr19 : Try.f19.results.toList = [.tmp 2] := rfl
theorem fr20 : Try.f20.results.toList = [.tmp 2] := rfl
theorem fr21 : Try.f21.results.toList = [.tmp 2] := rfl
theorem fr22 : Try.f22.results.toList = [.tmp 2] := rfl
theorem fr23 : Try.f23.results.toList = [.tmp 6] := rfl
theorem fr24 : Try.f24.results.toList = [.tmp 4] := rfl
theorem fr25 : Try.f25.results.toList = [.tmp 2, .tmp 3] := rfl
theorem fr26 : Try.f26.results.toList = [.cell 4 41, .tmp 5] := rfl
theorem fr27 : Try.f27.results.toList = [.tmp 6] := rfl
theorem fr28 : Try.f28.results.toList = [.tmp 4] := rfl
theorem fr29 : Try.f29.results.toList = [.tmp 4] := rfl
theorem fr30 : Try.f30.results.toList = [.cell 4 26] := rfl
theorem fr31 : Try.f31.results.toList = [] := rfl
theorem fr32 : Try.f32.results.toList = [.tmp 4] := rfl
theorem fr33 : Try.f33.results.toList = [.tmp 2] := rfl
theorem fr34 : Try.f34.results.toList = [.tmp 4, .tmp 5] := rfl
theorem fr35 : Try.f35.results.toList = [.tmp 4] := rfl
theorem fr36 : Try.f36.results.toList = [.tmp 4] := rfl
theorem fr37 : Try.f37.results.toList = [.tmp 2] := rfl
theorem fr38 : Try.f38.results.toList = [.tmp 2, .tmp 3] := rfl
theorem fr39 : Try.f39.results.toList = [.tmp 4] := rfl
theorem fr40 : Try.f40.results.toList = [.tmp 2] := rfl
theorem fr41 : Try.f41.results.toList = [.tmp 4] := rfl
theorem fr42 : Try.f42.results.toList = [.tmp 4] := rfl
theorem fr43 : Try.f43.results.toList = [] := rfl
theorem fr44 : Try.f44.results.toList = [] := rfl
theorem fr45 : Try.f45.results.toList = [.tmp 6] := rfl
theorem fr46 : Try.f46.results.toList = [.tmp 4] := rfl
theorem fr47 : Try.f47.results.toList = [] := rfl
theorem fr48 : Try.f48.results.toList = [.tmp 2] := rfl
theorem fr49 : Try.f49.results.toList = [.tmp 2] := rfl
theorem fr50 : Try.f50.results.toList = [.tmp 2] := rfl
theorem fr51 : Try.f51.results.toList = [] := rfl
theorem fr52 : Try.f52.results.toList = [.tmp 2] := rfl
theorem fr53 : Try.f53.results.toList = [.tmp 2] := rfl
theorem fr54 : Try.f54.results.toList = [.tmp 2] := rfl
theorem fr55 : Try.f55.results.toList = [.tmp 4] := rfl
theorem fr56 : Try.f56.results.toList = [] := rfl
theorem fr57 : Try.f57.results.toList = [] := rfl
theorem fr58 : Try.f58.results.toList = [] := rfl
theorem fr59 : Try.f59.results.toList = [] := rfl
theorem fr60 : Try.f60.results.toList = [] := rfl
theorem fr61 : Try.f61.results.toList = [] := rfl
theorem fr62 : Try.f62.results.toList = [] := rfl
theorem fr63 : Try.f63.results.toList = [] := rfl
theorem fr64 : Try.f64.results.toList = [] := rfl
theorem fr65 : Try.f65.results.toList = [] := rfl
theorem fr66 : Try.f66.results.toList = [] := rfl
theorem fr67 : Try.f67.results.toList = [] := rfl
theorem fr68 : Try.f68.results.toList = [] := rfl
theorem fr69 : Try.f69.results.toList = [] := rfl
theorem fr70 : Try.f70.results.toList = [] := rfl
theorem fr71 : Try.f71.results.toList = [] := rfl
theorem fr72 : Try.f72.results.toList = [] := rfl
end Go.Proofs.Yteignhphimfmkaa.Sim
