/- The rules of the calculus, type by type and function by function. Written by a program of this session; no condition. -/
import Derived.Test.YtelogajobjflfaaSimW
import Derived.Test.YtelogajobjflfaaSimT
set_option linter.unusedSimpArgs false
set_option linter.unusedVariables false
namespace Go.Proofs.Ytelogajobjflfaa.Sim
open Go Go.RowKit

theorem xld1 {h : Heap} {b o : Nat} : ld Try.prog h 1 (.pointer (some ⟨b, o, none⟩)) = cell h b o := ld_sc tsz1 tag1
theorem xst1 {ro : Nat} {h : Heap} {b o : Nat} {v : Value} : stv Try.prog ro h 1 (.pointer (some ⟨b, o, none⟩)) v = put ro h b o 1 v := stv_put tsz1
theorem xld2 {h : Heap} {b o : Nat} : ld Try.prog h 2 (.pointer (some ⟨b, o, none⟩)) = cell h b o := ld_sc tsz2 tag2
theorem xst2 {ro : Nat} {h : Heap} {b o : Nat} {v : Value} : stv Try.prog ro h 2 (.pointer (some ⟨b, o, none⟩)) v = put ro h b o 1 v := stv_put tsz2
theorem xld3 {h : Heap} {b o : Nat} : ld Try.prog h 3 (.pointer (some ⟨b, o, none⟩)) = cell h b o := ld_sc tsz3 tag3
theorem xst3 {ro : Nat} {h : Heap} {b o : Nat} {v : Value} : stv Try.prog ro h 3 (.pointer (some ⟨b, o, none⟩)) v = put ro h b o 1 v := stv_put tsz3
theorem xbeql4 (a b : Bool) : abin Try.prog .eql 4 (.bool a) (.bool b) = some (.bool (a == b)) := bin_beql 4 Try.underlying4 a b
theorem xbneq4 (a b : Bool) : abin Try.prog .neq 4 (.bool a) (.bool b) = some (.bool (a != b)) := bin_bneq 4 Try.underlying4 a b
theorem xld4 {h : Heap} {b o : Nat} : ld Try.prog h 4 (.pointer (some ⟨b, o, none⟩)) = cell h b o := ld_sc tsz4 tag4
theorem xst4 {ro : Nat} {h : Heap} {b o : Nat} {v : Value} : stv Try.prog ro h 4 (.pointer (some ⟨b, o, none⟩)) v = put ro h b o 1 v := stv_put tsz4
theorem xld5 {h : Heap} {b o : Nat} : ld Try.prog h 5 (.pointer (some ⟨b, o, none⟩)) = cell h b o := ld_sc tsz5 tag5
theorem xst5 {ro : Nat} {h : Heap} {b o : Nat} {v : Value} : stv Try.prog ro h 5 (.pointer (some ⟨b, o, none⟩)) v = put ro h b o 1 v := stv_put tsz5
theorem xld6 {h : Heap} {b o : Nat} : ld Try.prog h 6 (.pointer (some ⟨b, o, none⟩)) = cell h b o := ld_sc tsz6 tag6
theorem xst6 {ro : Nat} {h : Heap} {b o : Nat} {v : Value} : stv Try.prog ro h 6 (.pointer (some ⟨b, o, none⟩)) v = put ro h b o 1 v := stv_put tsz6
theorem xfad7_0 {b o : Nat} : fadr Try.prog 7 (.pointer (some ⟨b, o, none⟩)) 0 = some (.pointer (some ⟨b, o + 0, none⟩)) := fadr_of tfi7_0 (by decide)
theorem xfld7_0 {cs : List Value} : fld Try.prog 7 (.agg ⟨cs⟩) 0 = cs[0]? := fld_sc tfi7_0 tag2
theorem xfad7_1 {b o : Nat} : fadr Try.prog 7 (.pointer (some ⟨b, o, none⟩)) 1 = some (.pointer (some ⟨b, o + 1, none⟩)) := fadr_of tfi7_1 (by decide)
theorem xfld7_1 {cs : List Value} : fld Try.prog 7 (.agg ⟨cs⟩) 1 = cs[1]? := fld_sc tfi7_1 tag3
theorem xfad7_2 {b o : Nat} : fadr Try.prog 7 (.pointer (some ⟨b, o, none⟩)) 2 = some (.pointer (some ⟨b, o + 2, none⟩)) := fadr_of tfi7_2 (by decide)
theorem xfld7_2 {cs : List Value} : fld Try.prog 7 (.agg ⟨cs⟩) 2 = cs[2]? := fld_sc tfi7_2 tag4
theorem xfad7_3 {b o : Nat} : fadr Try.prog 7 (.pointer (some ⟨b, o, none⟩)) 3 = some (.pointer (some ⟨b, o + 3, none⟩)) := fadr_of tfi7_3 (by decide)
theorem xfld7_3 {cs : List Value} : fld Try.prog 7 (.agg ⟨cs⟩) 3 = cs[3]? := fld_sc tfi7_3 tag6
theorem xld7 {h : Heap} {b o : Nat} : ld Try.prog h 7 (.pointer (some ⟨b, o, none⟩)) = cells h b o 4 := ld_agg tsz7 tag7
theorem xst7 {ro : Nat} {h : Heap} {b o : Nat} {v : Value} : stv Try.prog ro h 7 (.pointer (some ⟨b, o, none⟩)) v = put ro h b o 4 v := stv_put tsz7
theorem xfad8_0 {b o : Nat} : fadr Try.prog 8 (.pointer (some ⟨b, o, none⟩)) 0 = some (.pointer (some ⟨b, o + 0, none⟩)) := fadr_of tfi8_0 (by decide)
theorem xfld8_0 {cs : List Value} : fld Try.prog 8 (.agg ⟨cs⟩) 0 = cs[0]? := fld_sc tfi8_0 tag2
theorem xfad8_1 {b o : Nat} : fadr Try.prog 8 (.pointer (some ⟨b, o, none⟩)) 1 = some (.pointer (some ⟨b, o + 1, none⟩)) := fadr_of tfi8_1 (by decide)
theorem xfld8_1 {cs : List Value} : fld Try.prog 8 (.agg ⟨cs⟩) 1 = cs[1]? := fld_sc tfi8_1 tag3
theorem xfad8_2 {b o : Nat} : fadr Try.prog 8 (.pointer (some ⟨b, o, none⟩)) 2 = some (.pointer (some ⟨b, o + 2, none⟩)) := fadr_of tfi8_2 (by decide)
theorem xfld8_2 {cs : List Value} : fld Try.prog 8 (.agg ⟨cs⟩) 2 = cs[2]? := fld_sc tfi8_2 tag4
theorem xfad8_3 {b o : Nat} : fadr Try.prog 8 (.pointer (some ⟨b, o, none⟩)) 3 = some (.pointer (some ⟨b, o + 3, none⟩)) := fadr_of tfi8_3 (by decide)
theorem xfld8_3 {cs : List Value} : fld Try.prog 8 (.agg ⟨cs⟩) 3 = cs[3]? := fld_sc tfi8_3 tag6
theorem xld8 {h : Heap} {b o : Nat} : ld Try.prog h 8 (.pointer (some ⟨b, o, none⟩)) = cells h b o 4 := ld_agg tsz8 tag8
theorem xst8 {ro : Nat} {h : Heap} {b o : Nat} {v : Value} : stv Try.prog ro h 8 (.pointer (some ⟨b, o, none⟩)) v = put ro h b o 4 v := stv_put tsz8
theorem xlen9 {ro : Nat} {s : ByteArray} {h : Heap} : ablt Try.prog ro .len [9] [.string s] h = some (.int .i64 s.size, h) := len_str Try.underlying9
theorem xidx9 {s : ByteArray} {k : IntKind} {n : Int} (h0 : 0 ≤ n) (h1 : n < s.size) : idx Try.prog 9 (.string s) (.int k n) = some (.int .u8 (bt s n)) := idx_str Try.underlying9 h0 h1
theorem xsl9 {ro : Nat} {s : ByteArray} {h : Heap} {k k' : IntKind} {l q : Int} (h0 : 0 ≤ l) (h1 : l ≤ q) (h2 : q ≤ s.size) : slc Try.prog ro h 9 (.string s) (some (.int k l)) (some (.int k' q)) none = some (.string (s.extract l.toNat q.toNat)) := slc_str Try.underlying9 h0 h1 h2
theorem xslo9 {ro : Nat} {s : ByteArray} {h : Heap} {k : IntKind} {l : Int} (h0 : 0 ≤ l) (h1 : l ≤ s.size) : slc Try.prog ro h 9 (.string s) (some (.int k l)) none none = some (.string (s.extract l.toNat s.size)) := slc_str_lo Try.underlying9 h0 h1
theorem xshi9 {ro : Nat} {s : ByteArray} {h : Heap} {k : IntKind} {q : Int} (h0 : 0 ≤ q) (h1 : q ≤ s.size) : slc Try.prog ro h 9 (.string s) none (some (.int k q)) none = some (.string (s.extract 0 q.toNat)) := slc_str_hi Try.underlying9 h0 h1
theorem xld9 {h : Heap} {b o : Nat} : ld Try.prog h 9 (.pointer (some ⟨b, o, none⟩)) = cell h b o := ld_sc tsz9 tag9
theorem xst9 {ro : Nat} {h : Heap} {b o : Nat} {v : Value} : stv Try.prog ro h 9 (.pointer (some ⟨b, o, none⟩)) v = put ro h b o 1 v := stv_put tsz9
theorem xlen10 {ro : Nat} {s : ByteArray} {h : Heap} : ablt Try.prog ro .len [10] [.string s] h = some (.int .i64 s.size, h) := len_str Try.underlying10
theorem xidx10 {s : ByteArray} {k : IntKind} {n : Int} (h0 : 0 ≤ n) (h1 : n < s.size) : idx Try.prog 10 (.string s) (.int k n) = some (.int .u8 (bt s n)) := idx_str Try.underlying10 h0 h1
theorem xsl10 {ro : Nat} {s : ByteArray} {h : Heap} {k k' : IntKind} {l q : Int} (h0 : 0 ≤ l) (h1 : l ≤ q) (h2 : q ≤ s.size) : slc Try.prog ro h 10 (.string s) (some (.int k l)) (some (.int k' q)) none = some (.string (s.extract l.toNat q.toNat)) := slc_str Try.underlying10 h0 h1 h2
theorem xslo10 {ro : Nat} {s : ByteArray} {h : Heap} {k : IntKind} {l : Int} (h0 : 0 ≤ l) (h1 : l ≤ s.size) : slc Try.prog ro h 10 (.string s) (some (.int k l)) none none = some (.string (s.extract l.toNat s.size)) := slc_str_lo Try.underlying10 h0 h1
theorem xshi10 {ro : Nat} {s : ByteArray} {h : Heap} {k : IntKind} {q : Int} (h0 : 0 ≤ q) (h1 : q ≤ s.size) : slc Try.prog ro h 10 (.string s) none (some (.int k q)) none = some (.string (s.extract 0 q.toNat)) := slc_str_hi Try.underlying10 h0 h1
theorem xld10 {h : Heap} {b o : Nat} : ld Try.prog h 10 (.pointer (some ⟨b, o, none⟩)) = cell h b o := ld_sc tsz10 tag10
theorem xst10 {ro : Nat} {h : Heap} {b o : Nat} {v : Value} : stv Try.prog ro h 10 (.pointer (some ⟨b, o, none⟩)) v = put ro h b o 1 v := stv_put tsz10
theorem xlen11 {ro : Nat} {s : ByteArray} {h : Heap} : ablt Try.prog ro .len [11] [.string s] h = some (.int .i64 s.size, h) := len_str Try.underlying11
theorem xidx11 {s : ByteArray} {k : IntKind} {n : Int} (h0 : 0 ≤ n) (h1 : n < s.size) : idx Try.prog 11 (.string s) (.int k n) = some (.int .u8 (bt s n)) := idx_str Try.underlying11 h0 h1
theorem xsl11 {ro : Nat} {s : ByteArray} {h : Heap} {k k' : IntKind} {l q : Int} (h0 : 0 ≤ l) (h1 : l ≤ q) (h2 : q ≤ s.size) : slc Try.prog ro h 11 (.string s) (some (.int k l)) (some (.int k' q)) none = some (.string (s.extract l.toNat q.toNat)) := slc_str Try.underlying11 h0 h1 h2
theorem xslo11 {ro : Nat} {s : ByteArray} {h : Heap} {k : IntKind} {l : Int} (h0 : 0 ≤ l) (h1 : l ≤ s.size) : slc Try.prog ro h 11 (.string s) (some (.int k l)) none none = some (.string (s.extract l.toNat s.size)) := slc_str_lo Try.underlying11 h0 h1
theorem xshi11 {ro : Nat} {s : ByteArray} {h : Heap} {k : IntKind} {q : Int} (h0 : 0 ≤ q) (h1 : q ≤ s.size) : slc Try.prog ro h 11 (.string s) none (some (.int k q)) none = some (.string (s.extract 0 q.toNat)) := slc_str_hi Try.underlying11 h0 h1
theorem xld11 {h : Heap} {b o : Nat} : ld Try.prog h 11 (.pointer (some ⟨b, o, none⟩)) = cell h b o := ld_sc tsz11 tag11
theorem xst11 {ro : Nat} {h : Heap} {b o : Nat} {v : Value} : stv Try.prog ro h 11 (.pointer (some ⟨b, o, none⟩)) v = put ro h b o 1 v := stv_put tsz11
theorem xld12 {h : Heap} {b o : Nat} : ld Try.prog h 12 (.pointer (some ⟨b, o, none⟩)) = cell h b o := ld_sc tsz12 tag12
theorem xst12 {ro : Nat} {h : Heap} {b o : Nat} {v : Value} : stv Try.prog ro h 12 (.pointer (some ⟨b, o, none⟩)) v = put ro h b o 1 v := stv_put tsz12
theorem xfad13_0 {b o : Nat} : fadr Try.prog 13 (.pointer (some ⟨b, o, none⟩)) 0 = some (.pointer (some ⟨b, o + 0, none⟩)) := fadr_of tfi13_0 (by decide)
theorem xfld13_0 {cs : List Value} : fld Try.prog 13 (.agg ⟨cs⟩) 0 = cs[0]? := fld_sc tfi13_0 tag9
theorem xfad13_1 {b o : Nat} : fadr Try.prog 13 (.pointer (some ⟨b, o, none⟩)) 1 = some (.pointer (some ⟨b, o + 1, none⟩)) := fadr_of tfi13_1 (by decide)
theorem xfld13_1 {cs : List Value} : fld Try.prog 13 (.agg ⟨cs⟩) 1 = cs[1]? := fld_sc tfi13_1 tag12
theorem xld13 {h : Heap} {b o : Nat} : ld Try.prog h 13 (.pointer (some ⟨b, o, none⟩)) = cells h b o 2 := ld_agg tsz13 tag13
theorem xst13 {ro : Nat} {h : Heap} {b o : Nat} {v : Value} : stv Try.prog ro h 13 (.pointer (some ⟨b, o, none⟩)) v = put ro h b o 2 v := stv_put tsz13
theorem xfad14_0 {b o : Nat} : fadr Try.prog 14 (.pointer (some ⟨b, o, none⟩)) 0 = some (.pointer (some ⟨b, o + 0, none⟩)) := fadr_of tfi14_0 (by decide)
theorem xfld14_0 {cs : List Value} : fld Try.prog 14 (.agg ⟨cs⟩) 0 = cs[0]? := fld_sc tfi14_0 tag9
theorem xfad14_1 {b o : Nat} : fadr Try.prog 14 (.pointer (some ⟨b, o, none⟩)) 1 = some (.pointer (some ⟨b, o + 1, none⟩)) := fadr_of tfi14_1 (by decide)
theorem xfld14_1 {cs : List Value} : fld Try.prog 14 (.agg ⟨cs⟩) 1 = cs[1]? := fld_sc tfi14_1 tag12
theorem xld14 {h : Heap} {b o : Nat} : ld Try.prog h 14 (.pointer (some ⟨b, o, none⟩)) = cells h b o 2 := ld_agg tsz14 tag14
theorem xst14 {ro : Nat} {h : Heap} {b o : Nat} {v : Value} : stv Try.prog ro h 14 (.pointer (some ⟨b, o, none⟩)) v = put ro h b o 2 v := stv_put tsz14
theorem xld15 {h : Heap} {b o : Nat} : ld Try.prog h 15 (.pointer (some ⟨b, o, none⟩)) = cell h b o := ld_sc tsz15 tag15
theorem xst15 {ro : Nat} {h : Heap} {b o : Nat} {v : Value} : stv Try.prog ro h 15 (.pointer (some ⟨b, o, none⟩)) v = put ro h b o 1 v := stv_put tsz15
theorem xld16 {h : Heap} {b o : Nat} : ld Try.prog h 16 (.pointer (some ⟨b, o, none⟩)) = cell h b o := ld_sc tsz16 tag16
theorem xst16 {ro : Nat} {h : Heap} {b o : Nat} {v : Value} : stv Try.prog ro h 16 (.pointer (some ⟨b, o, none⟩)) v = put ro h b o 1 v := stv_put tsz16
theorem xld17 {h : Heap} {b o : Nat} : ld Try.prog h 17 (.pointer (some ⟨b, o, none⟩)) = cell h b o := ld_sc tsz17 tag17
theorem xst17 {ro : Nat} {h : Heap} {b o : Nat} {v : Value} : stv Try.prog ro h 17 (.pointer (some ⟨b, o, none⟩)) v = put ro h b o 1 v := stv_put tsz17
theorem xfad18_0 {b o : Nat} : fadr Try.prog 18 (.pointer (some ⟨b, o, none⟩)) 0 = some (.pointer (some ⟨b, o + 0, none⟩)) := fadr_of tfi18_0 (by decide)
theorem xfld18_0 {cs : List Value} : fld Try.prog 18 (.agg ⟨cs⟩) 0 = cs[0]? := fld_sc tfi18_0 tag17
theorem xld18 {h : Heap} {b o : Nat} : ld Try.prog h 18 (.pointer (some ⟨b, o, none⟩)) = cells h b o 1 := ld_agg tsz18 tag18
theorem xst18 {ro : Nat} {h : Heap} {b o : Nat} {v : Value} : stv Try.prog ro h 18 (.pointer (some ⟨b, o, none⟩)) v = put ro h b o 1 v := stv_put tsz18
theorem xfad19_0 {b o : Nat} : fadr Try.prog 19 (.pointer (some ⟨b, o, none⟩)) 0 = some (.pointer (some ⟨b, o + 0, none⟩)) := fadr_of tfi19_0 (by decide)
theorem xfld19_0 {cs : List Value} : fld Try.prog 19 (.agg ⟨cs⟩) 0 = cs[0]? := fld_sc tfi19_0 tag17
theorem xld19 {h : Heap} {b o : Nat} : ld Try.prog h 19 (.pointer (some ⟨b, o, none⟩)) = cells h b o 1 := ld_agg tsz19 tag19
theorem xst19 {ro : Nat} {h : Heap} {b o : Nat} {v : Value} : stv Try.prog ro h 19 (.pointer (some ⟨b, o, none⟩)) v = put ro h b o 1 v := stv_put tsz19
theorem xld21 {h : Heap} {b o : Nat} : ld Try.prog h 21 (.pointer (some ⟨b, o, none⟩)) = cell h b o := ld_sc tsz21 tag21
theorem xst21 {ro : Nat} {h : Heap} {b o : Nat} {v : Value} : stv Try.prog ro h 21 (.pointer (some ⟨b, o, none⟩)) v = put ro h b o 1 v := stv_put tsz21
theorem xlen22 {ro : Nat} {a : Option Addr} {n c : Nat} {h : Heap} : ablt Try.prog ro .len [22] [.slice a n c] h = some (.int .i64 n, h) := len_slc Try.underlying22
theorem xiad22 {b o len cap : Nat} {k : IntKind} {n : Int} (h0 : 0 ≤ n) (h1 : n < len) : iadr Try.prog 22 (.slice (some ⟨b, o, none⟩) len cap) (.int k n) = some (.pointer (some ⟨b, o + n.toNat * 1, none⟩)) := iadr_slc Try.underlying22 tsz5 h0 h1
theorem xld22 {h : Heap} {b o : Nat} : ld Try.prog h 22 (.pointer (some ⟨b, o, none⟩)) = cell h b o := ld_sc tsz22 tag22
theorem xst22 {ro : Nat} {h : Heap} {b o : Nat} {v : Value} : stv Try.prog ro h 22 (.pointer (some ⟨b, o, none⟩)) v = put ro h b o 1 v := stv_put tsz22
theorem xld23 {h : Heap} {b o : Nat} : ld Try.prog h 23 (.pointer (some ⟨b, o, none⟩)) = cell h b o := ld_sc tsz23 tag23
theorem xst23 {ro : Nat} {h : Heap} {b o : Nat} {v : Value} : stv Try.prog ro h 23 (.pointer (some ⟨b, o, none⟩)) v = put ro h b o 1 v := stv_put tsz23
theorem xlen24 {ro : Nat} {a : Option Addr} {n c : Nat} {h : Heap} : ablt Try.prog ro .len [24] [.slice a n c] h = some (.int .i64 n, h) := len_slc Try.underlying24
theorem xiad24 {b o len cap : Nat} {k : IntKind} {n : Int} (h0 : 0 ≤ n) (h1 : n < len) : iadr Try.prog 24 (.slice (some ⟨b, o, none⟩) len cap) (.int k n) = some (.pointer (some ⟨b, o + n.toNat * 1, none⟩)) := iadr_slc Try.underlying24 tsz29 h0 h1
theorem xld24 {h : Heap} {b o : Nat} : ld Try.prog h 24 (.pointer (some ⟨b, o, none⟩)) = cell h b o := ld_sc tsz24 tag24
theorem xst24 {ro : Nat} {h : Heap} {b o : Nat} {v : Value} : stv Try.prog ro h 24 (.pointer (some ⟨b, o, none⟩)) v = put ro h b o 1 v := stv_put tsz24
theorem xld25 {h : Heap} {b o : Nat} : ld Try.prog h 25 (.pointer (some ⟨b, o, none⟩)) = cell h b o := ld_sc tsz25 tag25
theorem xst25 {ro : Nat} {h : Heap} {b o : Nat} {v : Value} : stv Try.prog ro h 25 (.pointer (some ⟨b, o, none⟩)) v = put ro h b o 1 v := stv_put tsz25
theorem xld26 {h : Heap} {b o : Nat} : ld Try.prog h 26 (.pointer (some ⟨b, o, none⟩)) = cell h b o := ld_sc tsz26 tag26
theorem xst26 {ro : Nat} {h : Heap} {b o : Nat} {v : Value} : stv Try.prog ro h 26 (.pointer (some ⟨b, o, none⟩)) v = put ro h b o 1 v := stv_put tsz26
theorem xld28 {h : Heap} {b o : Nat} : ld Try.prog h 28 (.pointer (some ⟨b, o, none⟩)) = cell h b o := ld_sc tsz28 tag28
theorem xst28 {ro : Nat} {h : Heap} {b o : Nat} {v : Value} : stv Try.prog ro h 28 (.pointer (some ⟨b, o, none⟩)) v = put ro h b o 1 v := stv_put tsz28
theorem xld29 {h : Heap} {b o : Nat} : ld Try.prog h 29 (.pointer (some ⟨b, o, none⟩)) = cell h b o := ld_sc tsz29 tag29
theorem xst29 {ro : Nat} {h : Heap} {b o : Nat} {v : Value} : stv Try.prog ro h 29 (.pointer (some ⟨b, o, none⟩)) v = put ro h b o 1 v := stv_put tsz29
theorem xld31 {h : Heap} {b o : Nat} : ld Try.prog h 31 (.pointer (some ⟨b, o, none⟩)) = cell h b o := ld_sc tsz31 tag31
theorem xst31 {ro : Nat} {h : Heap} {b o : Nat} {v : Value} : stv Try.prog ro h 31 (.pointer (some ⟨b, o, none⟩)) v = put ro h b o 1 v := stv_put tsz31
theorem xlen32 {ro : Nat} {a : Option Addr} {n c : Nat} {h : Heap} : ablt Try.prog ro .len [32] [.slice a n c] h = some (.int .i64 n, h) := len_slc Try.underlying32
theorem xiad32 {b o len cap : Nat} {k : IntKind} {n : Int} (h0 : 0 ≤ n) (h1 : n < len) : iadr Try.prog 32 (.slice (some ⟨b, o, none⟩) len cap) (.int k n) = some (.pointer (some ⟨b, o + n.toNat * 1, none⟩)) := iadr_slc Try.underlying32 tsz2 h0 h1
theorem xmk32 {h : Heap} {k1 k2 : IntKind} {l : Int} (h0 : 0 ≤ l) (h1 : (8 : Nat) * l ≤ 140737488355328) (h2 : l ≤ 9223372036854775807) : mk Try.prog h 32 (.int k1 l) (.int k2 l) = some (.slice (some ⟨h.length, 0, none⟩) l.toNat l.toNat, h ++ [zblk 2 (l.toNat * 1)]) := mk_go tel32 tsz2 tby2 tze2 rfl (by decide) h0 h1 h2
theorem xld32 {h : Heap} {b o : Nat} : ld Try.prog h 32 (.pointer (some ⟨b, o, none⟩)) = cell h b o := ld_sc tsz32 tag32
theorem xst32 {ro : Nat} {h : Heap} {b o : Nat} {v : Value} : stv Try.prog ro h 32 (.pointer (some ⟨b, o, none⟩)) v = put ro h b o 1 v := stv_put tsz32
theorem xld34 {h : Heap} {b o : Nat} : ld Try.prog h 34 (.pointer (some ⟨b, o, none⟩)) = cell h b o := ld_sc tsz34 tag34
theorem xst34 {ro : Nat} {h : Heap} {b o : Nat} {v : Value} : stv Try.prog ro h 34 (.pointer (some ⟨b, o, none⟩)) v = put ro h b o 1 v := stv_put tsz34
theorem xld35 {h : Heap} {b o : Nat} : ld Try.prog h 35 (.pointer (some ⟨b, o, none⟩)) = cell h b o := ld_sc tsz35 tag35
theorem xst35 {ro : Nat} {h : Heap} {b o : Nat} {v : Value} : stv Try.prog ro h 35 (.pointer (some ⟨b, o, none⟩)) v = put ro h b o 1 v := stv_put tsz35
theorem xlen36 {ro : Nat} {a : Option Addr} {n c : Nat} {h : Heap} : ablt Try.prog ro .len [36] [.slice a n c] h = some (.int .i64 n, h) := len_slc Try.underlying36
theorem xiad36 {b o len cap : Nat} {k : IntKind} {n : Int} (h0 : 0 ≤ n) (h1 : n < len) : iadr Try.prog 36 (.slice (some ⟨b, o, none⟩) len cap) (.int k n) = some (.pointer (some ⟨b, o + n.toNat * 1, none⟩)) := iadr_slc Try.underlying36 tsz44 h0 h1
theorem xld36 {h : Heap} {b o : Nat} : ld Try.prog h 36 (.pointer (some ⟨b, o, none⟩)) = cell h b o := ld_sc tsz36 tag36
theorem xst36 {ro : Nat} {h : Heap} {b o : Nat} {v : Value} : stv Try.prog ro h 36 (.pointer (some ⟨b, o, none⟩)) v = put ro h b o 1 v := stv_put tsz36
theorem xfad37_0 {b o : Nat} : fadr Try.prog 37 (.pointer (some ⟨b, o, none⟩)) 0 = some (.pointer (some ⟨b, o + 0, none⟩)) := fadr_of tfi37_0 (by decide)
theorem xfld37_0 {cs : List Value} : fld Try.prog 37 (.agg ⟨cs⟩) 0 = cs[0]? := fld_sc tfi37_0 tag36
theorem xld37 {h : Heap} {b o : Nat} : ld Try.prog h 37 (.pointer (some ⟨b, o, none⟩)) = cells h b o 1 := ld_agg tsz37 tag37
theorem xst37 {ro : Nat} {h : Heap} {b o : Nat} {v : Value} : stv Try.prog ro h 37 (.pointer (some ⟨b, o, none⟩)) v = put ro h b o 1 v := stv_put tsz37
theorem xfad38_0 {b o : Nat} : fadr Try.prog 38 (.pointer (some ⟨b, o, none⟩)) 0 = some (.pointer (some ⟨b, o + 0, none⟩)) := fadr_of tfi38_0 (by decide)
theorem xfld38_0 {cs : List Value} : fld Try.prog 38 (.agg ⟨cs⟩) 0 = cs[0]? := fld_sc tfi38_0 tag36
theorem xld38 {h : Heap} {b o : Nat} : ld Try.prog h 38 (.pointer (some ⟨b, o, none⟩)) = cells h b o 1 := ld_agg tsz38 tag38
theorem xst38 {ro : Nat} {h : Heap} {b o : Nat} {v : Value} : stv Try.prog ro h 38 (.pointer (some ⟨b, o, none⟩)) v = put ro h b o 1 v := stv_put tsz38
theorem xld39 {h : Heap} {b o : Nat} : ld Try.prog h 39 (.pointer (some ⟨b, o, none⟩)) = cell h b o := ld_sc tsz39 tag39
theorem xst39 {ro : Nat} {h : Heap} {b o : Nat} {v : Value} : stv Try.prog ro h 39 (.pointer (some ⟨b, o, none⟩)) v = put ro h b o 1 v := stv_put tsz39
theorem xld41 {h : Heap} {b o : Nat} : ld Try.prog h 41 (.pointer (some ⟨b, o, none⟩)) = cell h b o := ld_sc tsz41 tag41
theorem xst41 {ro : Nat} {h : Heap} {b o : Nat} {v : Value} : stv Try.prog ro h 41 (.pointer (some ⟨b, o, none⟩)) v = put ro h b o 1 v := stv_put tsz41
theorem xld42 {h : Heap} {b o : Nat} : ld Try.prog h 42 (.pointer (some ⟨b, o, none⟩)) = cell h b o := ld_sc tsz42 tag42
theorem xst42 {ro : Nat} {h : Heap} {b o : Nat} {v : Value} : stv Try.prog ro h 42 (.pointer (some ⟨b, o, none⟩)) v = put ro h b o 1 v := stv_put tsz42
theorem xld43 {h : Heap} {b o : Nat} : ld Try.prog h 43 (.pointer (some ⟨b, o, none⟩)) = cell h b o := ld_sc tsz43 tag43
theorem xst43 {ro : Nat} {h : Heap} {b o : Nat} {v : Value} : stv Try.prog ro h 43 (.pointer (some ⟨b, o, none⟩)) v = put ro h b o 1 v := stv_put tsz43
theorem xlen44 {ro : Nat} {a : Option Addr} {n c : Nat} {h : Heap} : ablt Try.prog ro .len [44] [.slice a n c] h = some (.int .i64 n, h) := len_slc Try.underlying44
theorem xiad44 {b o len cap : Nat} {k : IntKind} {n : Int} (h0 : 0 ≤ n) (h1 : n < len) : iadr Try.prog 44 (.slice (some ⟨b, o, none⟩) len cap) (.int k n) = some (.pointer (some ⟨b, o + n.toNat * 1, none⟩)) := iadr_slc Try.underlying44 tsz46 h0 h1
theorem xld44 {h : Heap} {b o : Nat} : ld Try.prog h 44 (.pointer (some ⟨b, o, none⟩)) = cell h b o := ld_sc tsz44 tag44
theorem xst44 {ro : Nat} {h : Heap} {b o : Nat} {v : Value} : stv Try.prog ro h 44 (.pointer (some ⟨b, o, none⟩)) v = put ro h b o 1 v := stv_put tsz44
theorem xld45 {h : Heap} {b o : Nat} : ld Try.prog h 45 (.pointer (some ⟨b, o, none⟩)) = cell h b o := ld_sc tsz45 tag45
theorem xst45 {ro : Nat} {h : Heap} {b o : Nat} {v : Value} : stv Try.prog ro h 45 (.pointer (some ⟨b, o, none⟩)) v = put ro h b o 1 v := stv_put tsz45
theorem xld46 {h : Heap} {b o : Nat} : ld Try.prog h 46 (.pointer (some ⟨b, o, none⟩)) = cell h b o := ld_sc tsz46 tag46
theorem xst46 {ro : Nat} {h : Heap} {b o : Nat} {v : Value} : stv Try.prog ro h 46 (.pointer (some ⟨b, o, none⟩)) v = put ro h b o 1 v := stv_put tsz46
theorem xld48 {h : Heap} {b o : Nat} : ld Try.prog h 48 (.pointer (some ⟨b, o, none⟩)) = cell h b o := ld_sc tsz48 tag48
theorem xst48 {ro : Nat} {h : Heap} {b o : Nat} {v : Value} : stv Try.prog ro h 48 (.pointer (some ⟨b, o, none⟩)) v = put ro h b o 1 v := stv_put tsz48
theorem xld50 {h : Heap} {b o : Nat} : ld Try.prog h 50 (.pointer (some ⟨b, o, none⟩)) = cell h b o := ld_sc tsz50 tag50
theorem xst50 {ro : Nat} {h : Heap} {b o : Nat} {v : Value} : stv Try.prog ro h 50 (.pointer (some ⟨b, o, none⟩)) v = put ro h b o 1 v := stv_put tsz50
theorem xld51 {h : Heap} {b o : Nat} : ld Try.prog h 51 (.pointer (some ⟨b, o, none⟩)) = cell h b o := ld_sc tsz51 tag51
theorem xst51 {ro : Nat} {h : Heap} {b o : Nat} {v : Value} : stv Try.prog ro h 51 (.pointer (some ⟨b, o, none⟩)) v = put ro h b o 1 v := stv_put tsz51
theorem xld52 {h : Heap} {b o : Nat} : ld Try.prog h 52 (.pointer (some ⟨b, o, none⟩)) = cell h b o := ld_sc tsz52 tag52
theorem xst52 {ro : Nat} {h : Heap} {b o : Nat} {v : Value} : stv Try.prog ro h 52 (.pointer (some ⟨b, o, none⟩)) v = put ro h b o 1 v := stv_put tsz52
theorem xld53 {h : Heap} {b o : Nat} : ld Try.prog h 53 (.pointer (some ⟨b, o, none⟩)) = cell h b o := ld_sc tsz53 tag53
theorem xst53 {ro : Nat} {h : Heap} {b o : Nat} {v : Value} : stv Try.prog ro h 53 (.pointer (some ⟨b, o, none⟩)) v = put ro h b o 1 v := stv_put tsz53
theorem xlen54 {ro : Nat} {a : Option Addr} {n c : Nat} {h : Heap} : ablt Try.prog ro .len [54] [.slice a n c] h = some (.int .i64 n, h) := len_slc Try.underlying54
theorem xiad54 {b o len cap : Nat} {k : IntKind} {n : Int} (h0 : 0 ≤ n) (h1 : n < len) : iadr Try.prog 54 (.slice (some ⟨b, o, none⟩) len cap) (.int k n) = some (.pointer (some ⟨b, o + n.toNat * 2, none⟩)) := iadr_slc Try.underlying54 tsz126 h0 h1
theorem xmk54 {h : Heap} {k1 k2 : IntKind} {l : Int} (h0 : 0 ≤ l) (h1 : (16 : Nat) * l ≤ 140737488355328) (h2 : l ≤ 9223372036854775807) : mk Try.prog h 54 (.int k1 l) (.int k2 l) = some (.slice (some ⟨h.length, 0, none⟩) l.toNat l.toNat, h ++ [zblk 126 (l.toNat * 2)]) := mk_go tel54 tsz126 tby126 tze126 rfl (by decide) h0 h1 h2
theorem xld54 {h : Heap} {b o : Nat} : ld Try.prog h 54 (.pointer (some ⟨b, o, none⟩)) = cell h b o := ld_sc tsz54 tag54
theorem xst54 {ro : Nat} {h : Heap} {b o : Nat} {v : Value} : stv Try.prog ro h 54 (.pointer (some ⟨b, o, none⟩)) v = put ro h b o 1 v := stv_put tsz54
theorem xld55 {h : Heap} {b o : Nat} : ld Try.prog h 55 (.pointer (some ⟨b, o, none⟩)) = cell h b o := ld_sc tsz55 tag55
theorem xst55 {ro : Nat} {h : Heap} {b o : Nat} {v : Value} : stv Try.prog ro h 55 (.pointer (some ⟨b, o, none⟩)) v = put ro h b o 1 v := stv_put tsz55
theorem xld56 {h : Heap} {b o : Nat} : ld Try.prog h 56 (.pointer (some ⟨b, o, none⟩)) = cell h b o := ld_sc tsz56 tag56
theorem xst56 {ro : Nat} {h : Heap} {b o : Nat} {v : Value} : stv Try.prog ro h 56 (.pointer (some ⟨b, o, none⟩)) v = put ro h b o 1 v := stv_put tsz56
theorem xld58 {h : Heap} {b o : Nat} : ld Try.prog h 58 (.pointer (some ⟨b, o, none⟩)) = cell h b o := ld_sc tsz58 tag58
theorem xst58 {ro : Nat} {h : Heap} {b o : Nat} {v : Value} : stv Try.prog ro h 58 (.pointer (some ⟨b, o, none⟩)) v = put ro h b o 1 v := stv_put tsz58
theorem xld59 {h : Heap} {b o : Nat} : ld Try.prog h 59 (.pointer (some ⟨b, o, none⟩)) = cell h b o := ld_sc tsz59 tag59
theorem xst59 {ro : Nat} {h : Heap} {b o : Nat} {v : Value} : stv Try.prog ro h 59 (.pointer (some ⟨b, o, none⟩)) v = put ro h b o 1 v := stv_put tsz59
theorem xld60 {h : Heap} {b o : Nat} : ld Try.prog h 60 (.pointer (some ⟨b, o, none⟩)) = cell h b o := ld_sc tsz60 tag60
theorem xst60 {ro : Nat} {h : Heap} {b o : Nat} {v : Value} : stv Try.prog ro h 60 (.pointer (some ⟨b, o, none⟩)) v = put ro h b o 1 v := stv_put tsz60
theorem xfad61_0 {b o : Nat} : fadr Try.prog 61 (.pointer (some ⟨b, o, none⟩)) 0 = some (.pointer (some ⟨b, o + 0, none⟩)) := fadr_of tfi61_0 (by decide)
theorem xfld61_0 {cs : List Value} : fld Try.prog 61 (.agg ⟨cs⟩) 0 = cs[0]? := fld_sc tfi61_0 tag2
theorem xfad61_1 {b o : Nat} : fadr Try.prog 61 (.pointer (some ⟨b, o, none⟩)) 1 = some (.pointer (some ⟨b, o + 1, none⟩)) := fadr_of tfi61_1 (by decide)
theorem xfld61_1 {cs : List Value} : fld Try.prog 61 (.agg ⟨cs⟩) 1 = cs[1]? := fld_sc tfi61_1 tag2
theorem xld61 {h : Heap} {b o : Nat} : ld Try.prog h 61 (.pointer (some ⟨b, o, none⟩)) = cells h b o 2 := ld_agg tsz61 tag61
theorem xst61 {ro : Nat} {h : Heap} {b o : Nat} {v : Value} : stv Try.prog ro h 61 (.pointer (some ⟨b, o, none⟩)) v = put ro h b o 2 v := stv_put tsz61
theorem xfad62_0 {b o : Nat} : fadr Try.prog 62 (.pointer (some ⟨b, o, none⟩)) 0 = some (.pointer (some ⟨b, o + 0, none⟩)) := fadr_of tfi62_0 (by decide)
theorem xfld62_0 {cs : List Value} : fld Try.prog 62 (.agg ⟨cs⟩) 0 = cs[0]? := fld_sc tfi62_0 tag2
theorem xfad62_1 {b o : Nat} : fadr Try.prog 62 (.pointer (some ⟨b, o, none⟩)) 1 = some (.pointer (some ⟨b, o + 1, none⟩)) := fadr_of tfi62_1 (by decide)
theorem xfld62_1 {cs : List Value} : fld Try.prog 62 (.agg ⟨cs⟩) 1 = cs[1]? := fld_sc tfi62_1 tag2
theorem xld62 {h : Heap} {b o : Nat} : ld Try.prog h 62 (.pointer (some ⟨b, o, none⟩)) = cells h b o 2 := ld_agg tsz62 tag62
theorem xst62 {ro : Nat} {h : Heap} {b o : Nat} {v : Value} : stv Try.prog ro h 62 (.pointer (some ⟨b, o, none⟩)) v = put ro h b o 2 v := stv_put tsz62
theorem xld63 {h : Heap} {b o : Nat} : ld Try.prog h 63 (.pointer (some ⟨b, o, none⟩)) = cell h b o := ld_sc tsz63 tag63
theorem xst63 {ro : Nat} {h : Heap} {b o : Nat} {v : Value} : stv Try.prog ro h 63 (.pointer (some ⟨b, o, none⟩)) v = put ro h b o 1 v := stv_put tsz63
theorem xlen64 {ro : Nat} {a : Option Addr} {n c : Nat} {h : Heap} : ablt Try.prog ro .len [64] [.slice a n c] h = some (.int .i64 n, h) := len_slc Try.underlying64
theorem xiad64 {b o len cap : Nat} {k : IntKind} {n : Int} (h0 : 0 ≤ n) (h1 : n < len) : iadr Try.prog 64 (.slice (some ⟨b, o, none⟩) len cap) (.int k n) = some (.pointer (some ⟨b, o + n.toNat * 2, none⟩)) := iadr_slc Try.underlying64 tsz79 h0 h1
theorem xld64 {h : Heap} {b o : Nat} : ld Try.prog h 64 (.pointer (some ⟨b, o, none⟩)) = cell h b o := ld_sc tsz64 tag64
theorem xst64 {ro : Nat} {h : Heap} {b o : Nat} {v : Value} : stv Try.prog ro h 64 (.pointer (some ⟨b, o, none⟩)) v = put ro h b o 1 v := stv_put tsz64
theorem xfad65_0 {b o : Nat} : fadr Try.prog 65 (.pointer (some ⟨b, o, none⟩)) 0 = some (.pointer (some ⟨b, o + 0, none⟩)) := fadr_of tfi65_0 (by decide)
theorem xfld65_0 {cs : List Value} : fld Try.prog 65 (.agg ⟨cs⟩) 0 = cs[0]? := fld_sc tfi65_0 tag2
theorem xfad65_1 {b o : Nat} : fadr Try.prog 65 (.pointer (some ⟨b, o, none⟩)) 1 = some (.pointer (some ⟨b, o + 1, none⟩)) := fadr_of tfi65_1 (by decide)
theorem xfld65_1 {cs : List Value} : fld Try.prog 65 (.agg ⟨cs⟩) 1 = cs[1]? := fld_sc tfi65_1 tag64
theorem xld65 {h : Heap} {b o : Nat} : ld Try.prog h 65 (.pointer (some ⟨b, o, none⟩)) = cells h b o 2 := ld_agg tsz65 tag65
theorem xst65 {ro : Nat} {h : Heap} {b o : Nat} {v : Value} : stv Try.prog ro h 65 (.pointer (some ⟨b, o, none⟩)) v = put ro h b o 2 v := stv_put tsz65
theorem xfad66_0 {b o : Nat} : fadr Try.prog 66 (.pointer (some ⟨b, o, none⟩)) 0 = some (.pointer (some ⟨b, o + 0, none⟩)) := fadr_of tfi66_0 (by decide)
theorem xfld66_0 {cs : List Value} : fld Try.prog 66 (.agg ⟨cs⟩) 0 = cs[0]? := fld_sc tfi66_0 tag2
theorem xfad66_1 {b o : Nat} : fadr Try.prog 66 (.pointer (some ⟨b, o, none⟩)) 1 = some (.pointer (some ⟨b, o + 1, none⟩)) := fadr_of tfi66_1 (by decide)
theorem xfld66_1 {cs : List Value} : fld Try.prog 66 (.agg ⟨cs⟩) 1 = cs[1]? := fld_sc tfi66_1 tag64
theorem xld66 {h : Heap} {b o : Nat} : ld Try.prog h 66 (.pointer (some ⟨b, o, none⟩)) = cells h b o 2 := ld_agg tsz66 tag66
theorem xst66 {ro : Nat} {h : Heap} {b o : Nat} {v : Value} : stv Try.prog ro h 66 (.pointer (some ⟨b, o, none⟩)) v = put ro h b o 2 v := stv_put tsz66
theorem xld67 {h : Heap} {b o : Nat} : ld Try.prog h 67 (.pointer (some ⟨b, o, none⟩)) = cell h b o := ld_sc tsz67 tag67
theorem xst67 {ro : Nat} {h : Heap} {b o : Nat} {v : Value} : stv Try.prog ro h 67 (.pointer (some ⟨b, o, none⟩)) v = put ro h b o 1 v := stv_put tsz67
theorem xld69 {h : Heap} {b o : Nat} : ld Try.prog h 69 (.pointer (some ⟨b, o, none⟩)) = cell h b o := ld_sc tsz69 tag69
theorem xst69 {ro : Nat} {h : Heap} {b o : Nat} {v : Value} : stv Try.prog ro h 69 (.pointer (some ⟨b, o, none⟩)) v = put ro h b o 1 v := stv_put tsz69
theorem xld71 {h : Heap} {b o : Nat} : ld Try.prog h 71 (.pointer (some ⟨b, o, none⟩)) = cell h b o := ld_sc tsz71 tag71
theorem xst71 {ro : Nat} {h : Heap} {b o : Nat} {v : Value} : stv Try.prog ro h 71 (.pointer (some ⟨b, o, none⟩)) v = put ro h b o 1 v := stv_put tsz71
theorem xld73 {h : Heap} {b o : Nat} : ld Try.prog h 73 (.pointer (some ⟨b, o, none⟩)) = cell h b o := ld_sc tsz73 tag73
theorem xst73 {ro : Nat} {h : Heap} {b o : Nat} {v : Value} : stv Try.prog ro h 73 (.pointer (some ⟨b, o, none⟩)) v = put ro h b o 1 v := stv_put tsz73
theorem xld74 {h : Heap} {b o : Nat} : ld Try.prog h 74 (.pointer (some ⟨b, o, none⟩)) = cell h b o := ld_sc tsz74 tag74
theorem xst74 {ro : Nat} {h : Heap} {b o : Nat} {v : Value} : stv Try.prog ro h 74 (.pointer (some ⟨b, o, none⟩)) v = put ro h b o 1 v := stv_put tsz74
theorem xld75 {h : Heap} {b o : Nat} : ld Try.prog h 75 (.pointer (some ⟨b, o, none⟩)) = cell h b o := ld_sc tsz75 tag75
theorem xst75 {ro : Nat} {h : Heap} {b o : Nat} {v : Value} : stv Try.prog ro h 75 (.pointer (some ⟨b, o, none⟩)) v = put ro h b o 1 v := stv_put tsz75
theorem xld77 {h : Heap} {b o : Nat} : ld Try.prog h 77 (.pointer (some ⟨b, o, none⟩)) = cell h b o := ld_sc tsz77 tag77
theorem xst77 {ro : Nat} {h : Heap} {b o : Nat} {v : Value} : stv Try.prog ro h 77 (.pointer (some ⟨b, o, none⟩)) v = put ro h b o 1 v := stv_put tsz77
theorem xfad78_0 {b o : Nat} : fadr Try.prog 78 (.pointer (some ⟨b, o, none⟩)) 0 = some (.pointer (some ⟨b, o + 0, none⟩)) := fadr_of tfi78_0 (by decide)
theorem xfld78_0 {cs : List Value} : fld Try.prog 78 (.agg ⟨cs⟩) 0 = cs[0]? := fld_sc tfi78_0 tag2
theorem xfad78_1 {b o : Nat} : fadr Try.prog 78 (.pointer (some ⟨b, o, none⟩)) 1 = some (.pointer (some ⟨b, o + 1, none⟩)) := fadr_of tfi78_1 (by decide)
theorem xfld78_1 {cs : List Value} : fld Try.prog 78 (.agg ⟨cs⟩) 1 = cs[1]? := fld_sc tfi78_1 tag44
theorem xld78 {h : Heap} {b o : Nat} : ld Try.prog h 78 (.pointer (some ⟨b, o, none⟩)) = cells h b o 2 := ld_agg tsz78 tag78
theorem xst78 {ro : Nat} {h : Heap} {b o : Nat} {v : Value} : stv Try.prog ro h 78 (.pointer (some ⟨b, o, none⟩)) v = put ro h b o 2 v := stv_put tsz78
theorem xfad79_0 {b o : Nat} : fadr Try.prog 79 (.pointer (some ⟨b, o, none⟩)) 0 = some (.pointer (some ⟨b, o + 0, none⟩)) := fadr_of tfi79_0 (by decide)
theorem xfld79_0 {cs : List Value} : fld Try.prog 79 (.agg ⟨cs⟩) 0 = cs[0]? := fld_sc tfi79_0 tag2
theorem xfad79_1 {b o : Nat} : fadr Try.prog 79 (.pointer (some ⟨b, o, none⟩)) 1 = some (.pointer (some ⟨b, o + 1, none⟩)) := fadr_of tfi79_1 (by decide)
theorem xfld79_1 {cs : List Value} : fld Try.prog 79 (.agg ⟨cs⟩) 1 = cs[1]? := fld_sc tfi79_1 tag44
theorem xld79 {h : Heap} {b o : Nat} : ld Try.prog h 79 (.pointer (some ⟨b, o, none⟩)) = cells h b o 2 := ld_agg tsz79 tag79
theorem xst79 {ro : Nat} {h : Heap} {b o : Nat} {v : Value} : stv Try.prog ro h 79 (.pointer (some ⟨b, o, none⟩)) v = put ro h b o 2 v := stv_put tsz79
theorem xld81 {h : Heap} {b o : Nat} : ld Try.prog h 81 (.pointer (some ⟨b, o, none⟩)) = cell h b o := ld_sc tsz81 tag81
theorem xst81 {ro : Nat} {h : Heap} {b o : Nat} {v : Value} : stv Try.prog ro h 81 (.pointer (some ⟨b, o, none⟩)) v = put ro h b o 1 v := stv_put tsz81
theorem xld82 {h : Heap} {b o : Nat} : ld Try.prog h 82 (.pointer (some ⟨b, o, none⟩)) = cell h b o := ld_sc tsz82 tag82
theorem xst82 {ro : Nat} {h : Heap} {b o : Nat} {v : Value} : stv Try.prog ro h 82 (.pointer (some ⟨b, o, none⟩)) v = put ro h b o 1 v := stv_put tsz82
theorem xld83 {h : Heap} {b o : Nat} : ld Try.prog h 83 (.pointer (some ⟨b, o, none⟩)) = cell h b o := ld_sc tsz83 tag83
theorem xst83 {ro : Nat} {h : Heap} {b o : Nat} {v : Value} : stv Try.prog ro h 83 (.pointer (some ⟨b, o, none⟩)) v = put ro h b o 1 v := stv_put tsz83
theorem xld84 {h : Heap} {b o : Nat} : ld Try.prog h 84 (.pointer (some ⟨b, o, none⟩)) = cell h b o := ld_sc tsz84 tag84
theorem xst84 {ro : Nat} {h : Heap} {b o : Nat} {v : Value} : stv Try.prog ro h 84 (.pointer (some ⟨b, o, none⟩)) v = put ro h b o 1 v := stv_put tsz84
theorem xld85 {h : Heap} {b o : Nat} : ld Try.prog h 85 (.pointer (some ⟨b, o, none⟩)) = cell h b o := ld_sc tsz85 tag85
theorem xst85 {ro : Nat} {h : Heap} {b o : Nat} {v : Value} : stv Try.prog ro h 85 (.pointer (some ⟨b, o, none⟩)) v = put ro h b o 1 v := stv_put tsz85
theorem xld87 {h : Heap} {b o : Nat} : ld Try.prog h 87 (.pointer (some ⟨b, o, none⟩)) = cell h b o := ld_sc tsz87 tag87
theorem xst87 {ro : Nat} {h : Heap} {b o : Nat} {v : Value} : stv Try.prog ro h 87 (.pointer (some ⟨b, o, none⟩)) v = put ro h b o 1 v := stv_put tsz87
theorem xld88 {h : Heap} {b o : Nat} : ld Try.prog h 88 (.pointer (some ⟨b, o, none⟩)) = cell h b o := ld_sc tsz88 tag88
theorem xst88 {ro : Nat} {h : Heap} {b o : Nat} {v : Value} : stv Try.prog ro h 88 (.pointer (some ⟨b, o, none⟩)) v = put ro h b o 1 v := stv_put tsz88
theorem xld89 {h : Heap} {b o : Nat} : ld Try.prog h 89 (.pointer (some ⟨b, o, none⟩)) = cell h b o := ld_sc tsz89 tag89
theorem xst89 {ro : Nat} {h : Heap} {b o : Nat} {v : Value} : stv Try.prog ro h 89 (.pointer (some ⟨b, o, none⟩)) v = put ro h b o 1 v := stv_put tsz89
theorem xld90 {h : Heap} {b o : Nat} : ld Try.prog h 90 (.pointer (some ⟨b, o, none⟩)) = cell h b o := ld_sc tsz90 tag90
theorem xst90 {ro : Nat} {h : Heap} {b o : Nat} {v : Value} : stv Try.prog ro h 90 (.pointer (some ⟨b, o, none⟩)) v = put ro h b o 1 v := stv_put tsz90
theorem xld91 {h : Heap} {b o : Nat} : ld Try.prog h 91 (.pointer (some ⟨b, o, none⟩)) = cell h b o := ld_sc tsz91 tag91
theorem xst91 {ro : Nat} {h : Heap} {b o : Nat} {v : Value} : stv Try.prog ro h 91 (.pointer (some ⟨b, o, none⟩)) v = put ro h b o 1 v := stv_put tsz91
theorem xld92 {h : Heap} {b o : Nat} : ld Try.prog h 92 (.pointer (some ⟨b, o, none⟩)) = cell h b o := ld_sc tsz92 tag92
theorem xst92 {ro : Nat} {h : Heap} {b o : Nat} {v : Value} : stv Try.prog ro h 92 (.pointer (some ⟨b, o, none⟩)) v = put ro h b o 1 v := stv_put tsz92
theorem xfad93_0 {b o : Nat} : fadr Try.prog 93 (.pointer (some ⟨b, o, none⟩)) 0 = some (.pointer (some ⟨b, o + 0, none⟩)) := fadr_of tfi93_0 (by decide)
theorem xfld93_0 {cs : List Value} : fld Try.prog 93 (.agg ⟨cs⟩) 0 = cs[0]? := fld_sc tfi93_0 tag44
theorem xfad93_1 {b o : Nat} : fadr Try.prog 93 (.pointer (some ⟨b, o, none⟩)) 1 = some (.pointer (some ⟨b, o + 1, none⟩)) := fadr_of tfi93_1 (by decide)
theorem xfld93_1 {cs : List Value} : fld Try.prog 93 (.agg ⟨cs⟩) 1 = cs[1]? := fld_sc tfi93_1 tag29
theorem xfad93_2 {b o : Nat} : fadr Try.prog 93 (.pointer (some ⟨b, o, none⟩)) 2 = some (.pointer (some ⟨b, o + 2, none⟩)) := fadr_of tfi93_2 (by decide)
theorem xfld93_2 {cs : List Value} : fld Try.prog 93 (.agg ⟨cs⟩) 2 = cs[2]? := fld_sc tfi93_2 tag29
theorem xld93 {h : Heap} {b o : Nat} : ld Try.prog h 93 (.pointer (some ⟨b, o, none⟩)) = cells h b o 3 := ld_agg tsz93 tag93
theorem xst93 {ro : Nat} {h : Heap} {b o : Nat} {v : Value} : stv Try.prog ro h 93 (.pointer (some ⟨b, o, none⟩)) v = put ro h b o 3 v := stv_put tsz93
theorem xfad94_0 {b o : Nat} : fadr Try.prog 94 (.pointer (some ⟨b, o, none⟩)) 0 = some (.pointer (some ⟨b, o + 0, none⟩)) := fadr_of tfi94_0 (by decide)
theorem xfld94_0 {cs : List Value} : fld Try.prog 94 (.agg ⟨cs⟩) 0 = cs[0]? := fld_sc tfi94_0 tag44
theorem xfad94_1 {b o : Nat} : fadr Try.prog 94 (.pointer (some ⟨b, o, none⟩)) 1 = some (.pointer (some ⟨b, o + 1, none⟩)) := fadr_of tfi94_1 (by decide)
theorem xfld94_1 {cs : List Value} : fld Try.prog 94 (.agg ⟨cs⟩) 1 = cs[1]? := fld_sc tfi94_1 tag29
theorem xfad94_2 {b o : Nat} : fadr Try.prog 94 (.pointer (some ⟨b, o, none⟩)) 2 = some (.pointer (some ⟨b, o + 2, none⟩)) := fadr_of tfi94_2 (by decide)
theorem xfld94_2 {cs : List Value} : fld Try.prog 94 (.agg ⟨cs⟩) 2 = cs[2]? := fld_sc tfi94_2 tag29
theorem xld94 {h : Heap} {b o : Nat} : ld Try.prog h 94 (.pointer (some ⟨b, o, none⟩)) = cells h b o 3 := ld_agg tsz94 tag94
theorem xst94 {ro : Nat} {h : Heap} {b o : Nat} {v : Value} : stv Try.prog ro h 94 (.pointer (some ⟨b, o, none⟩)) v = put ro h b o 3 v := stv_put tsz94
theorem xld96 {h : Heap} {b o : Nat} : ld Try.prog h 96 (.pointer (some ⟨b, o, none⟩)) = cell h b o := ld_sc tsz96 tag96
theorem xst96 {ro : Nat} {h : Heap} {b o : Nat} {v : Value} : stv Try.prog ro h 96 (.pointer (some ⟨b, o, none⟩)) v = put ro h b o 1 v := stv_put tsz96
theorem xld97 {h : Heap} {b o : Nat} : ld Try.prog h 97 (.pointer (some ⟨b, o, none⟩)) = cell h b o := ld_sc tsz97 tag97
theorem xst97 {ro : Nat} {h : Heap} {b o : Nat} {v : Value} : stv Try.prog ro h 97 (.pointer (some ⟨b, o, none⟩)) v = put ro h b o 1 v := stv_put tsz97
theorem xld99 {h : Heap} {b o : Nat} : ld Try.prog h 99 (.pointer (some ⟨b, o, none⟩)) = cell h b o := ld_sc tsz99 tag99
theorem xst99 {ro : Nat} {h : Heap} {b o : Nat} {v : Value} : stv Try.prog ro h 99 (.pointer (some ⟨b, o, none⟩)) v = put ro h b o 1 v := stv_put tsz99
theorem xld100 {h : Heap} {b o : Nat} : ld Try.prog h 100 (.pointer (some ⟨b, o, none⟩)) = cell h b o := ld_sc tsz100 tag100
theorem xst100 {ro : Nat} {h : Heap} {b o : Nat} {v : Value} : stv Try.prog ro h 100 (.pointer (some ⟨b, o, none⟩)) v = put ro h b o 1 v := stv_put tsz100
theorem xld101 {h : Heap} {b o : Nat} : ld Try.prog h 101 (.pointer (some ⟨b, o, none⟩)) = cell h b o := ld_sc tsz101 tag101
theorem xst101 {ro : Nat} {h : Heap} {b o : Nat} {v : Value} : stv Try.prog ro h 101 (.pointer (some ⟨b, o, none⟩)) v = put ro h b o 1 v := stv_put tsz101
theorem xld102 {h : Heap} {b o : Nat} : ld Try.prog h 102 (.pointer (some ⟨b, o, none⟩)) = cell h b o := ld_sc tsz102 tag102
theorem xst102 {ro : Nat} {h : Heap} {b o : Nat} {v : Value} : stv Try.prog ro h 102 (.pointer (some ⟨b, o, none⟩)) v = put ro h b o 1 v := stv_put tsz102
theorem xld103 {h : Heap} {b o : Nat} : ld Try.prog h 103 (.pointer (some ⟨b, o, none⟩)) = cell h b o := ld_sc tsz103 tag103
theorem xst103 {ro : Nat} {h : Heap} {b o : Nat} {v : Value} : stv Try.prog ro h 103 (.pointer (some ⟨b, o, none⟩)) v = put ro h b o 1 v := stv_put tsz103
theorem xld104 {h : Heap} {b o : Nat} : ld Try.prog h 104 (.pointer (some ⟨b, o, none⟩)) = cell h b o := ld_sc tsz104 tag104
theorem xst104 {ro : Nat} {h : Heap} {b o : Nat} {v : Value} : stv Try.prog ro h 104 (.pointer (some ⟨b, o, none⟩)) v = put ro h b o 1 v := stv_put tsz104
theorem xld105 {h : Heap} {b o : Nat} : ld Try.prog h 105 (.pointer (some ⟨b, o, none⟩)) = cell h b o := ld_sc tsz105 tag105
theorem xst105 {ro : Nat} {h : Heap} {b o : Nat} {v : Value} : stv Try.prog ro h 105 (.pointer (some ⟨b, o, none⟩)) v = put ro h b o 1 v := stv_put tsz105
theorem xfad106_0 {b o : Nat} : fadr Try.prog 106 (.pointer (some ⟨b, o, none⟩)) 0 = some (.pointer (some ⟨b, o + 0, none⟩)) := fadr_of tfi106_0 (by decide)
theorem xfld106_0 {cs : List Value} : fld Try.prog 106 (.agg ⟨cs⟩) 0 = some (.agg ⟨(cs.drop 0).take 2⟩) := fld_agg tfi106_0 tag62
theorem xfad106_1 {b o : Nat} : fadr Try.prog 106 (.pointer (some ⟨b, o, none⟩)) 1 = some (.pointer (some ⟨b, o + 2, none⟩)) := fadr_of tfi106_1 (by decide)
theorem xfld106_1 {cs : List Value} : fld Try.prog 106 (.agg ⟨cs⟩) 1 = cs[2]? := fld_sc tfi106_1 tag29
theorem xfad106_2 {b o : Nat} : fadr Try.prog 106 (.pointer (some ⟨b, o, none⟩)) 2 = some (.pointer (some ⟨b, o + 3, none⟩)) := fadr_of tfi106_2 (by decide)
theorem xfld106_2 {cs : List Value} : fld Try.prog 106 (.agg ⟨cs⟩) 2 = cs[3]? := fld_sc tfi106_2 tag2
theorem xld106 {h : Heap} {b o : Nat} : ld Try.prog h 106 (.pointer (some ⟨b, o, none⟩)) = cells h b o 4 := ld_agg tsz106 tag106
theorem xst106 {ro : Nat} {h : Heap} {b o : Nat} {v : Value} : stv Try.prog ro h 106 (.pointer (some ⟨b, o, none⟩)) v = put ro h b o 4 v := stv_put tsz106
theorem xfad107_0 {b o : Nat} : fadr Try.prog 107 (.pointer (some ⟨b, o, none⟩)) 0 = some (.pointer (some ⟨b, o + 0, none⟩)) := fadr_of tfi107_0 (by decide)
theorem xfld107_0 {cs : List Value} : fld Try.prog 107 (.agg ⟨cs⟩) 0 = some (.agg ⟨(cs.drop 0).take 2⟩) := fld_agg tfi107_0 tag62
theorem xfad107_1 {b o : Nat} : fadr Try.prog 107 (.pointer (some ⟨b, o, none⟩)) 1 = some (.pointer (some ⟨b, o + 2, none⟩)) := fadr_of tfi107_1 (by decide)
theorem xfld107_1 {cs : List Value} : fld Try.prog 107 (.agg ⟨cs⟩) 1 = cs[2]? := fld_sc tfi107_1 tag29
theorem xfad107_2 {b o : Nat} : fadr Try.prog 107 (.pointer (some ⟨b, o, none⟩)) 2 = some (.pointer (some ⟨b, o + 3, none⟩)) := fadr_of tfi107_2 (by decide)
theorem xfld107_2 {cs : List Value} : fld Try.prog 107 (.agg ⟨cs⟩) 2 = cs[3]? := fld_sc tfi107_2 tag2
theorem xld107 {h : Heap} {b o : Nat} : ld Try.prog h 107 (.pointer (some ⟨b, o, none⟩)) = cells h b o 4 := ld_agg tsz107 tag107
theorem xst107 {ro : Nat} {h : Heap} {b o : Nat} {v : Value} : stv Try.prog ro h 107 (.pointer (some ⟨b, o, none⟩)) v = put ro h b o 4 v := stv_put tsz107
theorem xlen108 {ro : Nat} {a : Option Addr} {n c : Nat} {h : Heap} : ablt Try.prog ro .len [108] [.slice a n c] h = some (.int .i64 n, h) := len_slc Try.underlying108
theorem xiad108 {b o len cap : Nat} {k : IntKind} {n : Int} (h0 : 0 ≤ n) (h1 : n < len) : iadr Try.prog 108 (.slice (some ⟨b, o, none⟩) len cap) (.int k n) = some (.pointer (some ⟨b, o + n.toNat * 4, none⟩)) := iadr_slc Try.underlying108 tsz107 h0 h1
theorem xld108 {h : Heap} {b o : Nat} : ld Try.prog h 108 (.pointer (some ⟨b, o, none⟩)) = cell h b o := ld_sc tsz108 tag108
theorem xst108 {ro : Nat} {h : Heap} {b o : Nat} {v : Value} : stv Try.prog ro h 108 (.pointer (some ⟨b, o, none⟩)) v = put ro h b o 1 v := stv_put tsz108
theorem xld109 {h : Heap} {b o : Nat} : ld Try.prog h 109 (.pointer (some ⟨b, o, none⟩)) = cell h b o := ld_sc tsz109 tag109
theorem xst109 {ro : Nat} {h : Heap} {b o : Nat} {v : Value} : stv Try.prog ro h 109 (.pointer (some ⟨b, o, none⟩)) v = put ro h b o 1 v := stv_put tsz109
theorem xld110 {h : Heap} {b o : Nat} : ld Try.prog h 110 (.pointer (some ⟨b, o, none⟩)) = cell h b o := ld_sc tsz110 tag110
theorem xst110 {ro : Nat} {h : Heap} {b o : Nat} {v : Value} : stv Try.prog ro h 110 (.pointer (some ⟨b, o, none⟩)) v = put ro h b o 1 v := stv_put tsz110
theorem xld111 {h : Heap} {b o : Nat} : ld Try.prog h 111 (.pointer (some ⟨b, o, none⟩)) = cell h b o := ld_sc tsz111 tag111
theorem xst111 {ro : Nat} {h : Heap} {b o : Nat} {v : Value} : stv Try.prog ro h 111 (.pointer (some ⟨b, o, none⟩)) v = put ro h b o 1 v := stv_put tsz111
theorem xld112 {h : Heap} {b o : Nat} : ld Try.prog h 112 (.pointer (some ⟨b, o, none⟩)) = cell h b o := ld_sc tsz112 tag112
theorem xst112 {ro : Nat} {h : Heap} {b o : Nat} {v : Value} : stv Try.prog ro h 112 (.pointer (some ⟨b, o, none⟩)) v = put ro h b o 1 v := stv_put tsz112
theorem xld113 {h : Heap} {b o : Nat} : ld Try.prog h 113 (.pointer (some ⟨b, o, none⟩)) = cell h b o := ld_sc tsz113 tag113
theorem xst113 {ro : Nat} {h : Heap} {b o : Nat} {v : Value} : stv Try.prog ro h 113 (.pointer (some ⟨b, o, none⟩)) v = put ro h b o 1 v := stv_put tsz113
theorem xld114 {h : Heap} {b o : Nat} : ld Try.prog h 114 (.pointer (some ⟨b, o, none⟩)) = cell h b o := ld_sc tsz114 tag114
theorem xst114 {ro : Nat} {h : Heap} {b o : Nat} {v : Value} : stv Try.prog ro h 114 (.pointer (some ⟨b, o, none⟩)) v = put ro h b o 1 v := stv_put tsz114
theorem xld115 {h : Heap} {b o : Nat} : ld Try.prog h 115 (.pointer (some ⟨b, o, none⟩)) = cell h b o := ld_sc tsz115 tag115
theorem xst115 {ro : Nat} {h : Heap} {b o : Nat} {v : Value} : stv Try.prog ro h 115 (.pointer (some ⟨b, o, none⟩)) v = put ro h b o 1 v := stv_put tsz115
theorem xld116 {h : Heap} {b o : Nat} : ld Try.prog h 116 (.pointer (some ⟨b, o, none⟩)) = cell h b o := ld_sc tsz116 tag116
theorem xst116 {ro : Nat} {h : Heap} {b o : Nat} {v : Value} : stv Try.prog ro h 116 (.pointer (some ⟨b, o, none⟩)) v = put ro h b o 1 v := stv_put tsz116
theorem xld117 {h : Heap} {b o : Nat} : ld Try.prog h 117 (.pointer (some ⟨b, o, none⟩)) = cell h b o := ld_sc tsz117 tag117
theorem xst117 {ro : Nat} {h : Heap} {b o : Nat} {v : Value} : stv Try.prog ro h 117 (.pointer (some ⟨b, o, none⟩)) v = put ro h b o 1 v := stv_put tsz117
theorem xld118 {h : Heap} {b o : Nat} : ld Try.prog h 118 (.pointer (some ⟨b, o, none⟩)) = cell h b o := ld_sc tsz118 tag118
theorem xst118 {ro : Nat} {h : Heap} {b o : Nat} {v : Value} : stv Try.prog ro h 118 (.pointer (some ⟨b, o, none⟩)) v = put ro h b o 1 v := stv_put tsz118
theorem xld119 {h : Heap} {b o : Nat} : ld Try.prog h 119 (.pointer (some ⟨b, o, none⟩)) = cell h b o := ld_sc tsz119 tag119
theorem xst119 {ro : Nat} {h : Heap} {b o : Nat} {v : Value} : stv Try.prog ro h 119 (.pointer (some ⟨b, o, none⟩)) v = put ro h b o 1 v := stv_put tsz119
theorem xld120 {h : Heap} {b o : Nat} : ld Try.prog h 120 (.pointer (some ⟨b, o, none⟩)) = cell h b o := ld_sc tsz120 tag120
theorem xst120 {ro : Nat} {h : Heap} {b o : Nat} {v : Value} : stv Try.prog ro h 120 (.pointer (some ⟨b, o, none⟩)) v = put ro h b o 1 v := stv_put tsz120
theorem xld121 {h : Heap} {b o : Nat} : ld Try.prog h 121 (.pointer (some ⟨b, o, none⟩)) = cell h b o := ld_sc tsz121 tag121
theorem xst121 {ro : Nat} {h : Heap} {b o : Nat} {v : Value} : stv Try.prog ro h 121 (.pointer (some ⟨b, o, none⟩)) v = put ro h b o 1 v := stv_put tsz121
theorem xld123 {h : Heap} {b o : Nat} : ld Try.prog h 123 (.pointer (some ⟨b, o, none⟩)) = cell h b o := ld_sc tsz123 tag123
theorem xst123 {ro : Nat} {h : Heap} {b o : Nat} {v : Value} : stv Try.prog ro h 123 (.pointer (some ⟨b, o, none⟩)) v = put ro h b o 1 v := stv_put tsz123
theorem xld124 {h : Heap} {b o : Nat} : ld Try.prog h 124 (.pointer (some ⟨b, o, none⟩)) = cell h b o := ld_sc tsz124 tag124
theorem xst124 {ro : Nat} {h : Heap} {b o : Nat} {v : Value} : stv Try.prog ro h 124 (.pointer (some ⟨b, o, none⟩)) v = put ro h b o 1 v := stv_put tsz124
theorem xfad125_0 {b o : Nat} : fadr Try.prog 125 (.pointer (some ⟨b, o, none⟩)) 0 = some (.pointer (some ⟨b, o + 0, none⟩)) := fadr_of tfi125_0 (by decide)
theorem xfld125_0 {cs : List Value} : fld Try.prog 125 (.agg ⟨cs⟩) 0 = cs[0]? := fld_sc tfi125_0 tag2
theorem xfad125_1 {b o : Nat} : fadr Try.prog 125 (.pointer (some ⟨b, o, none⟩)) 1 = some (.pointer (some ⟨b, o + 1, none⟩)) := fadr_of tfi125_1 (by decide)
theorem xfld125_1 {cs : List Value} : fld Try.prog 125 (.agg ⟨cs⟩) 1 = cs[1]? := fld_sc tfi125_1 tag2
theorem xld125 {h : Heap} {b o : Nat} : ld Try.prog h 125 (.pointer (some ⟨b, o, none⟩)) = cells h b o 2 := ld_agg tsz125 tag125
theorem xst125 {ro : Nat} {h : Heap} {b o : Nat} {v : Value} : stv Try.prog ro h 125 (.pointer (some ⟨b, o, none⟩)) v = put ro h b o 2 v := stv_put tsz125
theorem xfad126_0 {b o : Nat} : fadr Try.prog 126 (.pointer (some ⟨b, o, none⟩)) 0 = some (.pointer (some ⟨b, o + 0, none⟩)) := fadr_of tfi126_0 (by decide)
theorem xfld126_0 {cs : List Value} : fld Try.prog 126 (.agg ⟨cs⟩) 0 = cs[0]? := fld_sc tfi126_0 tag2
theorem xfad126_1 {b o : Nat} : fadr Try.prog 126 (.pointer (some ⟨b, o, none⟩)) 1 = some (.pointer (some ⟨b, o + 1, none⟩)) := fadr_of tfi126_1 (by decide)
theorem xfld126_1 {cs : List Value} : fld Try.prog 126 (.agg ⟨cs⟩) 1 = cs[1]? := fld_sc tfi126_1 tag2
theorem xld126 {h : Heap} {b o : Nat} : ld Try.prog h 126 (.pointer (some ⟨b, o, none⟩)) = cells h b o 2 := ld_agg tsz126 tag126
theorem xst126 {ro : Nat} {h : Heap} {b o : Nat} {v : Value} : stv Try.prog ro h 126 (.pointer (some ⟨b, o, none⟩)) v = put ro h b o 2 v := stv_put tsz126
theorem xld127 {h : Heap} {b o : Nat} : ld Try.prog h 127 (.pointer (some ⟨b, o, none⟩)) = cell h b o := ld_sc tsz127 tag127
theorem xst127 {ro : Nat} {h : Heap} {b o : Nat} {v : Value} : stv Try.prog ro h 127 (.pointer (some ⟨b, o, none⟩)) v = put ro h b o 1 v := stv_put tsz127
theorem xld128 {h : Heap} {b o : Nat} : ld Try.prog h 128 (.pointer (some ⟨b, o, none⟩)) = cell h b o := ld_sc tsz128 tag128
theorem xst128 {ro : Nat} {h : Heap} {b o : Nat} {v : Value} : stv Try.prog ro h 128 (.pointer (some ⟨b, o, none⟩)) v = put ro h b o 1 v := stv_put tsz128
theorem xld129 {h : Heap} {b o : Nat} : ld Try.prog h 129 (.pointer (some ⟨b, o, none⟩)) = cell h b o := ld_sc tsz129 tag129
theorem xst129 {ro : Nat} {h : Heap} {b o : Nat} {v : Value} : stv Try.prog ro h 129 (.pointer (some ⟨b, o, none⟩)) v = put ro h b o 1 v := stv_put tsz129
theorem xld130 {h : Heap} {b o : Nat} : ld Try.prog h 130 (.pointer (some ⟨b, o, none⟩)) = cell h b o := ld_sc tsz130 tag130
theorem xst130 {ro : Nat} {h : Heap} {b o : Nat} {v : Value} : stv Try.prog ro h 130 (.pointer (some ⟨b, o, none⟩)) v = put ro h b o 1 v := stv_put tsz130
theorem xld131 {h : Heap} {b o : Nat} : ld Try.prog h 131 (.pointer (some ⟨b, o, none⟩)) = cell h b o := ld_sc tsz131 tag131
theorem xst131 {ro : Nat} {h : Heap} {b o : Nat} {v : Value} : stv Try.prog ro h 131 (.pointer (some ⟨b, o, none⟩)) v = put ro h b o 1 v := stv_put tsz131
theorem xld132 {h : Heap} {b o : Nat} : ld Try.prog h 132 (.pointer (some ⟨b, o, none⟩)) = cell h b o := ld_sc tsz132 tag132
theorem xst132 {ro : Nat} {h : Heap} {b o : Nat} {v : Value} : stv Try.prog ro h 132 (.pointer (some ⟨b, o, none⟩)) v = put ro h b o 1 v := stv_put tsz132
theorem xld134 {h : Heap} {b o : Nat} : ld Try.prog h 134 (.pointer (some ⟨b, o, none⟩)) = cell h b o := ld_sc tsz134 tag134
theorem xst134 {ro : Nat} {h : Heap} {b o : Nat} {v : Value} : stv Try.prog ro h 134 (.pointer (some ⟨b, o, none⟩)) v = put ro h b o 1 v := stv_put tsz134
theorem xld135 {h : Heap} {b o : Nat} : ld Try.prog h 135 (.pointer (some ⟨b, o, none⟩)) = cell h b o := ld_sc tsz135 tag135
theorem xst135 {ro : Nat} {h : Heap} {b o : Nat} {v : Value} : stv Try.prog ro h 135 (.pointer (some ⟨b, o, none⟩)) v = put ro h b o 1 v := stv_put tsz135
theorem xld137 {h : Heap} {b o : Nat} : ld Try.prog h 137 (.pointer (some ⟨b, o, none⟩)) = cell h b o := ld_sc tsz137 tag137
theorem xst137 {ro : Nat} {h : Heap} {b o : Nat} {v : Value} : stv Try.prog ro h 137 (.pointer (some ⟨b, o, none⟩)) v = put ro h b o 1 v := stv_put tsz137
theorem xld138 {h : Heap} {b o : Nat} : ld Try.prog h 138 (.pointer (some ⟨b, o, none⟩)) = cell h b o := ld_sc tsz138 tag138
theorem xst138 {ro : Nat} {h : Heap} {b o : Nat} {v : Value} : stv Try.prog ro h 138 (.pointer (some ⟨b, o, none⟩)) v = put ro h b o 1 v := stv_put tsz138
theorem xld139 {h : Heap} {b o : Nat} : ld Try.prog h 139 (.pointer (some ⟨b, o, none⟩)) = cell h b o := ld_sc tsz139 tag139
theorem xst139 {ro : Nat} {h : Heap} {b o : Nat} {v : Value} : stv Try.prog ro h 139 (.pointer (some ⟨b, o, none⟩)) v = put ro h b o 1 v := stv_put tsz139
theorem xld140 {h : Heap} {b o : Nat} : ld Try.prog h 140 (.pointer (some ⟨b, o, none⟩)) = cell h b o := ld_sc tsz140 tag140
theorem xst140 {ro : Nat} {h : Heap} {b o : Nat} {v : Value} : stv Try.prog ro h 140 (.pointer (some ⟨b, o, none⟩)) v = put ro h b o 1 v := stv_put tsz140
theorem xld141 {h : Heap} {b o : Nat} : ld Try.prog h 141 (.pointer (some ⟨b, o, none⟩)) = cell h b o := ld_sc tsz141 tag141
theorem xst141 {ro : Nat} {h : Heap} {b o : Nat} {v : Value} : stv Try.prog ro h 141 (.pointer (some ⟨b, o, none⟩)) v = put ro h b o 1 v := stv_put tsz141
theorem xld142 {h : Heap} {b o : Nat} : ld Try.prog h 142 (.pointer (some ⟨b, o, none⟩)) = cell h b o := ld_sc tsz142 tag142
theorem xst142 {ro : Nat} {h : Heap} {b o : Nat} {v : Value} : stv Try.prog ro h 142 (.pointer (some ⟨b, o, none⟩)) v = put ro h b o 1 v := stv_put tsz142
theorem xld143 {h : Heap} {b o : Nat} : ld Try.prog h 143 (.pointer (some ⟨b, o, none⟩)) = cell h b o := ld_sc tsz143 tag143
theorem xst143 {ro : Nat} {h : Heap} {b o : Nat} {v : Value} : stv Try.prog ro h 143 (.pointer (some ⟨b, o, none⟩)) v = put ro h b o 1 v := stv_put tsz143
theorem xld145 {h : Heap} {b o : Nat} : ld Try.prog h 145 (.pointer (some ⟨b, o, none⟩)) = cell h b o := ld_sc tsz145 tag145
theorem xst145 {ro : Nat} {h : Heap} {b o : Nat} {v : Value} : stv Try.prog ro h 145 (.pointer (some ⟨b, o, none⟩)) v = put ro h b o 1 v := stv_put tsz145
theorem xld146 {h : Heap} {b o : Nat} : ld Try.prog h 146 (.pointer (some ⟨b, o, none⟩)) = cell h b o := ld_sc tsz146 tag146
theorem xst146 {ro : Nat} {h : Heap} {b o : Nat} {v : Value} : stv Try.prog ro h 146 (.pointer (some ⟨b, o, none⟩)) v = put ro h b o 1 v := stv_put tsz146
theorem xld147 {h : Heap} {b o : Nat} : ld Try.prog h 147 (.pointer (some ⟨b, o, none⟩)) = cell h b o := ld_sc tsz147 tag147
theorem xst147 {ro : Nat} {h : Heap} {b o : Nat} {v : Value} : stv Try.prog ro h 147 (.pointer (some ⟨b, o, none⟩)) v = put ro h b o 1 v := stv_put tsz147
theorem xld148 {h : Heap} {b o : Nat} : ld Try.prog h 148 (.pointer (some ⟨b, o, none⟩)) = cell h b o := ld_sc tsz148 tag148
theorem xst148 {ro : Nat} {h : Heap} {b o : Nat} {v : Value} : stv Try.prog ro h 148 (.pointer (some ⟨b, o, none⟩)) v = put ro h b o 1 v := stv_put tsz148
theorem xld149 {h : Heap} {b o : Nat} : ld Try.prog h 149 (.pointer (some ⟨b, o, none⟩)) = cell h b o := ld_sc tsz149 tag149
theorem xst149 {ro : Nat} {h : Heap} {b o : Nat} {v : Value} : stv Try.prog ro h 149 (.pointer (some ⟨b, o, none⟩)) v = put ro h b o 1 v := stv_put tsz149
theorem xld150 {h : Heap} {b o : Nat} : ld Try.prog h 150 (.pointer (some ⟨b, o, none⟩)) = cell h b o := ld_sc tsz150 tag150
theorem xst150 {ro : Nat} {h : Heap} {b o : Nat} {v : Value} : stv Try.prog ro h 150 (.pointer (some ⟨b, o, none⟩)) v = put ro h b o 1 v := stv_put tsz150
theorem xld151 {h : Heap} {b o : Nat} : ld Try.prog h 151 (.pointer (some ⟨b, o, none⟩)) = cell h b o := ld_sc tsz151 tag151
theorem xst151 {ro : Nat} {h : Heap} {b o : Nat} {v : Value} : stv Try.prog ro h 151 (.pointer (some ⟨b, o, none⟩)) v = put ro h b o 1 v := stv_put tsz151
theorem xld152 {h : Heap} {b o : Nat} : ld Try.prog h 152 (.pointer (some ⟨b, o, none⟩)) = cell h b o := ld_sc tsz152 tag152
theorem xst152 {ro : Nat} {h : Heap} {b o : Nat} {v : Value} : stv Try.prog ro h 152 (.pointer (some ⟨b, o, none⟩)) v = put ro h b o 1 v := stv_put tsz152
theorem xld153 {h : Heap} {b o : Nat} : ld Try.prog h 153 (.pointer (some ⟨b, o, none⟩)) = cell h b o := ld_sc tsz153 tag153
theorem xst153 {ro : Nat} {h : Heap} {b o : Nat} {v : Value} : stv Try.prog ro h 153 (.pointer (some ⟨b, o, none⟩)) v = put ro h b o 1 v := stv_put tsz153
theorem xld154 {h : Heap} {b o : Nat} : ld Try.prog h 154 (.pointer (some ⟨b, o, none⟩)) = cell h b o := ld_sc tsz154 tag154
theorem xst154 {ro : Nat} {h : Heap} {b o : Nat} {v : Value} : stv Try.prog ro h 154 (.pointer (some ⟨b, o, none⟩)) v = put ro h b o 1 v := stv_put tsz154
theorem xld155 {h : Heap} {b o : Nat} : ld Try.prog h 155 (.pointer (some ⟨b, o, none⟩)) = cell h b o := ld_sc tsz155 tag155
theorem xst155 {ro : Nat} {h : Heap} {b o : Nat} {v : Value} : stv Try.prog ro h 155 (.pointer (some ⟨b, o, none⟩)) v = put ro h b o 1 v := stv_put tsz155
theorem xld156 {h : Heap} {b o : Nat} : ld Try.prog h 156 (.pointer (some ⟨b, o, none⟩)) = cell h b o := ld_sc tsz156 tag156
theorem xst156 {ro : Nat} {h : Heap} {b o : Nat} {v : Value} : stv Try.prog ro h 156 (.pointer (some ⟨b, o, none⟩)) v = put ro h b o 1 v := stv_put tsz156
theorem xld157 {h : Heap} {b o : Nat} : ld Try.prog h 157 (.pointer (some ⟨b, o, none⟩)) = cell h b o := ld_sc tsz157 tag157
theorem xst157 {ro : Nat} {h : Heap} {b o : Nat} {v : Value} : stv Try.prog ro h 157 (.pointer (some ⟨b, o, none⟩)) v = put ro h b o 1 v := stv_put tsz157
theorem xld158 {h : Heap} {b o : Nat} : ld Try.prog h 158 (.pointer (some ⟨b, o, none⟩)) = cell h b o := ld_sc tsz158 tag158
theorem xst158 {ro : Nat} {h : Heap} {b o : Nat} {v : Value} : stv Try.prog ro h 158 (.pointer (some ⟨b, o, none⟩)) v = put ro h b o 1 v := stv_put tsz158
theorem xld159 {h : Heap} {b o : Nat} : ld Try.prog h 159 (.pointer (some ⟨b, o, none⟩)) = cell h b o := ld_sc tsz159 tag159
theorem xst159 {ro : Nat} {h : Heap} {b o : Nat} {v : Value} : stv Try.prog ro h 159 (.pointer (some ⟨b, o, none⟩)) v = put ro h b o 1 v := stv_put tsz159
theorem xld160 {h : Heap} {b o : Nat} : ld Try.prog h 160 (.pointer (some ⟨b, o, none⟩)) = cell h b o := ld_sc tsz160 tag160
theorem xst160 {ro : Nat} {h : Heap} {b o : Nat} {v : Value} : stv Try.prog ro h 160 (.pointer (some ⟨b, o, none⟩)) v = put ro h b o 1 v := stv_put tsz160
theorem xld161 {h : Heap} {b o : Nat} : ld Try.prog h 161 (.pointer (some ⟨b, o, none⟩)) = cell h b o := ld_sc tsz161 tag161
theorem xst161 {ro : Nat} {h : Heap} {b o : Nat} {v : Value} : stv Try.prog ro h 161 (.pointer (some ⟨b, o, none⟩)) v = put ro h b o 1 v := stv_put tsz161
theorem xld162 {h : Heap} {b o : Nat} : ld Try.prog h 162 (.pointer (some ⟨b, o, none⟩)) = cell h b o := ld_sc tsz162 tag162
theorem xst162 {ro : Nat} {h : Heap} {b o : Nat} {v : Value} : stv Try.prog ro h 162 (.pointer (some ⟨b, o, none⟩)) v = put ro h b o 1 v := stv_put tsz162
theorem xld163 {h : Heap} {b o : Nat} : ld Try.prog h 163 (.pointer (some ⟨b, o, none⟩)) = cell h b o := ld_sc tsz163 tag163
theorem xst163 {ro : Nat} {h : Heap} {b o : Nat} {v : Value} : stv Try.prog ro h 163 (.pointer (some ⟨b, o, none⟩)) v = put ro h b o 1 v := stv_put tsz163
theorem xld164 {h : Heap} {b o : Nat} : ld Try.prog h 164 (.pointer (some ⟨b, o, none⟩)) = cell h b o := ld_sc tsz164 tag164
theorem xst164 {ro : Nat} {h : Heap} {b o : Nat} {v : Value} : stv Try.prog ro h 164 (.pointer (some ⟨b, o, none⟩)) v = put ro h b o 1 v := stv_put tsz164
theorem xfad165_0 {b o : Nat} : fadr Try.prog 165 (.pointer (some ⟨b, o, none⟩)) 0 = some (.pointer (some ⟨b, o + 0, none⟩)) := fadr_of tfi165_0 (by decide)
theorem xfld165_0 {cs : List Value} : fld Try.prog 165 (.agg ⟨cs⟩) 0 = cs[0]? := fld_sc tfi165_0 tag164
theorem xfad165_1 {b o : Nat} : fadr Try.prog 165 (.pointer (some ⟨b, o, none⟩)) 1 = some (.pointer (some ⟨b, o + 1, none⟩)) := fadr_of tfi165_1 (by decide)
theorem xfld165_1 {cs : List Value} : fld Try.prog 165 (.agg ⟨cs⟩) 1 = cs[1]? := fld_sc tfi165_1 tag22
theorem xld165 {h : Heap} {b o : Nat} : ld Try.prog h 165 (.pointer (some ⟨b, o, none⟩)) = cells h b o 2 := ld_agg tsz165 tag165
theorem xst165 {ro : Nat} {h : Heap} {b o : Nat} {v : Value} : stv Try.prog ro h 165 (.pointer (some ⟨b, o, none⟩)) v = put ro h b o 2 v := stv_put tsz165
theorem xfad166_0 {b o : Nat} : fadr Try.prog 166 (.pointer (some ⟨b, o, none⟩)) 0 = some (.pointer (some ⟨b, o + 0, none⟩)) := fadr_of tfi166_0 (by decide)
theorem xfld166_0 {cs : List Value} : fld Try.prog 166 (.agg ⟨cs⟩) 0 = cs[0]? := fld_sc tfi166_0 tag164
theorem xfad166_1 {b o : Nat} : fadr Try.prog 166 (.pointer (some ⟨b, o, none⟩)) 1 = some (.pointer (some ⟨b, o + 1, none⟩)) := fadr_of tfi166_1 (by decide)
theorem xfld166_1 {cs : List Value} : fld Try.prog 166 (.agg ⟨cs⟩) 1 = cs[1]? := fld_sc tfi166_1 tag22
theorem xld166 {h : Heap} {b o : Nat} : ld Try.prog h 166 (.pointer (some ⟨b, o, none⟩)) = cells h b o 2 := ld_agg tsz166 tag166
theorem xst166 {ro : Nat} {h : Heap} {b o : Nat} {v : Value} : stv Try.prog ro h 166 (.pointer (some ⟨b, o, none⟩)) v = put ro h b o 2 v := stv_put tsz166
theorem xld170 {h : Heap} {b o : Nat} : ld Try.prog h 170 (.pointer (some ⟨b, o, none⟩)) = cell h b o := ld_sc tsz170 tag170
theorem xst170 {ro : Nat} {h : Heap} {b o : Nat} {v : Value} : stv Try.prog ro h 170 (.pointer (some ⟨b, o, none⟩)) v = put ro h b o 1 v := stv_put tsz170
theorem xld171 {h : Heap} {b o : Nat} : ld Try.prog h 171 (.pointer (some ⟨b, o, none⟩)) = cell h b o := ld_sc tsz171 tag171
theorem xst171 {ro : Nat} {h : Heap} {b o : Nat} {v : Value} : stv Try.prog ro h 171 (.pointer (some ⟨b, o, none⟩)) v = put ro h b o 1 v := stv_put tsz171
theorem xld172 {h : Heap} {b o : Nat} : ld Try.prog h 172 (.pointer (some ⟨b, o, none⟩)) = cell h b o := ld_sc tsz172 tag172
theorem xst172 {ro : Nat} {h : Heap} {b o : Nat} {v : Value} : stv Try.prog ro h 172 (.pointer (some ⟨b, o, none⟩)) v = put ro h b o 1 v := stv_put tsz172
theorem xld173 {h : Heap} {b o : Nat} : ld Try.prog h 173 (.pointer (some ⟨b, o, none⟩)) = cell h b o := ld_sc tsz173 tag173
theorem xst173 {ro : Nat} {h : Heap} {b o : Nat} {v : Value} : stv Try.prog ro h 173 (.pointer (some ⟨b, o, none⟩)) v = put ro h b o 1 v := stv_put tsz173
theorem xld174 {h : Heap} {b o : Nat} : ld Try.prog h 174 (.pointer (some ⟨b, o, none⟩)) = cell h b o := ld_sc tsz174 tag174
theorem xst174 {ro : Nat} {h : Heap} {b o : Nat} {v : Value} : stv Try.prog ro h 174 (.pointer (some ⟨b, o, none⟩)) v = put ro h b o 1 v := stv_put tsz174
theorem xld175 {h : Heap} {b o : Nat} : ld Try.prog h 175 (.pointer (some ⟨b, o, none⟩)) = cell h b o := ld_sc tsz175 tag175
theorem xst175 {ro : Nat} {h : Heap} {b o : Nat} {v : Value} : stv Try.prog ro h 175 (.pointer (some ⟨b, o, none⟩)) v = put ro h b o 1 v := stv_put tsz175
theorem xld176 {h : Heap} {b o : Nat} : ld Try.prog h 176 (.pointer (some ⟨b, o, none⟩)) = cell h b o := ld_sc tsz176 tag176
theorem xst176 {ro : Nat} {h : Heap} {b o : Nat} {v : Value} : stv Try.prog ro h 176 (.pointer (some ⟨b, o, none⟩)) v = put ro h b o 1 v := stv_put tsz176
theorem xld177 {h : Heap} {b o : Nat} : ld Try.prog h 177 (.pointer (some ⟨b, o, none⟩)) = cell h b o := ld_sc tsz177 tag177
theorem xst177 {ro : Nat} {h : Heap} {b o : Nat} {v : Value} : stv Try.prog ro h 177 (.pointer (some ⟨b, o, none⟩)) v = put ro h b o 1 v := stv_put tsz177
theorem xld178 {h : Heap} {b o : Nat} : ld Try.prog h 178 (.pointer (some ⟨b, o, none⟩)) = cell h b o := ld_sc tsz178 tag178
theorem xst178 {ro : Nat} {h : Heap} {b o : Nat} {v : Value} : stv Try.prog ro h 178 (.pointer (some ⟨b, o, none⟩)) v = put ro h b o 1 v := stv_put tsz178
theorem xld179 {h : Heap} {b o : Nat} : ld Try.prog h 179 (.pointer (some ⟨b, o, none⟩)) = cell h b o := ld_sc tsz179 tag179
theorem xst179 {ro : Nat} {h : Heap} {b o : Nat} {v : Value} : stv Try.prog ro h 179 (.pointer (some ⟨b, o, none⟩)) v = put ro h b o 1 v := stv_put tsz179
theorem xld180 {h : Heap} {b o : Nat} : ld Try.prog h 180 (.pointer (some ⟨b, o, none⟩)) = cell h b o := ld_sc tsz180 tag180
theorem xst180 {ro : Nat} {h : Heap} {b o : Nat} {v : Value} : stv Try.prog ro h 180 (.pointer (some ⟨b, o, none⟩)) v = put ro h b o 1 v := stv_put tsz180
theorem xld181 {h : Heap} {b o : Nat} : ld Try.prog h 181 (.pointer (some ⟨b, o, none⟩)) = cell h b o := ld_sc tsz181 tag181
theorem xst181 {ro : Nat} {h : Heap} {b o : Nat} {v : Value} : stv Try.prog ro h 181 (.pointer (some ⟨b, o, none⟩)) v = put ro h b o 1 v := stv_put tsz181
theorem xld182 {h : Heap} {b o : Nat} : ld Try.prog h 182 (.pointer (some ⟨b, o, none⟩)) = cell h b o := ld_sc tsz182 tag182
theorem xst182 {ro : Nat} {h : Heap} {b o : Nat} {v : Value} : stv Try.prog ro h 182 (.pointer (some ⟨b, o, none⟩)) v = put ro h b o 1 v := stv_put tsz182
theorem xld183 {h : Heap} {b o : Nat} : ld Try.prog h 183 (.pointer (some ⟨b, o, none⟩)) = cell h b o := ld_sc tsz183 tag183
theorem xst183 {ro : Nat} {h : Heap} {b o : Nat} {v : Value} : stv Try.prog ro h 183 (.pointer (some ⟨b, o, none⟩)) v = put ro h b o 1 v := stv_put tsz183
theorem xld184 {h : Heap} {b o : Nat} : ld Try.prog h 184 (.pointer (some ⟨b, o, none⟩)) = cell h b o := ld_sc tsz184 tag184
theorem xst184 {ro : Nat} {h : Heap} {b o : Nat} {v : Value} : stv Try.prog ro h 184 (.pointer (some ⟨b, o, none⟩)) v = put ro h b o 1 v := stv_put tsz184
theorem xld185 {h : Heap} {b o : Nat} : ld Try.prog h 185 (.pointer (some ⟨b, o, none⟩)) = cell h b o := ld_sc tsz185 tag185
theorem xst185 {ro : Nat} {h : Heap} {b o : Nat} {v : Value} : stv Try.prog ro h 185 (.pointer (some ⟨b, o, none⟩)) v = put ro h b o 1 v := stv_put tsz185
theorem xld186 {h : Heap} {b o : Nat} : ld Try.prog h 186 (.pointer (some ⟨b, o, none⟩)) = cell h b o := ld_sc tsz186 tag186
theorem xst186 {ro : Nat} {h : Heap} {b o : Nat} {v : Value} : stv Try.prog ro h 186 (.pointer (some ⟨b, o, none⟩)) v = put ro h b o 1 v := stv_put tsz186
theorem xld188 {h : Heap} {b o : Nat} : ld Try.prog h 188 (.pointer (some ⟨b, o, none⟩)) = cell h b o := ld_sc tsz188 tag188
theorem xst188 {ro : Nat} {h : Heap} {b o : Nat} {v : Value} : stv Try.prog ro h 188 (.pointer (some ⟨b, o, none⟩)) v = put ro h b o 1 v := stv_put tsz188
theorem xld189 {h : Heap} {b o : Nat} : ld Try.prog h 189 (.pointer (some ⟨b, o, none⟩)) = cell h b o := ld_sc tsz189 tag189
theorem xst189 {ro : Nat} {h : Heap} {b o : Nat} {v : Value} : stv Try.prog ro h 189 (.pointer (some ⟨b, o, none⟩)) v = put ro h b o 1 v := stv_put tsz189
theorem xld190 {h : Heap} {b o : Nat} : ld Try.prog h 190 (.pointer (some ⟨b, o, none⟩)) = cell h b o := ld_sc tsz190 tag190
theorem xst190 {ro : Nat} {h : Heap} {b o : Nat} {v : Value} : stv Try.prog ro h 190 (.pointer (some ⟨b, o, none⟩)) v = put ro h b o 1 v := stv_put tsz190
theorem xld191 {h : Heap} {b o : Nat} : ld Try.prog h 191 (.pointer (some ⟨b, o, none⟩)) = cell h b o := ld_sc tsz191 tag191
theorem xst191 {ro : Nat} {h : Heap} {b o : Nat} {v : Value} : stv Try.prog ro h 191 (.pointer (some ⟨b, o, none⟩)) v = put ro h b o 1 v := stv_put tsz191
theorem xld192 {h : Heap} {b o : Nat} : ld Try.prog h 192 (.pointer (some ⟨b, o, none⟩)) = cell h b o := ld_sc tsz192 tag192
theorem xst192 {ro : Nat} {h : Heap} {b o : Nat} {v : Value} : stv Try.prog ro h 192 (.pointer (some ⟨b, o, none⟩)) v = put ro h b o 1 v := stv_put tsz192
theorem xld193 {h : Heap} {b o : Nat} : ld Try.prog h 193 (.pointer (some ⟨b, o, none⟩)) = cell h b o := ld_sc tsz193 tag193
theorem xst193 {ro : Nat} {h : Heap} {b o : Nat} {v : Value} : stv Try.prog ro h 193 (.pointer (some ⟨b, o, none⟩)) v = put ro h b o 1 v := stv_put tsz193
theorem xld194 {h : Heap} {b o : Nat} : ld Try.prog h 194 (.pointer (some ⟨b, o, none⟩)) = cell h b o := ld_sc tsz194 tag194
theorem xst194 {ro : Nat} {h : Heap} {b o : Nat} {v : Value} : stv Try.prog ro h 194 (.pointer (some ⟨b, o, none⟩)) v = put ro h b o 1 v := stv_put tsz194
theorem xld195 {h : Heap} {b o : Nat} : ld Try.prog h 195 (.pointer (some ⟨b, o, none⟩)) = cell h b o := ld_sc tsz195 tag195
theorem xst195 {ro : Nat} {h : Heap} {b o : Nat} {v : Value} : stv Try.prog ro h 195 (.pointer (some ⟨b, o, none⟩)) v = put ro h b o 1 v := stv_put tsz195
theorem xld196 {h : Heap} {b o : Nat} : ld Try.prog h 196 (.pointer (some ⟨b, o, none⟩)) = cell h b o := ld_sc tsz196 tag196
theorem xst196 {ro : Nat} {h : Heap} {b o : Nat} {v : Value} : stv Try.prog ro h 196 (.pointer (some ⟨b, o, none⟩)) v = put ro h b o 1 v := stv_put tsz196
theorem xld198 {h : Heap} {b o : Nat} : ld Try.prog h 198 (.pointer (some ⟨b, o, none⟩)) = cell h b o := ld_sc tsz198 tag198
theorem xst198 {ro : Nat} {h : Heap} {b o : Nat} {v : Value} : stv Try.prog ro h 198 (.pointer (some ⟨b, o, none⟩)) v = put ro h b o 1 v := stv_put tsz198
theorem xld199 {h : Heap} {b o : Nat} : ld Try.prog h 199 (.pointer (some ⟨b, o, none⟩)) = cell h b o := ld_sc tsz199 tag199
theorem xst199 {ro : Nat} {h : Heap} {b o : Nat} {v : Value} : stv Try.prog ro h 199 (.pointer (some ⟨b, o, none⟩)) v = put ro h b o 1 v := stv_put tsz199
theorem xlen200 {ro : Nat} {a : Option Addr} {n c : Nat} {h : Heap} : ablt Try.prog ro .len [200] [.slice a n c] h = some (.int .i64 n, h) := len_slc Try.underlying200
theorem xiad200 {b o len cap : Nat} {k : IntKind} {n : Int} (h0 : 0 ≤ n) (h1 : n < len) : iadr Try.prog 200 (.slice (some ⟨b, o, none⟩) len cap) (.int k n) = some (.pointer (some ⟨b, o + n.toNat * 1, none⟩)) := iadr_slc Try.underlying200 tsz38 h0 h1
theorem xld200 {h : Heap} {b o : Nat} : ld Try.prog h 200 (.pointer (some ⟨b, o, none⟩)) = cell h b o := ld_sc tsz200 tag200
theorem xst200 {ro : Nat} {h : Heap} {b o : Nat} {v : Value} : stv Try.prog ro h 200 (.pointer (some ⟨b, o, none⟩)) v = put ro h b o 1 v := stv_put tsz200
theorem xld201 {h : Heap} {b o : Nat} : ld Try.prog h 201 (.pointer (some ⟨b, o, none⟩)) = cells h b o 0 := ld_agg tsz201 tag201
theorem xst201 {ro : Nat} {h : Heap} {b o : Nat} {v : Value} : stv Try.prog ro h 201 (.pointer (some ⟨b, o, none⟩)) v = put ro h b o 0 v := stv_put tsz201
theorem xld202 {h : Heap} {b o : Nat} : ld Try.prog h 202 (.pointer (some ⟨b, o, none⟩)) = cells h b o 0 := ld_agg tsz202 tag202
theorem xst202 {ro : Nat} {h : Heap} {b o : Nat} {v : Value} : stv Try.prog ro h 202 (.pointer (some ⟨b, o, none⟩)) v = put ro h b o 0 v := stv_put tsz202
theorem xld203 {h : Heap} {b o : Nat} : ld Try.prog h 203 (.pointer (some ⟨b, o, none⟩)) = cells h b o 0 := ld_agg tsz203 tag203
theorem xst203 {ro : Nat} {h : Heap} {b o : Nat} {v : Value} : stv Try.prog ro h 203 (.pointer (some ⟨b, o, none⟩)) v = put ro h b o 0 v := stv_put tsz203
theorem xld204 {h : Heap} {b o : Nat} : ld Try.prog h 204 (.pointer (some ⟨b, o, none⟩)) = cells h b o 0 := ld_agg tsz204 tag204
theorem xst204 {ro : Nat} {h : Heap} {b o : Nat} {v : Value} : stv Try.prog ro h 204 (.pointer (some ⟨b, o, none⟩)) v = put ro h b o 0 v := stv_put tsz204
theorem xld205 {h : Heap} {b o : Nat} : ld Try.prog h 205 (.pointer (some ⟨b, o, none⟩)) = cell h b o := ld_sc tsz205 tag205
theorem xst205 {ro : Nat} {h : Heap} {b o : Nat} {v : Value} : stv Try.prog ro h 205 (.pointer (some ⟨b, o, none⟩)) v = put ro h b o 1 v := stv_put tsz205
theorem xfld206_0 {cs : List Value} : fld Try.prog 206 (.agg ⟨cs⟩) 0 = some (.agg ⟨(cs.drop 0).take 0⟩) := fld_agg tfi206_0 tag203
theorem xfld206_1 {cs : List Value} : fld Try.prog 206 (.agg ⟨cs⟩) 1 = some (.agg ⟨(cs.drop 0).take 0⟩) := fld_agg tfi206_1 tag204
theorem xfad206_2 {b o : Nat} : fadr Try.prog 206 (.pointer (some ⟨b, o, none⟩)) 2 = some (.pointer (some ⟨b, o + 0, none⟩)) := fadr_of tfi206_2 (by decide)
theorem xfld206_2 {cs : List Value} : fld Try.prog 206 (.agg ⟨cs⟩) 2 = cs[0]? := fld_sc tfi206_2 tag205
theorem xld206 {h : Heap} {b o : Nat} : ld Try.prog h 206 (.pointer (some ⟨b, o, none⟩)) = cells h b o 1 := ld_agg tsz206 tag206
theorem xst206 {ro : Nat} {h : Heap} {b o : Nat} {v : Value} : stv Try.prog ro h 206 (.pointer (some ⟨b, o, none⟩)) v = put ro h b o 1 v := stv_put tsz206
theorem xfld207_0 {cs : List Value} : fld Try.prog 207 (.agg ⟨cs⟩) 0 = some (.agg ⟨(cs.drop 0).take 0⟩) := fld_agg tfi207_0 tag203
theorem xfld207_1 {cs : List Value} : fld Try.prog 207 (.agg ⟨cs⟩) 1 = some (.agg ⟨(cs.drop 0).take 0⟩) := fld_agg tfi207_1 tag204
theorem xfad207_2 {b o : Nat} : fadr Try.prog 207 (.pointer (some ⟨b, o, none⟩)) 2 = some (.pointer (some ⟨b, o + 0, none⟩)) := fadr_of tfi207_2 (by decide)
theorem xfld207_2 {cs : List Value} : fld Try.prog 207 (.agg ⟨cs⟩) 2 = cs[0]? := fld_sc tfi207_2 tag205
theorem xld207 {h : Heap} {b o : Nat} : ld Try.prog h 207 (.pointer (some ⟨b, o, none⟩)) = cells h b o 1 := ld_agg tsz207 tag207
theorem xst207 {ro : Nat} {h : Heap} {b o : Nat} {v : Value} : stv Try.prog ro h 207 (.pointer (some ⟨b, o, none⟩)) v = put ro h b o 1 v := stv_put tsz207
theorem xld208 {h : Heap} {b o : Nat} : ld Try.prog h 208 (.pointer (some ⟨b, o, none⟩)) = cell h b o := ld_sc tsz208 tag208
theorem xst208 {ro : Nat} {h : Heap} {b o : Nat} {v : Value} : stv Try.prog ro h 208 (.pointer (some ⟨b, o, none⟩)) v = put ro h b o 1 v := stv_put tsz208
theorem xfld209_0 {cs : List Value} : fld Try.prog 209 (.agg ⟨cs⟩) 0 = some (.agg ⟨(cs.drop 0).take 0⟩) := fld_agg tfi209_0 tag202
theorem xfad209_1 {b o : Nat} : fadr Try.prog 209 (.pointer (some ⟨b, o, none⟩)) 1 = some (.pointer (some ⟨b, o + 0, none⟩)) := fadr_of tfi209_1 (by decide)
theorem xfld209_1 {cs : List Value} : fld Try.prog 209 (.agg ⟨cs⟩) 1 = some (.agg ⟨(cs.drop 0).take 1⟩) := fld_agg tfi209_1 tag207
theorem xfad209_2 {b o : Nat} : fadr Try.prog 209 (.pointer (some ⟨b, o, none⟩)) 2 = some (.pointer (some ⟨b, o + 1, none⟩)) := fadr_of tfi209_2 (by decide)
theorem xfld209_2 {cs : List Value} : fld Try.prog 209 (.agg ⟨cs⟩) 2 = cs[1]? := fld_sc tfi209_2 tag208
theorem xld209 {h : Heap} {b o : Nat} : ld Try.prog h 209 (.pointer (some ⟨b, o, none⟩)) = cells h b o 2 := ld_agg tsz209 tag209
theorem xst209 {ro : Nat} {h : Heap} {b o : Nat} {v : Value} : stv Try.prog ro h 209 (.pointer (some ⟨b, o, none⟩)) v = put ro h b o 2 v := stv_put tsz209
theorem xfld210_0 {cs : List Value} : fld Try.prog 210 (.agg ⟨cs⟩) 0 = some (.agg ⟨(cs.drop 0).take 0⟩) := fld_agg tfi210_0 tag202
theorem xfad210_1 {b o : Nat} : fadr Try.prog 210 (.pointer (some ⟨b, o, none⟩)) 1 = some (.pointer (some ⟨b, o + 0, none⟩)) := fadr_of tfi210_1 (by decide)
theorem xfld210_1 {cs : List Value} : fld Try.prog 210 (.agg ⟨cs⟩) 1 = some (.agg ⟨(cs.drop 0).take 1⟩) := fld_agg tfi210_1 tag207
theorem xfad210_2 {b o : Nat} : fadr Try.prog 210 (.pointer (some ⟨b, o, none⟩)) 2 = some (.pointer (some ⟨b, o + 1, none⟩)) := fadr_of tfi210_2 (by decide)
theorem xfld210_2 {cs : List Value} : fld Try.prog 210 (.agg ⟨cs⟩) 2 = cs[1]? := fld_sc tfi210_2 tag208
theorem xld210 {h : Heap} {b o : Nat} : ld Try.prog h 210 (.pointer (some ⟨b, o, none⟩)) = cells h b o 2 := ld_agg tsz210 tag210
theorem xst210 {ro : Nat} {h : Heap} {b o : Nat} {v : Value} : stv Try.prog ro h 210 (.pointer (some ⟨b, o, none⟩)) v = put ro h b o 2 v := stv_put tsz210
theorem xld211 {h : Heap} {b o : Nat} : ld Try.prog h 211 (.pointer (some ⟨b, o, none⟩)) = cell h b o := ld_sc tsz211 tag211
theorem xst211 {ro : Nat} {h : Heap} {b o : Nat} {v : Value} : stv Try.prog ro h 211 (.pointer (some ⟨b, o, none⟩)) v = put ro h b o 1 v := stv_put tsz211
theorem xld212 {h : Heap} {b o : Nat} : ld Try.prog h 212 (.pointer (some ⟨b, o, none⟩)) = cell h b o := ld_sc tsz212 tag212
theorem xst212 {ro : Nat} {h : Heap} {b o : Nat} {v : Value} : stv Try.prog ro h 212 (.pointer (some ⟨b, o, none⟩)) v = put ro h b o 1 v := stv_put tsz212
theorem xld213 {h : Heap} {b o : Nat} : ld Try.prog h 213 (.pointer (some ⟨b, o, none⟩)) = cell h b o := ld_sc tsz213 tag213
theorem xst213 {ro : Nat} {h : Heap} {b o : Nat} {v : Value} : stv Try.prog ro h 213 (.pointer (some ⟨b, o, none⟩)) v = put ro h b o 1 v := stv_put tsz213
theorem xld214 {h : Heap} {b o : Nat} : ld Try.prog h 214 (.pointer (some ⟨b, o, none⟩)) = cell h b o := ld_sc tsz214 tag214
theorem xst214 {ro : Nat} {h : Heap} {b o : Nat} {v : Value} : stv Try.prog ro h 214 (.pointer (some ⟨b, o, none⟩)) v = put ro h b o 1 v := stv_put tsz214
theorem xld215 {h : Heap} {b o : Nat} : ld Try.prog h 215 (.pointer (some ⟨b, o, none⟩)) = cell h b o := ld_sc tsz215 tag215
theorem xst215 {ro : Nat} {h : Heap} {b o : Nat} {v : Value} : stv Try.prog ro h 215 (.pointer (some ⟨b, o, none⟩)) v = put ro h b o 1 v := stv_put tsz215
theorem xld216 {h : Heap} {b o : Nat} : ld Try.prog h 216 (.pointer (some ⟨b, o, none⟩)) = cell h b o := ld_sc tsz216 tag216
theorem xst216 {ro : Nat} {h : Heap} {b o : Nat} {v : Value} : stv Try.prog ro h 216 (.pointer (some ⟨b, o, none⟩)) v = put ro h b o 1 v := stv_put tsz216
theorem xld217 {h : Heap} {b o : Nat} : ld Try.prog h 217 (.pointer (some ⟨b, o, none⟩)) = cell h b o := ld_sc tsz217 tag217
theorem xst217 {ro : Nat} {h : Heap} {b o : Nat} {v : Value} : stv Try.prog ro h 217 (.pointer (some ⟨b, o, none⟩)) v = put ro h b o 1 v := stv_put tsz217
theorem xld218 {h : Heap} {b o : Nat} : ld Try.prog h 218 (.pointer (some ⟨b, o, none⟩)) = cell h b o := ld_sc tsz218 tag218
theorem xst218 {ro : Nat} {h : Heap} {b o : Nat} {v : Value} : stv Try.prog ro h 218 (.pointer (some ⟨b, o, none⟩)) v = put ro h b o 1 v := stv_put tsz218
theorem xld219 {h : Heap} {b o : Nat} : ld Try.prog h 219 (.pointer (some ⟨b, o, none⟩)) = cell h b o := ld_sc tsz219 tag219
theorem xst219 {ro : Nat} {h : Heap} {b o : Nat} {v : Value} : stv Try.prog ro h 219 (.pointer (some ⟨b, o, none⟩)) v = put ro h b o 1 v := stv_put tsz219
theorem xld220 {h : Heap} {b o : Nat} : ld Try.prog h 220 (.pointer (some ⟨b, o, none⟩)) = cell h b o := ld_sc tsz220 tag220
theorem xst220 {ro : Nat} {h : Heap} {b o : Nat} {v : Value} : stv Try.prog ro h 220 (.pointer (some ⟨b, o, none⟩)) v = put ro h b o 1 v := stv_put tsz220
theorem xfad221_0 {b o : Nat} : fadr Try.prog 221 (.pointer (some ⟨b, o, none⟩)) 0 = some (.pointer (some ⟨b, o + 0, none⟩)) := fadr_of tfi221_0 (by decide)
theorem xfld221_0 {cs : List Value} : fld Try.prog 221 (.agg ⟨cs⟩) 0 = cs[0]? := fld_sc tfi221_0 tag22
theorem xfad221_1 {b o : Nat} : fadr Try.prog 221 (.pointer (some ⟨b, o, none⟩)) 1 = some (.pointer (some ⟨b, o + 1, none⟩)) := fadr_of tfi221_1 (by decide)
theorem xfld221_1 {cs : List Value} : fld Try.prog 221 (.agg ⟨cs⟩) 1 = cs[1]? := fld_sc tfi221_1 tag3
theorem xfad221_2 {b o : Nat} : fadr Try.prog 221 (.pointer (some ⟨b, o, none⟩)) 2 = some (.pointer (some ⟨b, o + 2, none⟩)) := fadr_of tfi221_2 (by decide)
theorem xfld221_2 {cs : List Value} : fld Try.prog 221 (.agg ⟨cs⟩) 2 = cs[2]? := fld_sc tfi221_2 tag205
theorem xld221 {h : Heap} {b o : Nat} : ld Try.prog h 221 (.pointer (some ⟨b, o, none⟩)) = cells h b o 3 := ld_agg tsz221 tag221
theorem xst221 {ro : Nat} {h : Heap} {b o : Nat} {v : Value} : stv Try.prog ro h 221 (.pointer (some ⟨b, o, none⟩)) v = put ro h b o 3 v := stv_put tsz221
theorem xfad222_0 {b o : Nat} : fadr Try.prog 222 (.pointer (some ⟨b, o, none⟩)) 0 = some (.pointer (some ⟨b, o + 0, none⟩)) := fadr_of tfi222_0 (by decide)
theorem xfld222_0 {cs : List Value} : fld Try.prog 222 (.agg ⟨cs⟩) 0 = cs[0]? := fld_sc tfi222_0 tag22
theorem xfad222_1 {b o : Nat} : fadr Try.prog 222 (.pointer (some ⟨b, o, none⟩)) 1 = some (.pointer (some ⟨b, o + 1, none⟩)) := fadr_of tfi222_1 (by decide)
theorem xfld222_1 {cs : List Value} : fld Try.prog 222 (.agg ⟨cs⟩) 1 = cs[1]? := fld_sc tfi222_1 tag3
theorem xfad222_2 {b o : Nat} : fadr Try.prog 222 (.pointer (some ⟨b, o, none⟩)) 2 = some (.pointer (some ⟨b, o + 2, none⟩)) := fadr_of tfi222_2 (by decide)
theorem xfld222_2 {cs : List Value} : fld Try.prog 222 (.agg ⟨cs⟩) 2 = cs[2]? := fld_sc tfi222_2 tag205
theorem xld222 {h : Heap} {b o : Nat} : ld Try.prog h 222 (.pointer (some ⟨b, o, none⟩)) = cells h b o 3 := ld_agg tsz222 tag222
theorem xst222 {ro : Nat} {h : Heap} {b o : Nat} {v : Value} : stv Try.prog ro h 222 (.pointer (some ⟨b, o, none⟩)) v = put ro h b o 3 v := stv_put tsz222
theorem xld223 {h : Heap} {b o : Nat} : ld Try.prog h 223 (.pointer (some ⟨b, o, none⟩)) = cell h b o := ld_sc tsz223 tag223
theorem xst223 {ro : Nat} {h : Heap} {b o : Nat} {v : Value} : stv Try.prog ro h 223 (.pointer (some ⟨b, o, none⟩)) v = put ro h b o 1 v := stv_put tsz223
theorem xld224 {h : Heap} {b o : Nat} : ld Try.prog h 224 (.pointer (some ⟨b, o, none⟩)) = cell h b o := ld_sc tsz224 tag224
theorem xst224 {ro : Nat} {h : Heap} {b o : Nat} {v : Value} : stv Try.prog ro h 224 (.pointer (some ⟨b, o, none⟩)) v = put ro h b o 1 v := stv_put tsz224
theorem xld225 {h : Heap} {b o : Nat} : ld Try.prog h 225 (.pointer (some ⟨b, o, none⟩)) = cell h b o := ld_sc tsz225 tag225
theorem xst225 {ro : Nat} {h : Heap} {b o : Nat} {v : Value} : stv Try.prog ro h 225 (.pointer (some ⟨b, o, none⟩)) v = put ro h b o 1 v := stv_put tsz225
theorem xld226 {h : Heap} {b o : Nat} : ld Try.prog h 226 (.pointer (some ⟨b, o, none⟩)) = cell h b o := ld_sc tsz226 tag226
theorem xst226 {ro : Nat} {h : Heap} {b o : Nat} {v : Value} : stv Try.prog ro h 226 (.pointer (some ⟨b, o, none⟩)) v = put ro h b o 1 v := stv_put tsz226
theorem xld227 {h : Heap} {b o : Nat} : ld Try.prog h 227 (.pointer (some ⟨b, o, none⟩)) = cell h b o := ld_sc tsz227 tag227
theorem xst227 {ro : Nat} {h : Heap} {b o : Nat} {v : Value} : stv Try.prog ro h 227 (.pointer (some ⟨b, o, none⟩)) v = put ro h b o 1 v := stv_put tsz227
theorem xld228 {h : Heap} {b o : Nat} : ld Try.prog h 228 (.pointer (some ⟨b, o, none⟩)) = cell h b o := ld_sc tsz228 tag228
theorem xst228 {ro : Nat} {h : Heap} {b o : Nat} {v : Value} : stv Try.prog ro h 228 (.pointer (some ⟨b, o, none⟩)) v = put ro h b o 1 v := stv_put tsz228
theorem xld229 {h : Heap} {b o : Nat} : ld Try.prog h 229 (.pointer (some ⟨b, o, none⟩)) = cell h b o := ld_sc tsz229 tag229
theorem xst229 {ro : Nat} {h : Heap} {b o : Nat} {v : Value} : stv Try.prog ro h 229 (.pointer (some ⟨b, o, none⟩)) v = put ro h b o 1 v := stv_put tsz229
theorem xld230 {h : Heap} {b o : Nat} : ld Try.prog h 230 (.pointer (some ⟨b, o, none⟩)) = cell h b o := ld_sc tsz230 tag230
theorem xst230 {ro : Nat} {h : Heap} {b o : Nat} {v : Value} : stv Try.prog ro h 230 (.pointer (some ⟨b, o, none⟩)) v = put ro h b o 1 v := stv_put tsz230
theorem xld231 {h : Heap} {b o : Nat} : ld Try.prog h 231 (.pointer (some ⟨b, o, none⟩)) = cell h b o := ld_sc tsz231 tag231
theorem xst231 {ro : Nat} {h : Heap} {b o : Nat} {v : Value} : stv Try.prog ro h 231 (.pointer (some ⟨b, o, none⟩)) v = put ro h b o 1 v := stv_put tsz231
theorem xld232 {h : Heap} {b o : Nat} : ld Try.prog h 232 (.pointer (some ⟨b, o, none⟩)) = cell h b o := ld_sc tsz232 tag232
theorem xst232 {ro : Nat} {h : Heap} {b o : Nat} {v : Value} : stv Try.prog ro h 232 (.pointer (some ⟨b, o, none⟩)) v = put ro h b o 1 v := stv_put tsz232
theorem xld233 {h : Heap} {b o : Nat} : ld Try.prog h 233 (.pointer (some ⟨b, o, none⟩)) = cell h b o := ld_sc tsz233 tag233
theorem xst233 {ro : Nat} {h : Heap} {b o : Nat} {v : Value} : stv Try.prog ro h 233 (.pointer (some ⟨b, o, none⟩)) v = put ro h b o 1 v := stv_put tsz233
theorem xld234 {h : Heap} {b o : Nat} : ld Try.prog h 234 (.pointer (some ⟨b, o, none⟩)) = cell h b o := ld_sc tsz234 tag234
theorem xst234 {ro : Nat} {h : Heap} {b o : Nat} {v : Value} : stv Try.prog ro h 234 (.pointer (some ⟨b, o, none⟩)) v = put ro h b o 1 v := stv_put tsz234
theorem xld235 {h : Heap} {b o : Nat} : ld Try.prog h 235 (.pointer (some ⟨b, o, none⟩)) = cell h b o := ld_sc tsz235 tag235
theorem xst235 {ro : Nat} {h : Heap} {b o : Nat} {v : Value} : stv Try.prog ro h 235 (.pointer (some ⟨b, o, none⟩)) v = put ro h b o 1 v := stv_put tsz235
theorem xld236 {h : Heap} {b o : Nat} : ld Try.prog h 236 (.pointer (some ⟨b, o, none⟩)) = cell h b o := ld_sc tsz236 tag236
theorem xst236 {ro : Nat} {h : Heap} {b o : Nat} {v : Value} : stv Try.prog ro h 236 (.pointer (some ⟨b, o, none⟩)) v = put ro h b o 1 v := stv_put tsz236
theorem xld237 {h : Heap} {b o : Nat} : ld Try.prog h 237 (.pointer (some ⟨b, o, none⟩)) = cell h b o := ld_sc tsz237 tag237
theorem xst237 {ro : Nat} {h : Heap} {b o : Nat} {v : Value} : stv Try.prog ro h 237 (.pointer (some ⟨b, o, none⟩)) v = put ro h b o 1 v := stv_put tsz237
theorem xld238 {h : Heap} {b o : Nat} : ld Try.prog h 238 (.pointer (some ⟨b, o, none⟩)) = cell h b o := ld_sc tsz238 tag238
theorem xst238 {ro : Nat} {h : Heap} {b o : Nat} {v : Value} : stv Try.prog ro h 238 (.pointer (some ⟨b, o, none⟩)) v = put ro h b o 1 v := stv_put tsz238
theorem xld239 {h : Heap} {b o : Nat} : ld Try.prog h 239 (.pointer (some ⟨b, o, none⟩)) = cell h b o := ld_sc tsz239 tag239
theorem xst239 {ro : Nat} {h : Heap} {b o : Nat} {v : Value} : stv Try.prog ro h 239 (.pointer (some ⟨b, o, none⟩)) v = put ro h b o 1 v := stv_put tsz239
theorem xld240 {h : Heap} {b o : Nat} : ld Try.prog h 240 (.pointer (some ⟨b, o, none⟩)) = cell h b o := ld_sc tsz240 tag240
theorem xst240 {ro : Nat} {h : Heap} {b o : Nat} {v : Value} : stv Try.prog ro h 240 (.pointer (some ⟨b, o, none⟩)) v = put ro h b o 1 v := stv_put tsz240
theorem xld241 {h : Heap} {b o : Nat} : ld Try.prog h 241 (.pointer (some ⟨b, o, none⟩)) = cell h b o := ld_sc tsz241 tag241
theorem xst241 {ro : Nat} {h : Heap} {b o : Nat} {v : Value} : stv Try.prog ro h 241 (.pointer (some ⟨b, o, none⟩)) v = put ro h b o 1 v := stv_put tsz241
theorem xld242 {h : Heap} {b o : Nat} : ld Try.prog h 242 (.pointer (some ⟨b, o, none⟩)) = cell h b o := ld_sc tsz242 tag242
theorem xst242 {ro : Nat} {h : Heap} {b o : Nat} {v : Value} : stv Try.prog ro h 242 (.pointer (some ⟨b, o, none⟩)) v = put ro h b o 1 v := stv_put tsz242
theorem xld243 {h : Heap} {b o : Nat} : ld Try.prog h 243 (.pointer (some ⟨b, o, none⟩)) = cell h b o := ld_sc tsz243 tag243
theorem xst243 {ro : Nat} {h : Heap} {b o : Nat} {v : Value} : stv Try.prog ro h 243 (.pointer (some ⟨b, o, none⟩)) v = put ro h b o 1 v := stv_put tsz243
theorem xld244 {h : Heap} {b o : Nat} : ld Try.prog h 244 (.pointer (some ⟨b, o, none⟩)) = cell h b o := ld_sc tsz244 tag244
theorem xst244 {ro : Nat} {h : Heap} {b o : Nat} {v : Value} : stv Try.prog ro h 244 (.pointer (some ⟨b, o, none⟩)) v = put ro h b o 1 v := stv_put tsz244
theorem xld245 {h : Heap} {b o : Nat} : ld Try.prog h 245 (.pointer (some ⟨b, o, none⟩)) = cell h b o := ld_sc tsz245 tag245
theorem xst245 {ro : Nat} {h : Heap} {b o : Nat} {v : Value} : stv Try.prog ro h 245 (.pointer (some ⟨b, o, none⟩)) v = put ro h b o 1 v := stv_put tsz245
theorem xld246 {h : Heap} {b o : Nat} : ld Try.prog h 246 (.pointer (some ⟨b, o, none⟩)) = cell h b o := ld_sc tsz246 tag246
theorem xst246 {ro : Nat} {h : Heap} {b o : Nat} {v : Value} : stv Try.prog ro h 246 (.pointer (some ⟨b, o, none⟩)) v = put ro h b o 1 v := stv_put tsz246
theorem xld247 {h : Heap} {b o : Nat} : ld Try.prog h 247 (.pointer (some ⟨b, o, none⟩)) = cell h b o := ld_sc tsz247 tag247
theorem xst247 {ro : Nat} {h : Heap} {b o : Nat} {v : Value} : stv Try.prog ro h 247 (.pointer (some ⟨b, o, none⟩)) v = put ro h b o 1 v := stv_put tsz247
theorem xld248 {h : Heap} {b o : Nat} : ld Try.prog h 248 (.pointer (some ⟨b, o, none⟩)) = cell h b o := ld_sc tsz248 tag248
theorem xst248 {ro : Nat} {h : Heap} {b o : Nat} {v : Value} : stv Try.prog ro h 248 (.pointer (some ⟨b, o, none⟩)) v = put ro h b o 1 v := stv_put tsz248
theorem xld249 {h : Heap} {b o : Nat} : ld Try.prog h 249 (.pointer (some ⟨b, o, none⟩)) = cell h b o := ld_sc tsz249 tag249
theorem xst249 {ro : Nat} {h : Heap} {b o : Nat} {v : Value} : stv Try.prog ro h 249 (.pointer (some ⟨b, o, none⟩)) v = put ro h b o 1 v := stv_put tsz249
theorem xld250 {h : Heap} {b o : Nat} : ld Try.prog h 250 (.pointer (some ⟨b, o, none⟩)) = cell h b o := ld_sc tsz250 tag250
theorem xst250 {ro : Nat} {h : Heap} {b o : Nat} {v : Value} : stv Try.prog ro h 250 (.pointer (some ⟨b, o, none⟩)) v = put ro h b o 1 v := stv_put tsz250
theorem xld251 {h : Heap} {b o : Nat} : ld Try.prog h 251 (.pointer (some ⟨b, o, none⟩)) = cell h b o := ld_sc tsz251 tag251
theorem xst251 {ro : Nat} {h : Heap} {b o : Nat} {v : Value} : stv Try.prog ro h 251 (.pointer (some ⟨b, o, none⟩)) v = put ro h b o 1 v := stv_put tsz251
theorem xld252 {h : Heap} {b o : Nat} : ld Try.prog h 252 (.pointer (some ⟨b, o, none⟩)) = cell h b o := ld_sc tsz252 tag252
theorem xst252 {ro : Nat} {h : Heap} {b o : Nat} {v : Value} : stv Try.prog ro h 252 (.pointer (some ⟨b, o, none⟩)) v = put ro h b o 1 v := stv_put tsz252
theorem xld253 {h : Heap} {b o : Nat} : ld Try.prog h 253 (.pointer (some ⟨b, o, none⟩)) = cell h b o := ld_sc tsz253 tag253
theorem xst253 {ro : Nat} {h : Heap} {b o : Nat} {v : Value} : stv Try.prog ro h 253 (.pointer (some ⟨b, o, none⟩)) v = put ro h b o 1 v := stv_put tsz253
theorem xld254 {h : Heap} {b o : Nat} : ld Try.prog h 254 (.pointer (some ⟨b, o, none⟩)) = cell h b o := ld_sc tsz254 tag254
theorem xst254 {ro : Nat} {h : Heap} {b o : Nat} {v : Value} : stv Try.prog ro h 254 (.pointer (some ⟨b, o, none⟩)) v = put ro h b o 1 v := stv_put tsz254
theorem xld255 {h : Heap} {b o : Nat} : ld Try.prog h 255 (.pointer (some ⟨b, o, none⟩)) = cell h b o := ld_sc tsz255 tag255
theorem xst255 {ro : Nat} {h : Heap} {b o : Nat} {v : Value} : stv Try.prog ro h 255 (.pointer (some ⟨b, o, none⟩)) v = put ro h b o 1 v := stv_put tsz255
theorem xld256 {h : Heap} {b o : Nat} : ld Try.prog h 256 (.pointer (some ⟨b, o, none⟩)) = cell h b o := ld_sc tsz256 tag256
theorem xst256 {ro : Nat} {h : Heap} {b o : Nat} {v : Value} : stv Try.prog ro h 256 (.pointer (some ⟨b, o, none⟩)) v = put ro h b o 1 v := stv_put tsz256
theorem xld257 {h : Heap} {b o : Nat} : ld Try.prog h 257 (.pointer (some ⟨b, o, none⟩)) = cell h b o := ld_sc tsz257 tag257
theorem xst257 {ro : Nat} {h : Heap} {b o : Nat} {v : Value} : stv Try.prog ro h 257 (.pointer (some ⟨b, o, none⟩)) v = put ro h b o 1 v := stv_put tsz257
theorem xld258 {h : Heap} {b o : Nat} : ld Try.prog h 258 (.pointer (some ⟨b, o, none⟩)) = cell h b o := ld_sc tsz258 tag258
theorem xst258 {ro : Nat} {h : Heap} {b o : Nat} {v : Value} : stv Try.prog ro h 258 (.pointer (some ⟨b, o, none⟩)) v = put ro h b o 1 v := stv_put tsz258
theorem xld259 {h : Heap} {b o : Nat} : ld Try.prog h 259 (.pointer (some ⟨b, o, none⟩)) = cell h b o := ld_sc tsz259 tag259
theorem xst259 {ro : Nat} {h : Heap} {b o : Nat} {v : Value} : stv Try.prog ro h 259 (.pointer (some ⟨b, o, none⟩)) v = put ro h b o 1 v := stv_put tsz259
theorem xld260 {h : Heap} {b o : Nat} : ld Try.prog h 260 (.pointer (some ⟨b, o, none⟩)) = cell h b o := ld_sc tsz260 tag260
theorem xst260 {ro : Nat} {h : Heap} {b o : Nat} {v : Value} : stv Try.prog ro h 260 (.pointer (some ⟨b, o, none⟩)) v = put ro h b o 1 v := stv_put tsz260
theorem xld261 {h : Heap} {b o : Nat} : ld Try.prog h 261 (.pointer (some ⟨b, o, none⟩)) = cell h b o := ld_sc tsz261 tag261
theorem xst261 {ro : Nat} {h : Heap} {b o : Nat} {v : Value} : stv Try.prog ro h 261 (.pointer (some ⟨b, o, none⟩)) v = put ro h b o 1 v := stv_put tsz261
theorem xld262 {h : Heap} {b o : Nat} : ld Try.prog h 262 (.pointer (some ⟨b, o, none⟩)) = cell h b o := ld_sc tsz262 tag262
theorem xst262 {ro : Nat} {h : Heap} {b o : Nat} {v : Value} : stv Try.prog ro h 262 (.pointer (some ⟨b, o, none⟩)) v = put ro h b o 1 v := stv_put tsz262
theorem xld264 {h : Heap} {b o : Nat} : ld Try.prog h 264 (.pointer (some ⟨b, o, none⟩)) = cell h b o := ld_sc tsz264 tag264
theorem xst264 {ro : Nat} {h : Heap} {b o : Nat} {v : Value} : stv Try.prog ro h 264 (.pointer (some ⟨b, o, none⟩)) v = put ro h b o 1 v := stv_put tsz264
theorem xld265 {h : Heap} {b o : Nat} : ld Try.prog h 265 (.pointer (some ⟨b, o, none⟩)) = cell h b o := ld_sc tsz265 tag265
theorem xst265 {ro : Nat} {h : Heap} {b o : Nat} {v : Value} : stv Try.prog ro h 265 (.pointer (some ⟨b, o, none⟩)) v = put ro h b o 1 v := stv_put tsz265
theorem xld266 {h : Heap} {b o : Nat} : ld Try.prog h 266 (.pointer (some ⟨b, o, none⟩)) = cell h b o := ld_sc tsz266 tag266
theorem xst266 {ro : Nat} {h : Heap} {b o : Nat} {v : Value} : stv Try.prog ro h 266 (.pointer (some ⟨b, o, none⟩)) v = put ro h b o 1 v := stv_put tsz266
theorem xld267 {h : Heap} {b o : Nat} : ld Try.prog h 267 (.pointer (some ⟨b, o, none⟩)) = cell h b o := ld_sc tsz267 tag267
theorem xst267 {ro : Nat} {h : Heap} {b o : Nat} {v : Value} : stv Try.prog ro h 267 (.pointer (some ⟨b, o, none⟩)) v = put ro h b o 1 v := stv_put tsz267
theorem xld269 {h : Heap} {b o : Nat} : ld Try.prog h 269 (.pointer (some ⟨b, o, none⟩)) = cell h b o := ld_sc tsz269 tag269
theorem xst269 {ro : Nat} {h : Heap} {b o : Nat} {v : Value} : stv Try.prog ro h 269 (.pointer (some ⟨b, o, none⟩)) v = put ro h b o 1 v := stv_put tsz269
theorem xld270 {h : Heap} {b o : Nat} : ld Try.prog h 270 (.pointer (some ⟨b, o, none⟩)) = cell h b o := ld_sc tsz270 tag270
theorem xst270 {ro : Nat} {h : Heap} {b o : Nat} {v : Value} : stv Try.prog ro h 270 (.pointer (some ⟨b, o, none⟩)) v = put ro h b o 1 v := stv_put tsz270
theorem xld271 {h : Heap} {b o : Nat} : ld Try.prog h 271 (.pointer (some ⟨b, o, none⟩)) = cell h b o := ld_sc tsz271 tag271
theorem xst271 {ro : Nat} {h : Heap} {b o : Nat} {v : Value} : stv Try.prog ro h 271 (.pointer (some ⟨b, o, none⟩)) v = put ro h b o 1 v := stv_put tsz271
theorem xld272 {h : Heap} {b o : Nat} : ld Try.prog h 272 (.pointer (some ⟨b, o, none⟩)) = cell h b o := ld_sc tsz272 tag272
theorem xst272 {ro : Nat} {h : Heap} {b o : Nat} {v : Value} : stv Try.prog ro h 272 (.pointer (some ⟨b, o, none⟩)) v = put ro h b o 1 v := stv_put tsz272
theorem xld273 {h : Heap} {b o : Nat} : ld Try.prog h 273 (.pointer (some ⟨b, o, none⟩)) = cell h b o := ld_sc tsz273 tag273
theorem xst273 {ro : Nat} {h : Heap} {b o : Nat} {v : Value} : stv Try.prog ro h 273 (.pointer (some ⟨b, o, none⟩)) v = put ro h b o 1 v := stv_put tsz273
theorem xld274 {h : Heap} {b o : Nat} : ld Try.prog h 274 (.pointer (some ⟨b, o, none⟩)) = cell h b o := ld_sc tsz274 tag274
theorem xst274 {ro : Nat} {h : Heap} {b o : Nat} {v : Value} : stv Try.prog ro h 274 (.pointer (some ⟨b, o, none⟩)) v = put ro h b o 1 v := stv_put tsz274
theorem xld275 {h : Heap} {b o : Nat} : ld Try.prog h 275 (.pointer (some ⟨b, o, none⟩)) = cell h b o := ld_sc tsz275 tag275
theorem xst275 {ro : Nat} {h : Heap} {b o : Nat} {v : Value} : stv Try.prog ro h 275 (.pointer (some ⟨b, o, none⟩)) v = put ro h b o 1 v := stv_put tsz275
theorem xld276 {h : Heap} {b o : Nat} : ld Try.prog h 276 (.pointer (some ⟨b, o, none⟩)) = cell h b o := ld_sc tsz276 tag276
theorem xst276 {ro : Nat} {h : Heap} {b o : Nat} {v : Value} : stv Try.prog ro h 276 (.pointer (some ⟨b, o, none⟩)) v = put ro h b o 1 v := stv_put tsz276
theorem xld277 {h : Heap} {b o : Nat} : ld Try.prog h 277 (.pointer (some ⟨b, o, none⟩)) = cell h b o := ld_sc tsz277 tag277
theorem xst277 {ro : Nat} {h : Heap} {b o : Nat} {v : Value} : stv Try.prog ro h 277 (.pointer (some ⟨b, o, none⟩)) v = put ro h b o 1 v := stv_put tsz277
theorem xld278 {h : Heap} {b o : Nat} : ld Try.prog h 278 (.pointer (some ⟨b, o, none⟩)) = cell h b o := ld_sc tsz278 tag278
theorem xst278 {ro : Nat} {h : Heap} {b o : Nat} {v : Value} : stv Try.prog ro h 278 (.pointer (some ⟨b, o, none⟩)) v = put ro h b o 1 v := stv_put tsz278
theorem xld279 {h : Heap} {b o : Nat} : ld Try.prog h 279 (.pointer (some ⟨b, o, none⟩)) = cell h b o := ld_sc tsz279 tag279
theorem xst279 {ro : Nat} {h : Heap} {b o : Nat} {v : Value} : stv Try.prog ro h 279 (.pointer (some ⟨b, o, none⟩)) v = put ro h b o 1 v := stv_put tsz279
theorem xld280 {h : Heap} {b o : Nat} : ld Try.prog h 280 (.pointer (some ⟨b, o, none⟩)) = cell h b o := ld_sc tsz280 tag280
theorem xst280 {ro : Nat} {h : Heap} {b o : Nat} {v : Value} : stv Try.prog ro h 280 (.pointer (some ⟨b, o, none⟩)) v = put ro h b o 1 v := stv_put tsz280
theorem xld281 {h : Heap} {b o : Nat} : ld Try.prog h 281 (.pointer (some ⟨b, o, none⟩)) = cell h b o := ld_sc tsz281 tag281
theorem xst281 {ro : Nat} {h : Heap} {b o : Nat} {v : Value} : stv Try.prog ro h 281 (.pointer (some ⟨b, o, none⟩)) v = put ro h b o 1 v := stv_put tsz281
theorem xld282 {h : Heap} {b o : Nat} : ld Try.prog h 282 (.pointer (some ⟨b, o, none⟩)) = cell h b o := ld_sc tsz282 tag282
theorem xst282 {ro : Nat} {h : Heap} {b o : Nat} {v : Value} : stv Try.prog ro h 282 (.pointer (some ⟨b, o, none⟩)) v = put ro h b o 1 v := stv_put tsz282
theorem xld283 {h : Heap} {b o : Nat} : ld Try.prog h 283 (.pointer (some ⟨b, o, none⟩)) = cell h b o := ld_sc tsz283 tag283
theorem xst283 {ro : Nat} {h : Heap} {b o : Nat} {v : Value} : stv Try.prog ro h 283 (.pointer (some ⟨b, o, none⟩)) v = put ro h b o 1 v := stv_put tsz283
theorem xld284 {h : Heap} {b o : Nat} : ld Try.prog h 284 (.pointer (some ⟨b, o, none⟩)) = cell h b o := ld_sc tsz284 tag284
theorem xst284 {ro : Nat} {h : Heap} {b o : Nat} {v : Value} : stv Try.prog ro h 284 (.pointer (some ⟨b, o, none⟩)) v = put ro h b o 1 v := stv_put tsz284
theorem xld285 {h : Heap} {b o : Nat} : ld Try.prog h 285 (.pointer (some ⟨b, o, none⟩)) = cell h b o := ld_sc tsz285 tag285
theorem xst285 {ro : Nat} {h : Heap} {b o : Nat} {v : Value} : stv Try.prog ro h 285 (.pointer (some ⟨b, o, none⟩)) v = put ro h b o 1 v := stv_put tsz285
theorem xld286 {h : Heap} {b o : Nat} : ld Try.prog h 286 (.pointer (some ⟨b, o, none⟩)) = cell h b o := ld_sc tsz286 tag286
theorem xst286 {ro : Nat} {h : Heap} {b o : Nat} {v : Value} : stv Try.prog ro h 286 (.pointer (some ⟨b, o, none⟩)) v = put ro h b o 1 v := stv_put tsz286
theorem xld287 {h : Heap} {b o : Nat} : ld Try.prog h 287 (.pointer (some ⟨b, o, none⟩)) = cell h b o := ld_sc tsz287 tag287
theorem xst287 {ro : Nat} {h : Heap} {b o : Nat} {v : Value} : stv Try.prog ro h 287 (.pointer (some ⟨b, o, none⟩)) v = put ro h b o 1 v := stv_put tsz287
theorem xld288 {h : Heap} {b o : Nat} : ld Try.prog h 288 (.pointer (some ⟨b, o, none⟩)) = cell h b o := ld_sc tsz288 tag288
theorem xst288 {ro : Nat} {h : Heap} {b o : Nat} {v : Value} : stv Try.prog ro h 288 (.pointer (some ⟨b, o, none⟩)) v = put ro h b o 1 v := stv_put tsz288
theorem xld289 {h : Heap} {b o : Nat} : ld Try.prog h 289 (.pointer (some ⟨b, o, none⟩)) = cell h b o := ld_sc tsz289 tag289
theorem xst289 {ro : Nat} {h : Heap} {b o : Nat} {v : Value} : stv Try.prog ro h 289 (.pointer (some ⟨b, o, none⟩)) v = put ro h b o 1 v := stv_put tsz289
theorem xld290 {h : Heap} {b o : Nat} : ld Try.prog h 290 (.pointer (some ⟨b, o, none⟩)) = cell h b o := ld_sc tsz290 tag290
theorem xst290 {ro : Nat} {h : Heap} {b o : Nat} {v : Value} : stv Try.prog ro h 290 (.pointer (some ⟨b, o, none⟩)) v = put ro h b o 1 v := stv_put tsz290
theorem xld291 {h : Heap} {b o : Nat} : ld Try.prog h 291 (.pointer (some ⟨b, o, none⟩)) = cell h b o := ld_sc tsz291 tag291
theorem xst291 {ro : Nat} {h : Heap} {b o : Nat} {v : Value} : stv Try.prog ro h 291 (.pointer (some ⟨b, o, none⟩)) v = put ro h b o 1 v := stv_put tsz291
theorem xld292 {h : Heap} {b o : Nat} : ld Try.prog h 292 (.pointer (some ⟨b, o, none⟩)) = cell h b o := ld_sc tsz292 tag292
theorem xst292 {ro : Nat} {h : Heap} {b o : Nat} {v : Value} : stv Try.prog ro h 292 (.pointer (some ⟨b, o, none⟩)) v = put ro h b o 1 v := stv_put tsz292
theorem xld293 {h : Heap} {b o : Nat} : ld Try.prog h 293 (.pointer (some ⟨b, o, none⟩)) = cell h b o := ld_sc tsz293 tag293
theorem xst293 {ro : Nat} {h : Heap} {b o : Nat} {v : Value} : stv Try.prog ro h 293 (.pointer (some ⟨b, o, none⟩)) v = put ro h b o 1 v := stv_put tsz293
theorem xld294 {h : Heap} {b o : Nat} : ld Try.prog h 294 (.pointer (some ⟨b, o, none⟩)) = cell h b o := ld_sc tsz294 tag294
theorem xst294 {ro : Nat} {h : Heap} {b o : Nat} {v : Value} : stv Try.prog ro h 294 (.pointer (some ⟨b, o, none⟩)) v = put ro h b o 1 v := stv_put tsz294
theorem xld295 {h : Heap} {b o : Nat} : ld Try.prog h 295 (.pointer (some ⟨b, o, none⟩)) = cell h b o := ld_sc tsz295 tag295
theorem xst295 {ro : Nat} {h : Heap} {b o : Nat} {v : Value} : stv Try.prog ro h 295 (.pointer (some ⟨b, o, none⟩)) v = put ro h b o 1 v := stv_put tsz295
theorem xld296 {h : Heap} {b o : Nat} : ld Try.prog h 296 (.pointer (some ⟨b, o, none⟩)) = cell h b o := ld_sc tsz296 tag296
theorem xst296 {ro : Nat} {h : Heap} {b o : Nat} {v : Value} : stv Try.prog ro h 296 (.pointer (some ⟨b, o, none⟩)) v = put ro h b o 1 v := stv_put tsz296
theorem xld297 {h : Heap} {b o : Nat} : ld Try.prog h 297 (.pointer (some ⟨b, o, none⟩)) = cell h b o := ld_sc tsz297 tag297
theorem xst297 {ro : Nat} {h : Heap} {b o : Nat} {v : Value} : stv Try.prog ro h 297 (.pointer (some ⟨b, o, none⟩)) v = put ro h b o 1 v := stv_put tsz297
theorem xld298 {h : Heap} {b o : Nat} : ld Try.prog h 298 (.pointer (some ⟨b, o, none⟩)) = cell h b o := ld_sc tsz298 tag298
theorem xst298 {ro : Nat} {h : Heap} {b o : Nat} {v : Value} : stv Try.prog ro h 298 (.pointer (some ⟨b, o, none⟩)) v = put ro h b o 1 v := stv_put tsz298
theorem xld299 {h : Heap} {b o : Nat} : ld Try.prog h 299 (.pointer (some ⟨b, o, none⟩)) = cell h b o := ld_sc tsz299 tag299
theorem xst299 {ro : Nat} {h : Heap} {b o : Nat} {v : Value} : stv Try.prog ro h 299 (.pointer (some ⟨b, o, none⟩)) v = put ro h b o 1 v := stv_put tsz299
theorem xld300 {h : Heap} {b o : Nat} : ld Try.prog h 300 (.pointer (some ⟨b, o, none⟩)) = cell h b o := ld_sc tsz300 tag300
theorem xst300 {ro : Nat} {h : Heap} {b o : Nat} {v : Value} : stv Try.prog ro h 300 (.pointer (some ⟨b, o, none⟩)) v = put ro h b o 1 v := stv_put tsz300
theorem xld301 {h : Heap} {b o : Nat} : ld Try.prog h 301 (.pointer (some ⟨b, o, none⟩)) = cell h b o := ld_sc tsz301 tag301
theorem xst301 {ro : Nat} {h : Heap} {b o : Nat} {v : Value} : stv Try.prog ro h 301 (.pointer (some ⟨b, o, none⟩)) v = put ro h b o 1 v := stv_put tsz301
theorem xld303 {h : Heap} {b o : Nat} : ld Try.prog h 303 (.pointer (some ⟨b, o, none⟩)) = cell h b o := ld_sc tsz303 tag303
theorem xst303 {ro : Nat} {h : Heap} {b o : Nat} {v : Value} : stv Try.prog ro h 303 (.pointer (some ⟨b, o, none⟩)) v = put ro h b o 1 v := stv_put tsz303
theorem xld304 {h : Heap} {b o : Nat} : ld Try.prog h 304 (.pointer (some ⟨b, o, none⟩)) = cell h b o := ld_sc tsz304 tag304
theorem xst304 {ro : Nat} {h : Heap} {b o : Nat} {v : Value} : stv Try.prog ro h 304 (.pointer (some ⟨b, o, none⟩)) v = put ro h b o 1 v := stv_put tsz304
theorem xfad305_0 {b o : Nat} : fadr Try.prog 305 (.pointer (some ⟨b, o, none⟩)) 0 = some (.pointer (some ⟨b, o + 0, none⟩)) := fadr_of tfi305_0 (by decide)
theorem xfld305_0 {cs : List Value} : fld Try.prog 305 (.agg ⟨cs⟩) 0 = cs[0]? := fld_sc tfi305_0 tag17
theorem xfad305_1 {b o : Nat} : fadr Try.prog 305 (.pointer (some ⟨b, o, none⟩)) 1 = some (.pointer (some ⟨b, o + 1, none⟩)) := fadr_of tfi305_1 (by decide)
theorem xfld305_1 {cs : List Value} : fld Try.prog 305 (.agg ⟨cs⟩) 1 = cs[1]? := fld_sc tfi305_1 tag17
theorem xfad305_2 {b o : Nat} : fadr Try.prog 305 (.pointer (some ⟨b, o, none⟩)) 2 = some (.pointer (some ⟨b, o + 2, none⟩)) := fadr_of tfi305_2 (by decide)
theorem xfld305_2 {cs : List Value} : fld Try.prog 305 (.agg ⟨cs⟩) 2 = cs[2]? := fld_sc tfi305_2 tag17
theorem xfad305_3 {b o : Nat} : fadr Try.prog 305 (.pointer (some ⟨b, o, none⟩)) 3 = some (.pointer (some ⟨b, o + 3, none⟩)) := fadr_of tfi305_3 (by decide)
theorem xfld305_3 {cs : List Value} : fld Try.prog 305 (.agg ⟨cs⟩) 3 = cs[3]? := fld_sc tfi305_3 tag9
theorem xld305 {h : Heap} {b o : Nat} : ld Try.prog h 305 (.pointer (some ⟨b, o, none⟩)) = cells h b o 4 := ld_agg tsz305 tag305
theorem xst305 {ro : Nat} {h : Heap} {b o : Nat} {v : Value} : stv Try.prog ro h 305 (.pointer (some ⟨b, o, none⟩)) v = put ro h b o 4 v := stv_put tsz305
theorem xfad306_0 {b o : Nat} : fadr Try.prog 306 (.pointer (some ⟨b, o, none⟩)) 0 = some (.pointer (some ⟨b, o + 0, none⟩)) := fadr_of tfi306_0 (by decide)
theorem xfld306_0 {cs : List Value} : fld Try.prog 306 (.agg ⟨cs⟩) 0 = cs[0]? := fld_sc tfi306_0 tag17
theorem xfad306_1 {b o : Nat} : fadr Try.prog 306 (.pointer (some ⟨b, o, none⟩)) 1 = some (.pointer (some ⟨b, o + 1, none⟩)) := fadr_of tfi306_1 (by decide)
theorem xfld306_1 {cs : List Value} : fld Try.prog 306 (.agg ⟨cs⟩) 1 = cs[1]? := fld_sc tfi306_1 tag17
theorem xfad306_2 {b o : Nat} : fadr Try.prog 306 (.pointer (some ⟨b, o, none⟩)) 2 = some (.pointer (some ⟨b, o + 2, none⟩)) := fadr_of tfi306_2 (by decide)
theorem xfld306_2 {cs : List Value} : fld Try.prog 306 (.agg ⟨cs⟩) 2 = cs[2]? := fld_sc tfi306_2 tag17
theorem xfad306_3 {b o : Nat} : fadr Try.prog 306 (.pointer (some ⟨b, o, none⟩)) 3 = some (.pointer (some ⟨b, o + 3, none⟩)) := fadr_of tfi306_3 (by decide)
theorem xfld306_3 {cs : List Value} : fld Try.prog 306 (.agg ⟨cs⟩) 3 = cs[3]? := fld_sc tfi306_3 tag9
theorem xld306 {h : Heap} {b o : Nat} : ld Try.prog h 306 (.pointer (some ⟨b, o, none⟩)) = cells h b o 4 := ld_agg tsz306 tag306
theorem xst306 {ro : Nat} {h : Heap} {b o : Nat} {v : Value} : stv Try.prog ro h 306 (.pointer (some ⟨b, o, none⟩)) v = put ro h b o 4 v := stv_put tsz306
theorem xld307 {h : Heap} {b o : Nat} : ld Try.prog h 307 (.pointer (some ⟨b, o, none⟩)) = cells h b o 0 := ld_agg tsz307 tag307
theorem xst307 {ro : Nat} {h : Heap} {b o : Nat} {v : Value} : stv Try.prog ro h 307 (.pointer (some ⟨b, o, none⟩)) v = put ro h b o 0 v := stv_put tsz307
theorem xfld308_0 {cs : List Value} : fld Try.prog 308 (.agg ⟨cs⟩) 0 = some (.agg ⟨(cs.drop 0).take 0⟩) := fld_agg tfi308_0 tag307
theorem xld308 {h : Heap} {b o : Nat} : ld Try.prog h 308 (.pointer (some ⟨b, o, none⟩)) = cells h b o 0 := ld_agg tsz308 tag308
theorem xst308 {ro : Nat} {h : Heap} {b o : Nat} {v : Value} : stv Try.prog ro h 308 (.pointer (some ⟨b, o, none⟩)) v = put ro h b o 0 v := stv_put tsz308
theorem xfld309_0 {cs : List Value} : fld Try.prog 309 (.agg ⟨cs⟩) 0 = some (.agg ⟨(cs.drop 0).take 0⟩) := fld_agg tfi309_0 tag307
theorem xld309 {h : Heap} {b o : Nat} : ld Try.prog h 309 (.pointer (some ⟨b, o, none⟩)) = cells h b o 0 := ld_agg tsz309 tag309
theorem xst309 {ro : Nat} {h : Heap} {b o : Nat} {v : Value} : stv Try.prog ro h 309 (.pointer (some ⟨b, o, none⟩)) v = put ro h b o 0 v := stv_put tsz309
theorem xld310 {h : Heap} {b o : Nat} : ld Try.prog h 310 (.pointer (some ⟨b, o, none⟩)) = cell h b o := ld_sc tsz310 tag310
theorem xst310 {ro : Nat} {h : Heap} {b o : Nat} {v : Value} : stv Try.prog ro h 310 (.pointer (some ⟨b, o, none⟩)) v = put ro h b o 1 v := stv_put tsz310
theorem xld311 {h : Heap} {b o : Nat} : ld Try.prog h 311 (.pointer (some ⟨b, o, none⟩)) = cell h b o := ld_sc tsz311 tag311
theorem xst311 {ro : Nat} {h : Heap} {b o : Nat} {v : Value} : stv Try.prog ro h 311 (.pointer (some ⟨b, o, none⟩)) v = put ro h b o 1 v := stv_put tsz311
theorem xld312 {h : Heap} {b o : Nat} : ld Try.prog h 312 (.pointer (some ⟨b, o, none⟩)) = cell h b o := ld_sc tsz312 tag312
theorem xst312 {ro : Nat} {h : Heap} {b o : Nat} {v : Value} : stv Try.prog ro h 312 (.pointer (some ⟨b, o, none⟩)) v = put ro h b o 1 v := stv_put tsz312
theorem xld313 {h : Heap} {b o : Nat} : ld Try.prog h 313 (.pointer (some ⟨b, o, none⟩)) = cell h b o := ld_sc tsz313 tag313
theorem xst313 {ro : Nat} {h : Heap} {b o : Nat} {v : Value} : stv Try.prog ro h 313 (.pointer (some ⟨b, o, none⟩)) v = put ro h b o 1 v := stv_put tsz313
theorem xld314 {h : Heap} {b o : Nat} : ld Try.prog h 314 (.pointer (some ⟨b, o, none⟩)) = cell h b o := ld_sc tsz314 tag314
theorem xst314 {ro : Nat} {h : Heap} {b o : Nat} {v : Value} : stv Try.prog ro h 314 (.pointer (some ⟨b, o, none⟩)) v = put ro h b o 1 v := stv_put tsz314
theorem xld315 {h : Heap} {b o : Nat} : ld Try.prog h 315 (.pointer (some ⟨b, o, none⟩)) = cell h b o := ld_sc tsz315 tag315
theorem xst315 {ro : Nat} {h : Heap} {b o : Nat} {v : Value} : stv Try.prog ro h 315 (.pointer (some ⟨b, o, none⟩)) v = put ro h b o 1 v := stv_put tsz315
theorem xfad316_0 {b o : Nat} : fadr Try.prog 316 (.pointer (some ⟨b, o, none⟩)) 0 = some (.pointer (some ⟨b, o + 0, none⟩)) := fadr_of tfi316_0 (by decide)
theorem xfld316_0 {cs : List Value} : fld Try.prog 316 (.agg ⟨cs⟩) 0 = cs[0]? := fld_sc tfi316_0 tag12
theorem xfad316_1 {b o : Nat} : fadr Try.prog 316 (.pointer (some ⟨b, o, none⟩)) 1 = some (.pointer (some ⟨b, o + 1, none⟩)) := fadr_of tfi316_1 (by decide)
theorem xfld316_1 {cs : List Value} : fld Try.prog 316 (.agg ⟨cs⟩) 1 = cs[1]? := fld_sc tfi316_1 tag12
theorem xfad316_2 {b o : Nat} : fadr Try.prog 316 (.pointer (some ⟨b, o, none⟩)) 2 = some (.pointer (some ⟨b, o + 2, none⟩)) := fadr_of tfi316_2 (by decide)
theorem xfld316_2 {cs : List Value} : fld Try.prog 316 (.agg ⟨cs⟩) 2 = cs[2]? := fld_sc tfi316_2 tag208
theorem xfad316_3 {b o : Nat} : fadr Try.prog 316 (.pointer (some ⟨b, o, none⟩)) 3 = some (.pointer (some ⟨b, o + 3, none⟩)) := fadr_of tfi316_3 (by decide)
theorem xfld316_3 {cs : List Value} : fld Try.prog 316 (.agg ⟨cs⟩) 3 = cs[3]? := fld_sc tfi316_3 tag311
theorem xfad316_4 {b o : Nat} : fadr Try.prog 316 (.pointer (some ⟨b, o, none⟩)) 4 = some (.pointer (some ⟨b, o + 4, none⟩)) := fadr_of tfi316_4 (by decide)
theorem xfld316_4 {cs : List Value} : fld Try.prog 316 (.agg ⟨cs⟩) 4 = cs[4]? := fld_sc tfi316_4 tag5
theorem xfad316_5 {b o : Nat} : fadr Try.prog 316 (.pointer (some ⟨b, o, none⟩)) 5 = some (.pointer (some ⟨b, o + 5, none⟩)) := fadr_of tfi316_5 (by decide)
theorem xfld316_5 {cs : List Value} : fld Try.prog 316 (.agg ⟨cs⟩) 5 = cs[5]? := fld_sc tfi316_5 tag5
theorem xfad316_6 {b o : Nat} : fadr Try.prog 316 (.pointer (some ⟨b, o, none⟩)) 6 = some (.pointer (some ⟨b, o + 6, none⟩)) := fadr_of tfi316_6 (by decide)
theorem xfld316_6 {cs : List Value} : fld Try.prog 316 (.agg ⟨cs⟩) 6 = cs[6]? := fld_sc tfi316_6 tag312
theorem xfad316_7 {b o : Nat} : fadr Try.prog 316 (.pointer (some ⟨b, o, none⟩)) 7 = some (.pointer (some ⟨b, o + 7, none⟩)) := fadr_of tfi316_7 (by decide)
theorem xfld316_7 {cs : List Value} : fld Try.prog 316 (.agg ⟨cs⟩) 7 = cs[7]? := fld_sc tfi316_7 tag313
theorem xfad316_8 {b o : Nat} : fadr Try.prog 316 (.pointer (some ⟨b, o, none⟩)) 8 = some (.pointer (some ⟨b, o + 8, none⟩)) := fadr_of tfi316_8 (by decide)
theorem xfld316_8 {cs : List Value} : fld Try.prog 316 (.agg ⟨cs⟩) 8 = cs[8]? := fld_sc tfi316_8 tag233
theorem xfad316_9 {b o : Nat} : fadr Try.prog 316 (.pointer (some ⟨b, o, none⟩)) 9 = some (.pointer (some ⟨b, o + 9, none⟩)) := fadr_of tfi316_9 (by decide)
theorem xfld316_9 {cs : List Value} : fld Try.prog 316 (.agg ⟨cs⟩) 9 = cs[9]? := fld_sc tfi316_9 tag314
theorem xfad316_10 {b o : Nat} : fadr Try.prog 316 (.pointer (some ⟨b, o, none⟩)) 10 = some (.pointer (some ⟨b, o + 10, none⟩)) := fadr_of tfi316_10 (by decide)
theorem xfld316_10 {cs : List Value} : fld Try.prog 316 (.agg ⟨cs⟩) 10 = cs[10]? := fld_sc tfi316_10 tag315
theorem xld316 {h : Heap} {b o : Nat} : ld Try.prog h 316 (.pointer (some ⟨b, o, none⟩)) = cells h b o 11 := ld_agg tsz316 tag316
theorem xst316 {ro : Nat} {h : Heap} {b o : Nat} {v : Value} : stv Try.prog ro h 316 (.pointer (some ⟨b, o, none⟩)) v = put ro h b o 11 v := stv_put tsz316
theorem xfad317_0 {b o : Nat} : fadr Try.prog 317 (.pointer (some ⟨b, o, none⟩)) 0 = some (.pointer (some ⟨b, o + 0, none⟩)) := fadr_of tfi317_0 (by decide)
theorem xfld317_0 {cs : List Value} : fld Try.prog 317 (.agg ⟨cs⟩) 0 = cs[0]? := fld_sc tfi317_0 tag12
theorem xfad317_1 {b o : Nat} : fadr Try.prog 317 (.pointer (some ⟨b, o, none⟩)) 1 = some (.pointer (some ⟨b, o + 1, none⟩)) := fadr_of tfi317_1 (by decide)
theorem xfld317_1 {cs : List Value} : fld Try.prog 317 (.agg ⟨cs⟩) 1 = cs[1]? := fld_sc tfi317_1 tag12
theorem xfad317_2 {b o : Nat} : fadr Try.prog 317 (.pointer (some ⟨b, o, none⟩)) 2 = some (.pointer (some ⟨b, o + 2, none⟩)) := fadr_of tfi317_2 (by decide)
theorem xfld317_2 {cs : List Value} : fld Try.prog 317 (.agg ⟨cs⟩) 2 = cs[2]? := fld_sc tfi317_2 tag208
theorem xfad317_3 {b o : Nat} : fadr Try.prog 317 (.pointer (some ⟨b, o, none⟩)) 3 = some (.pointer (some ⟨b, o + 3, none⟩)) := fadr_of tfi317_3 (by decide)
theorem xfld317_3 {cs : List Value} : fld Try.prog 317 (.agg ⟨cs⟩) 3 = cs[3]? := fld_sc tfi317_3 tag311
theorem xfad317_4 {b o : Nat} : fadr Try.prog 317 (.pointer (some ⟨b, o, none⟩)) 4 = some (.pointer (some ⟨b, o + 4, none⟩)) := fadr_of tfi317_4 (by decide)
theorem xfld317_4 {cs : List Value} : fld Try.prog 317 (.agg ⟨cs⟩) 4 = cs[4]? := fld_sc tfi317_4 tag5
theorem xfad317_5 {b o : Nat} : fadr Try.prog 317 (.pointer (some ⟨b, o, none⟩)) 5 = some (.pointer (some ⟨b, o + 5, none⟩)) := fadr_of tfi317_5 (by decide)
theorem xfld317_5 {cs : List Value} : fld Try.prog 317 (.agg ⟨cs⟩) 5 = cs[5]? := fld_sc tfi317_5 tag5
theorem xfad317_6 {b o : Nat} : fadr Try.prog 317 (.pointer (some ⟨b, o, none⟩)) 6 = some (.pointer (some ⟨b, o + 6, none⟩)) := fadr_of tfi317_6 (by decide)
theorem xfld317_6 {cs : List Value} : fld Try.prog 317 (.agg ⟨cs⟩) 6 = cs[6]? := fld_sc tfi317_6 tag312
theorem xfad317_7 {b o : Nat} : fadr Try.prog 317 (.pointer (some ⟨b, o, none⟩)) 7 = some (.pointer (some ⟨b, o + 7, none⟩)) := fadr_of tfi317_7 (by decide)
theorem xfld317_7 {cs : List Value} : fld Try.prog 317 (.agg ⟨cs⟩) 7 = cs[7]? := fld_sc tfi317_7 tag313
theorem xfad317_8 {b o : Nat} : fadr Try.prog 317 (.pointer (some ⟨b, o, none⟩)) 8 = some (.pointer (some ⟨b, o + 8, none⟩)) := fadr_of tfi317_8 (by decide)
theorem xfld317_8 {cs : List Value} : fld Try.prog 317 (.agg ⟨cs⟩) 8 = cs[8]? := fld_sc tfi317_8 tag233
theorem xfad317_9 {b o : Nat} : fadr Try.prog 317 (.pointer (some ⟨b, o, none⟩)) 9 = some (.pointer (some ⟨b, o + 9, none⟩)) := fadr_of tfi317_9 (by decide)
theorem xfld317_9 {cs : List Value} : fld Try.prog 317 (.agg ⟨cs⟩) 9 = cs[9]? := fld_sc tfi317_9 tag314
theorem xfad317_10 {b o : Nat} : fadr Try.prog 317 (.pointer (some ⟨b, o, none⟩)) 10 = some (.pointer (some ⟨b, o + 10, none⟩)) := fadr_of tfi317_10 (by decide)
theorem xfld317_10 {cs : List Value} : fld Try.prog 317 (.agg ⟨cs⟩) 10 = cs[10]? := fld_sc tfi317_10 tag315
theorem xld317 {h : Heap} {b o : Nat} : ld Try.prog h 317 (.pointer (some ⟨b, o, none⟩)) = cells h b o 11 := ld_agg tsz317 tag317
theorem xst317 {ro : Nat} {h : Heap} {b o : Nat} {v : Value} : stv Try.prog ro h 317 (.pointer (some ⟨b, o, none⟩)) v = put ro h b o 11 v := stv_put tsz317
theorem xbls22_0 {h : Heap} : bldS Try.prog h 22 0 [] = some (.slice (some ⟨h.length, 0, none⟩) 0 0, h ++ [⟨5, []⟩]) := bldS_nil tel22 tsz5 tze5
theorem xbls22_1 {h : Heap} {v : Value} (hl : (cellsOf v).length = 1) (h1 : (cellsOf v).all one = true) : bldS Try.prog h 22 1 [(0, v)] = some (.slice (some ⟨h.length, 0, none⟩) 1 1, h ++ [⟨5, cellsOf v⟩]) := bldS_one tel22 tsz5 tze5 rfl (by decide) hl h1
theorem xbls24_0 {h : Heap} : bldS Try.prog h 24 0 [] = some (.slice (some ⟨h.length, 0, none⟩) 0 0, h ++ [⟨29, []⟩]) := bldS_nil tel24 tsz29 tze29
theorem xbls24_1 {h : Heap} {v : Value} (hl : (cellsOf v).length = 1) (h1 : (cellsOf v).all one = true) : bldS Try.prog h 24 1 [(0, v)] = some (.slice (some ⟨h.length, 0, none⟩) 1 1, h ++ [⟨29, cellsOf v⟩]) := bldS_one tel24 tsz29 tze29 rfl (by decide) hl h1
theorem xbls32_0 {h : Heap} : bldS Try.prog h 32 0 [] = some (.slice (some ⟨h.length, 0, none⟩) 0 0, h ++ [⟨2, []⟩]) := bldS_nil tel32 tsz2 tze2
theorem xbls32_1 {h : Heap} {v : Value} (hl : (cellsOf v).length = 1) (h1 : (cellsOf v).all one = true) : bldS Try.prog h 32 1 [(0, v)] = some (.slice (some ⟨h.length, 0, none⟩) 1 1, h ++ [⟨2, cellsOf v⟩]) := bldS_one tel32 tsz2 tze2 rfl (by decide) hl h1
theorem xbls36_0 {h : Heap} : bldS Try.prog h 36 0 [] = some (.slice (some ⟨h.length, 0, none⟩) 0 0, h ++ [⟨44, []⟩]) := bldS_nil tel36 tsz44 tze44
theorem xbls36_1 {h : Heap} {v : Value} (hl : (cellsOf v).length = 1) (h1 : (cellsOf v).all one = true) : bldS Try.prog h 36 1 [(0, v)] = some (.slice (some ⟨h.length, 0, none⟩) 1 1, h ++ [⟨44, cellsOf v⟩]) := bldS_one tel36 tsz44 tze44 rfl (by decide) hl h1
theorem xbls44_0 {h : Heap} : bldS Try.prog h 44 0 [] = some (.slice (some ⟨h.length, 0, none⟩) 0 0, h ++ [⟨46, []⟩]) := bldS_nil tel44 tsz46 tze46
theorem xbls44_1 {h : Heap} {v : Value} (hl : (cellsOf v).length = 1) (h1 : (cellsOf v).all one = true) : bldS Try.prog h 44 1 [(0, v)] = some (.slice (some ⟨h.length, 0, none⟩) 1 1, h ++ [⟨46, cellsOf v⟩]) := bldS_one tel44 tsz46 tze46 rfl (by decide) hl h1
theorem xbls54_0 {h : Heap} : bldS Try.prog h 54 0 [] = some (.slice (some ⟨h.length, 0, none⟩) 0 0, h ++ [⟨126, []⟩]) := bldS_nil tel54 tsz126 tze126
theorem xbls54_1 {h : Heap} {v : Value} (hl : (cellsOf v).length = 2) (h1 : (cellsOf v).all one = true) : bldS Try.prog h 54 1 [(0, v)] = some (.slice (some ⟨h.length, 0, none⟩) 1 1, h ++ [⟨126, cellsOf v⟩]) := bldS_one tel54 tsz126 tze126 rfl (by decide) hl h1
theorem xbls64_0 {h : Heap} : bldS Try.prog h 64 0 [] = some (.slice (some ⟨h.length, 0, none⟩) 0 0, h ++ [⟨79, []⟩]) := bldS_nil tel64 tsz79 tze79
theorem xbls64_1 {h : Heap} {v : Value} (hl : (cellsOf v).length = 2) (h1 : (cellsOf v).all one = true) : bldS Try.prog h 64 1 [(0, v)] = some (.slice (some ⟨h.length, 0, none⟩) 1 1, h ++ [⟨79, cellsOf v⟩]) := bldS_one tel64 tsz79 tze79 rfl (by decide) hl h1
theorem xbls108_0 {h : Heap} : bldS Try.prog h 108 0 [] = some (.slice (some ⟨h.length, 0, none⟩) 0 0, h ++ [⟨107, []⟩]) := bldS_nil tel108 tsz107 tze107
theorem xbls108_1 {h : Heap} {v : Value} (hl : (cellsOf v).length = 4) (h1 : (cellsOf v).all one = true) : bldS Try.prog h 108 1 [(0, v)] = some (.slice (some ⟨h.length, 0, none⟩) 1 1, h ++ [⟨107, cellsOf v⟩]) := bldS_one tel108 tsz107 tze107 rfl (by decide) hl h1
theorem xbls200_0 {h : Heap} : bldS Try.prog h 200 0 [] = some (.slice (some ⟨h.length, 0, none⟩) 0 0, h ++ [⟨38, []⟩]) := bldS_nil tel200 tsz38 tze38
theorem xbls200_1 {h : Heap} {v : Value} (hl : (cellsOf v).length = 1) (h1 : (cellsOf v).all one = true) : bldS Try.prog h 200 1 [(0, v)] = some (.slice (some ⟨h.length, 0, none⟩) 1 1, h ++ [⟨38, cellsOf v⟩]) := bldS_one tel200 tsz38 tze38 rfl (by decide) hl h1
theorem xbld62_0_1 {v0 v1 : Value} (h0 : cellsOf v0 = [v0]) (h1 : cellsOf v1 = [v1]) : bld Try.prog 62 [(0, v0), (1, v1)] = some (.agg ⟨[v0, v1]⟩) := by
  simp only [bld, tze62, tpl62, Option.bind_some, lay, cellsOf_agg, h0, h1, List.getElem?_cons_zero, List.getElem?_cons_succ, List.length_cons, List.length_nil, ne_eq, not_true_eq_false, false_or, Nat.reduceAdd, Nat.reduceLeDiff, Nat.reduceGT, gt_iff_lt, Nat.reduceLT, Nat.lt_irrefl, if_false, Nat.not_lt_zero]
  simp [splice]
theorem xbld94_0_1_2 {v0 v1 v2 : Value} (h0 : cellsOf v0 = [v0]) (h1 : cellsOf v1 = [v1]) (h2 : cellsOf v2 = [v2]) : bld Try.prog 94 [(0, v0), (1, v1), (2, v2)] = some (.agg ⟨[v0, v1, v2]⟩) := by
  simp only [bld, tze94, tpl94, Option.bind_some, lay, cellsOf_agg, h0, h1, h2, List.getElem?_cons_zero, List.getElem?_cons_succ, List.length_cons, List.length_nil, ne_eq, not_true_eq_false, false_or, Nat.reduceAdd, Nat.reduceLeDiff, Nat.reduceGT, gt_iff_lt, Nat.reduceLT, Nat.lt_irrefl, if_false, Nat.not_lt_zero]
  simp [splice]
theorem xbld126_0_1 {v0 v1 : Value} (h0 : cellsOf v0 = [v0]) (h1 : cellsOf v1 = [v1]) : bld Try.prog 126 [(0, v0), (1, v1)] = some (.agg ⟨[v0, v1]⟩) := by
  simp only [bld, tze126, tpl126, Option.bind_some, lay, cellsOf_agg, h0, h1, List.getElem?_cons_zero, List.getElem?_cons_succ, List.length_cons, List.length_nil, ne_eq, not_true_eq_false, false_or, Nat.reduceAdd, Nat.reduceLeDiff, Nat.reduceGT, gt_iff_lt, Nat.reduceLT, Nat.lt_irrefl, if_false, Nat.not_lt_zero]
  simp [splice]
theorem xbld62_0 {v0 : Value} (h0 : cellsOf v0 = [v0]) : bld Try.prog 62 [(0, v0)] = some (.agg ⟨[v0, .int .i64 0]⟩) := by
  simp only [bld, tze62, tpl62, Option.bind_some, lay, cellsOf_agg, h0, List.getElem?_cons_zero, List.getElem?_cons_succ, List.length_cons, List.length_nil, ne_eq, not_true_eq_false, false_or, Nat.reduceAdd, Nat.reduceLeDiff, Nat.reduceGT, gt_iff_lt, Nat.reduceLT, Nat.lt_irrefl, if_false, Nat.not_lt_zero]
  simp [splice]
theorem xbld126  : bld Try.prog 126 [] = some (.agg ⟨[.int .i64 0, .int .i64 0]⟩) := by
  simp only [bld, tze126, tpl126, Option.bind_some, lay, cellsOf_agg, List.getElem?_cons_zero, List.getElem?_cons_succ, List.length_cons, List.length_nil, ne_eq, not_true_eq_false, false_or, Nat.reduceAdd, Nat.reduceLeDiff, Nat.reduceGT, gt_iff_lt, Nat.reduceLT, Nat.lt_irrefl, if_false, Nat.not_lt_zero]
  simp [splice]
theorem xbld126_0 {v0 : Value} (h0 : cellsOf v0 = [v0]) : bld Try.prog 126 [(0, v0)] = some (.agg ⟨[v0, .int .i64 0]⟩) := by
  simp only [bld, tze126, tpl126, Option.bind_some, lay, cellsOf_agg, h0, List.getElem?_cons_zero, List.getElem?_cons_succ, List.length_cons, List.length_nil, ne_eq, not_true_eq_false, false_or, Nat.reduceAdd, Nat.reduceLeDiff, Nat.reduceGT, gt_iff_lt, Nat.reduceLT, Nat.lt_irrefl, if_false, Nat.not_lt_zero]
  simp [splice]
theorem xbld38  : bld Try.prog 38 [] = some (.agg ⟨[.slice none 0 0]⟩) := by
  simp only [bld, tze38, tpl38, Option.bind_some, lay, cellsOf_agg, List.getElem?_cons_zero, List.getElem?_cons_succ, List.length_cons, List.length_nil, ne_eq, not_true_eq_false, false_or, Nat.reduceAdd, Nat.reduceLeDiff, Nat.reduceGT, gt_iff_lt, Nat.reduceLT, Nat.lt_irrefl, if_false, Nat.not_lt_zero]
  simp [splice]
theorem xbld166  : bld Try.prog 166 [] = some (.agg ⟨[.pointer none, .slice none 0 0]⟩) := by
  simp only [bld, tze166, tpl166, Option.bind_some, lay, cellsOf_agg, List.getElem?_cons_zero, List.getElem?_cons_succ, List.length_cons, List.length_nil, ne_eq, not_true_eq_false, false_or, Nat.reduceAdd, Nat.reduceLeDiff, Nat.reduceGT, gt_iff_lt, Nat.reduceLT, Nat.lt_irrefl, if_false, Nat.not_lt_zero]
  simp [splice]
theorem xbld66  : bld Try.prog 66 [] = some (.agg ⟨[.int .i64 0, .slice none 0 0]⟩) := by
  simp only [bld, tze66, tpl66, Option.bind_some, lay, cellsOf_agg, List.getElem?_cons_zero, List.getElem?_cons_succ, List.length_cons, List.length_nil, ne_eq, not_true_eq_false, false_or, Nat.reduceAdd, Nat.reduceLeDiff, Nat.reduceGT, gt_iff_lt, Nat.reduceLT, Nat.lt_irrefl, if_false, Nat.not_lt_zero]
  simp [splice]
theorem xbld66_0 {v0 : Value} (h0 : cellsOf v0 = [v0]) : bld Try.prog 66 [(0, v0)] = some (.agg ⟨[v0, .slice none 0 0]⟩) := by
  simp only [bld, tze66, tpl66, Option.bind_some, lay, cellsOf_agg, h0, List.getElem?_cons_zero, List.getElem?_cons_succ, List.length_cons, List.length_nil, ne_eq, not_true_eq_false, false_or, Nat.reduceAdd, Nat.reduceLeDiff, Nat.reduceGT, gt_iff_lt, Nat.reduceLT, Nat.lt_irrefl, if_false, Nat.not_lt_zero]
  simp [splice]
theorem xbld79  : bld Try.prog 79 [] = some (.agg ⟨[.int .i64 0, .slice none 0 0]⟩) := by
  simp only [bld, tze79, tpl79, Option.bind_some, lay, cellsOf_agg, List.getElem?_cons_zero, List.getElem?_cons_succ, List.length_cons, List.length_nil, ne_eq, not_true_eq_false, false_or, Nat.reduceAdd, Nat.reduceLeDiff, Nat.reduceGT, gt_iff_lt, Nat.reduceLT, Nat.lt_irrefl, if_false, Nat.not_lt_zero]
  simp [splice]
theorem xbld66_0_1 {v0 v1 : Value} (h0 : cellsOf v0 = [v0]) (h1 : cellsOf v1 = [v1]) : bld Try.prog 66 [(0, v0), (1, v1)] = some (.agg ⟨[v0, v1]⟩) := by
  simp only [bld, tze66, tpl66, Option.bind_some, lay, cellsOf_agg, h0, h1, List.getElem?_cons_zero, List.getElem?_cons_succ, List.length_cons, List.length_nil, ne_eq, not_true_eq_false, false_or, Nat.reduceAdd, Nat.reduceLeDiff, Nat.reduceGT, gt_iff_lt, Nat.reduceLT, Nat.lt_irrefl, if_false, Nat.not_lt_zero]
  simp [splice]
theorem xbld94  : bld Try.prog 94 [] = some (.agg ⟨[.slice none 0 0, .float .f32 0, .float .f32 0]⟩) := by
  simp only [bld, tze94, tpl94, Option.bind_some, lay, cellsOf_agg, List.getElem?_cons_zero, List.getElem?_cons_succ, List.length_cons, List.length_nil, ne_eq, not_true_eq_false, false_or, Nat.reduceAdd, Nat.reduceLeDiff, Nat.reduceGT, gt_iff_lt, Nat.reduceLT, Nat.lt_irrefl, if_false, Nat.not_lt_zero]
  simp [splice]
theorem xbld222_0 {v0 : Value} (h0 : cellsOf v0 = [v0]) : bld Try.prog 222 [(0, v0)] = some (.agg ⟨[v0, .int .i64 0, .int .u64 0]⟩) := by
  simp only [bld, tze222, tpl222, Option.bind_some, lay, cellsOf_agg, h0, List.getElem?_cons_zero, List.getElem?_cons_succ, List.length_cons, List.length_nil, ne_eq, not_true_eq_false, false_or, Nat.reduceAdd, Nat.reduceLeDiff, Nat.reduceGT, gt_iff_lt, Nat.reduceLT, Nat.lt_irrefl, if_false, Nat.not_lt_zero]
  simp [splice]
theorem xbld79_0 {v0 : Value} (h0 : cellsOf v0 = [v0]) : bld Try.prog 79 [(0, v0)] = some (.agg ⟨[v0, .slice none 0 0]⟩) := by
  simp only [bld, tze79, tpl79, Option.bind_some, lay, cellsOf_agg, h0, List.getElem?_cons_zero, List.getElem?_cons_succ, List.length_cons, List.length_nil, ne_eq, not_true_eq_false, false_or, Nat.reduceAdd, Nat.reduceLeDiff, Nat.reduceGT, gt_iff_lt, Nat.reduceLT, Nat.lt_irrefl, if_false, Nat.not_lt_zero]
  simp [splice]
theorem xbld79_0_1 {v0 v1 : Value} (h0 : cellsOf v0 = [v0]) (h1 : cellsOf v1 = [v1]) : bld Try.prog 79 [(0, v0), (1, v1)] = some (.agg ⟨[v0, v1]⟩) := by
  simp only [bld, tze79, tpl79, Option.bind_some, lay, cellsOf_agg, h0, h1, List.getElem?_cons_zero, List.getElem?_cons_succ, List.length_cons, List.length_nil, ne_eq, not_true_eq_false, false_or, Nat.reduceAdd, Nat.reduceLeDiff, Nat.reduceGT, gt_iff_lt, Nat.reduceLT, Nat.lt_irrefl, if_false, Nat.not_lt_zero]
  simp [splice]
theorem xbld94_1_2 {v0 v1 : Value} (h0 : cellsOf v0 = [v0]) (h1 : cellsOf v1 = [v1]) : bld Try.prog 94 [(1, v0), (2, v1)] = some (.agg ⟨[.slice none 0 0, v0, v1]⟩) := by
  simp only [bld, tze94, tpl94, Option.bind_some, lay, cellsOf_agg, h0, h1, List.getElem?_cons_zero, List.getElem?_cons_succ, List.length_cons, List.length_nil, ne_eq, not_true_eq_false, false_or, Nat.reduceAdd, Nat.reduceLeDiff, Nat.reduceGT, gt_iff_lt, Nat.reduceLT, Nat.lt_irrefl, if_false, Nat.not_lt_zero]
  simp [splice]
theorem xcv29_59 {h : Heap} {q : FloatKind} {b : Nat} : aconv Try.prog h 29 59 (.float q b) = (fconv q b .f64).map fun r => .float .f64 r := conv_ff Try.underlying29 Try.underlying59
theorem xcv59_29 {h : Heap} {q : FloatKind} {b : Nat} : aconv Try.prog h 59 29 (.float q b) = (fconv q b .f32).map fun r => .float .f32 r := conv_ff Try.underlying59 Try.underlying29
theorem xcv2_5 {h : Heap} {k' : IntKind} {n : Int} : aconv Try.prog h 2 5 (.int k' n) = some (.int .u8 (IntKind.u8.wrap n)) := conv_int Try.underlying2 Try.underlying5
theorem xcv2_29 {h : Heap} {k' : IntKind} {n : Int} : aconv Try.prog h 2 29 (.int k' n) = some (.float .f32 (cf .f32 (FloatKind.nearest .f32 n))) := conv_if Try.underlying2 Try.underlying29
theorem xcv2_59 {h : Heap} {k' : IntKind} {n : Int} : aconv Try.prog h 2 59 (.int k' n) = some (.float .f64 (cf .f64 (FloatKind.nearest .f64 n))) := conv_if Try.underlying2 Try.underlying59
theorem xcv3_59 {h : Heap} {k' : IntKind} {n : Int} : aconv Try.prog h 3 59 (.int k' n) = some (.float .f64 (cf .f64 (FloatKind.nearest .f64 n))) := conv_if Try.underlying3 Try.underlying59
theorem xcv5_2 {h : Heap} {k' : IntKind} {n : Int} : aconv Try.prog h 5 2 (.int k' n) = some (.int .i64 (IntKind.i64.wrap n)) := conv_int Try.underlying5 Try.underlying2
theorem xcv3_29 {h : Heap} {k' : IntKind} {n : Int} : aconv Try.prog h 3 29 (.int k' n) = some (.float .f32 (cf .f32 (FloatKind.nearest .f32 n))) := conv_if Try.underlying3 Try.underlying29
theorem xcv59_2 {h : Heap} {q : FloatKind} {b : Nat} : aconv Try.prog h 59 2 (.float q b) = (floatToIntVal q b .i64).map fun n => .int .i64 n := conv_fi Try.underlying59 Try.underlying2
theorem xcv3_227 {h : Heap} {k' : IntKind} {n : Int} : aconv Try.prog h 3 227 (.int k' n) = some (.int .u64 (IntKind.u64.wrap n)) := conv_int Try.underlying3 Try.underlying227
theorem xcv205_21 {h : Heap} {k' : IntKind} {n : Int} : aconv Try.prog h 205 21 (.int k' n) = some (.int .i32 (IntKind.i32.wrap n)) := conv_int Try.underlying205 Try.underlying21
theorem xcv205_208 {h : Heap} {k' : IntKind} {n : Int} : aconv Try.prog h 205 208 (.int k' n) = some (.int .u32 (IntKind.u32.wrap n)) := conv_int Try.underlying205 Try.underlying208
theorem xcv5_3 {h : Heap} {k' : IntKind} {n : Int} : aconv Try.prog h 5 3 (.int k' n) = some (.int .i64 (IntKind.i64.wrap n)) := conv_int Try.underlying5 Try.underlying3
theorem xcv3_205 {h : Heap} {k' : IntKind} {n : Int} : aconv Try.prog h 3 205 (.int k' n) = some (.int .u64 (IntKind.u64.wrap n)) := conv_int Try.underlying3 Try.underlying205
theorem xcv205_2 {h : Heap} {k' : IntKind} {n : Int} : aconv Try.prog h 205 2 (.int k' n) = some (.int .i64 (IntKind.i64.wrap n)) := conv_int Try.underlying205 Try.underlying2
theorem xcv227_208 {h : Heap} {k' : IntKind} {n : Int} : aconv Try.prog h 227 208 (.int k' n) = some (.int .u32 (IntKind.u32.wrap n)) := conv_int Try.underlying227 Try.underlying208
theorem xcv208_2 {h : Heap} {k' : IntKind} {n : Int} : aconv Try.prog h 208 2 (.int k' n) = some (.int .i64 (IntKind.i64.wrap n)) := conv_int Try.underlying208 Try.underlying2
theorem xcv2_208 {h : Heap} {k' : IntKind} {n : Int} : aconv Try.prog h 2 208 (.int k' n) = some (.int .u32 (IntKind.u32.wrap n)) := conv_int Try.underlying2 Try.underlying208
theorem xcv3_21 {h : Heap} {k' : IntKind} {n : Int} : aconv Try.prog h 3 21 (.int k' n) = some (.int .i32 (IntKind.i32.wrap n)) := conv_int Try.underlying3 Try.underlying21
theorem xcv227_3 {h : Heap} {k' : IntKind} {n : Int} : aconv Try.prog h 227 3 (.int k' n) = some (.int .i64 (IntKind.i64.wrap n)) := conv_int Try.underlying227 Try.underlying3
theorem xcv3_291 {h : Heap} {k' : IntKind} {n : Int} : aconv Try.prog h 3 291 (.int k' n) = some (.int .u64 (IntKind.u64.wrap n)) := conv_int Try.underlying3 Try.underlying291
theorem xcv208_5 {h : Heap} {k' : IntKind} {n : Int} : aconv Try.prog h 208 5 (.int k' n) = some (.int .u8 (IntKind.u8.wrap n)) := conv_int Try.underlying208 Try.underlying5
theorem xcv205_5 {h : Heap} {k' : IntKind} {n : Int} : aconv Try.prog h 205 5 (.int k' n) = some (.int .u8 (IntKind.u8.wrap n)) := conv_int Try.underlying205 Try.underlying5
theorem fr0 : Try.f0.results.toList = [] := rfl
theorem fr1 : Try.f1.results.toList = [] := rfl
theorem fr2 : Try.f2.results.toList = [] := rfl
theorem fr3 : Try.f3.results.toList = [.tmp 4] := rfl
theorem fr4 : Try.f4.results.toList = [.tmp 4] := rfl
theorem fr5 : Try.f5.results.toList = [.tmp 4] := rfl
theorem fr6 : Try.f6.results.toList = [.tmp 4] := rfl
theorem fr7 : Try.f7.results.toList = [.tmp 4] := rfl
theorem fr8 : Try.f8.results.toList = [.tmp 4] := rfl
theorem fr9 : Try.f9.results.toList = [.tmp 4] := rfl
theorem fr10 : Try.f10.results.toList = [.tmp 4] := rfl
theorem fr11 : Try.f11.results.toList = [.tmp 4] := rfl
theorem fr12 : Try.f12.results.toList = [.tmp 4] := rfl
theorem fr13 : Try.f13.results.toList = [.tmp 4] := rfl
theorem fr14 : Try.f14.results.toList = [.tmp 4] := rfl
theorem fr15 : Try.f15.results.toList = [.tmp 4] := rfl
theorem fr16 : Try.f16.results.toList = [.tmp 2] := rfl
theorem fr17 : Try.f17.results.toList = [.tmp 6] := rfl
theorem fr18 : Try.f18.results.toList = [.tmp 4, .tmp 5, .tmp 6] := rfl
theorem fr19 : Try.f19.results.toList = [.tmp 4, .tmp 5, .tmp 6] := rfl
theorem fr20 : Try.f20.results.toList = [.tmp 4, .tmp 5] := rfl
theorem fr21 : Try.f21.results.toList = [.tmp 4, .tmp 5] := rfl
theorem fr22 : Try.f22.results.toList = [.tmp 2, .tmp 3] := rfl
theorem fr23 : Try.f23.results.toList = [.cell 6 38] := rfl
theorem fr24 : Try.f24.results.toList = [.cell 4 38, .tmp 5] := rfl
theorem fr25 : Try.f25.results.toList = [.cell 2 38, .tmp 3] := rfl
theorem fr26 : Try.f26.results.toList = [.cell 2 38, .tmp 3] := rfl
theorem fr27 : Try.f27.results.toList = [.tmp 6] := rfl
theorem fr28 : Try.f28.results.toList = [.tmp 4, .tmp 5] := rfl
theorem fr29 : Try.f29.results.toList = [.cell 4 38, .tmp 5] := rfl
theorem fr30 : Try.f30.results.toList = [.tmp 4, .tmp 5] := rfl
theorem fr31 : Try.f31.results.toList = [.tmp 2] := rfl
theorem fr32 : Try.f32.results.toList = [.tmp 2] := rfl
theorem fr33 : Try.f33.results.toList = [.tmp 4] := rfl
theorem fr34 : Try.f34.results.toList = [.tmp 4] := rfl
theorem fr35 : Try.f35.results.toList = [.tmp 2] := rfl
theorem fr36 : Try.f36.results.toList = [.tmp 4] := rfl
theorem fr37 : Try.f37.results.toList = [.tmp 6, .tmp 7, .tmp 8] := rfl
theorem fr38 : Try.f38.results.toList = [.tmp 6, .tmp 7] := rfl
theorem fr39 : Try.f39.results.toList = [.tmp 4] := rfl
theorem fr40 : Try.f40.results.toList = [.tmp 4] := rfl
theorem fr41 : Try.f41.results.toList = [.cell 2 66] := rfl
theorem fr42 : Try.f42.results.toList = [.tmp 2, .tmp 3] := rfl
theorem fr43 : Try.f43.results.toList = [.cell 2 66, .tmp 3] := rfl
theorem fr44 : Try.f44.results.toList = [.tmp 2, .tmp 3] := rfl
theorem fr45 : Try.f45.results.toList = [.tmp 2] := rfl
theorem fr46 : Try.f46.results.toList = [.tmp 4] := rfl
theorem fr47 : Try.f47.results.toList = [.tmp 6] := rfl
theorem fr48 : Try.f48.results.toList = [.cell 2 66, .tmp 3, .tmp 4] := rfl
theorem fr49 : Try.f49.results.toList = [.cell 4 79, .tmp 5] := rfl
theorem fr50 : Try.f50.results.toList = [.tmp 4] := rfl
theorem fr51 : Try.f51.results.toList = [.tmp 4, .tmp 5, .tmp 6] := rfl
theorem fr52 : Try.f52.results.toList = [.cell 4 66] := rfl
theorem fr53 : Try.f53.results.toList = [.cell 4 66, .tmp 5] := rfl
theorem fr54 : Try.f54.results.toList = [.tmp 2, .tmp 3] := rfl
theorem fr55 : Try.f55.results.toList = [.tmp 4] := rfl
theorem fr56 : Try.f56.results.toList = [.cell 6 66, .tmp 7] := rfl
theorem fr57 : Try.f57.results.toList = [.cell 4 66, .tmp 5] := rfl
theorem fr58 : Try.f58.results.toList = [.tmp 2, .tmp 3] := rfl
theorem fr59 : Try.f59.results.toList = [.tmp 4] := rfl
theorem fr60 : Try.f60.results.toList = [.tmp 4] := rfl
theorem fr61 : Try.f61.results.toList = [.tmp 4] := rfl
theorem fr62 : Try.f62.results.toList = [.cell 6 94, .tmp 7, .tmp 8] := rfl
theorem fr63 : Try.f63.results.toList = [.cell 4 94, .tmp 5, .tmp 6] := rfl
theorem fr64 : Try.f64.results.toList = [.cell 6 94, .tmp 7, .tmp 8] := rfl
theorem fr65 : Try.f65.results.toList = [.tmp 4] := rfl
theorem fr66 : Try.f66.results.toList = [.tmp 4] := rfl
theorem fr67 : Try.f67.results.toList = [.tmp 4, .tmp 5] := rfl
theorem fr68 : Try.f68.results.toList = [.tmp 2] := rfl
theorem fr69 : Try.f69.results.toList = [.tmp 2] := rfl
theorem fr70 : Try.f70.results.toList = [.tmp 2] := rfl
theorem fr71 : Try.f71.results.toList = [.cell 2 62] := rfl
theorem fr72 : Try.f72.results.toList = [.tmp 4, .tmp 5] := rfl
theorem fr73 : Try.f73.results.toList = [.tmp 10, .tmp 11] := rfl
theorem fr74 : Try.f74.results.toList = [.tmp 4, .tmp 5] := rfl
theorem fr75 : Try.f75.results.toList = [.tmp 12, .tmp 13] := rfl
theorem fr76 : Try.f76.results.toList = [.tmp 2, .tmp 3] := rfl
theorem fr77 : Try.f77.results.toList = [.tmp 2] := rfl
theorem fr78 : Try.f78.results.toList = [.tmp 8, .tmp 9] := rfl
theorem fr79 : Try.f79.results.toList = [.tmp 4] := rfl
theorem fr80 : Try.f80.results.toList = [.tmp 4] := rfl
theorem fr81 : Try.f81.results.toList = [.tmp 6, .tmp 7] := rfl
theorem fr82 : Try.f82.results.toList = [.cell 2 38, .tmp 3] := rfl
theorem fr83 : Try.f83.results.toList = [.tmp 4] := rfl
theorem fr84 : Try.f84.results.toList = [.cell 2 38, .tmp 3] := rfl
theorem fr85 : Try.f85.results.toList = [.cell 4 38, .tmp 5] := rfl
theorem fr86 : Try.f86.results.toList = [.tmp 2] := rfl
theorem fr87 : Try.f87.results.toList = [.tmp 4] := rfl
theorem fr88 : Try.f88.results.toList = [.cell 4 38, .tmp 5] := rfl
theorem fr89 : Try.f89.results.toList = [.tmp 2] := rfl
theorem fr90 : Try.f90.results.toList = [.tmp 6, .tmp 7] := rfl
theorem fr91 : Try.f91.results.toList = [.tmp 4, .tmp 5] := rfl
theorem fr92 : Try.f92.results.toList = [.tmp 2] := rfl
theorem fr93 : Try.f93.results.toList = [.tmp 2] := rfl
theorem fr94 : Try.f94.results.toList = [.tmp 2] := rfl
theorem fr95 : Try.f95.results.toList = [.tmp 4] := rfl
theorem fr96 : Try.f96.results.toList = [.tmp 4, .tmp 5] := rfl
theorem fr97 : Try.f97.results.toList = [.tmp 8, .tmp 9] := rfl
theorem fr98 : Try.f98.results.toList = [.cell 2 126, .cell 3 126, .tmp 4] := rfl
theorem fr99 : Try.f99.results.toList = [.tmp 2, .tmp 3] := rfl
theorem fr100 : Try.f100.results.toList = [.tmp 4, .tmp 5] := rfl
theorem fr101 : Try.f101.results.toList = [.tmp 4, .tmp 5] := rfl
theorem fr102 : Try.f102.results.toList = [.tmp 6, .tmp 7] := rfl
theorem fr103 : Try.f103.results.toList = [.tmp 4, .tmp 5] := rfl
theorem fr104 : Try.f104.results.toList = [.tmp 2] := rfl
theorem fr105 : Try.f105.results.toList = [.tmp 4] := rfl
theorem fr106 : Try.f106.results.toList = [.tmp 4] := rfl
theorem fr107 : Try.f107.results.toList = [.tmp 4, .tmp 5] := rfl
theorem fr108 : Try.f108.results.toList = [.tmp 6] := rfl
theorem fr109 : Try.f109.results.toList = [] := rfl
theorem fr110 : Try.f110.results.toList = [.tmp 5] := rfl
theorem fr111 : Try.f111.results.toList = [] := rfl
theorem fr112 : Try.f112.results.toList = [.tmp 2] := rfl
theorem fr113 : Try.f113.results.toList = [.tmp 4] := rfl
theorem fr114 : Try.f114.results.toList = [.tmp 4] := rfl
theorem fr115 : Try.f115.results.toList = [.cell 6 38] := rfl
theorem fr116 : Try.f116.results.toList = [.tmp 6] := rfl
theorem fr117 : Try.f117.results.toList = [.tmp 4] := rfl
theorem fr118 : Try.f118.results.toList = [.tmp 4] := rfl
theorem fr119 : Try.f119.results.toList = [.cell 2 38] := rfl
theorem fr120 : Try.f120.results.toList = [.tmp 4] := rfl
theorem fr121 : Try.f121.results.toList = [.tmp 2] := rfl
theorem fr122 : Try.f122.results.toList = [.tmp 6] := rfl
theorem fr123 : Try.f123.results.toList = [.tmp 4] := rfl
theorem fr124 : Try.f124.results.toList = [.tmp 6] := rfl
theorem fr125 : Try.f125.results.toList = [.tmp 4] := rfl
theorem fr126 : Try.f126.results.toList = [.tmp 4] := rfl
theorem fr127 : Try.f127.results.toList = [.tmp 2] := rfl
theorem fr128 : Try.f128.results.toList = [.tmp 2] := rfl
theorem fr129 : Try.f129.results.toList = [.tmp 2] := rfl
theorem fr130 : Try.f130.results.toList = [.tmp 4] := rfl
theorem fr131 : Try.f131.results.toList = [.tmp 6] := rfl
theorem fr132 : Try.f132.results.toList = [.tmp 6, .tmp 7] := rfl
theorem fr133 : Try.f133.results.toList = [.tmp 4] := rfl
theorem fr134 : Try.f134.results.toList = [.cell 2 66] := rfl
theorem fr135 : Try.f135.results.toList = [.tmp 4, .tmp 5] := rfl
theorem fr136 : Try.f136.results.toList = [.tmp 2] := rfl
theorem fr137 : Try.f137.results.toList = [.tmp 2] := rfl
theorem fr138 : Try.f138.results.toList = [.tmp 2] := rfl
theorem fr139 : Try.f139.results.toList = [.tmp 2] := rfl
theorem fr140 : Try.f140.results.toList = [.tmp 6] := rfl
theorem fr141 : Try.f141.results.toList = [.tmp 4] := rfl
theorem fr142 : Try.f142.results.toList = [.tmp 2, .tmp 3] := rfl
theorem fr143 : Try.f143.results.toList = [.cell 4 79, .tmp 5] := rfl
theorem fr144 : Try.f144.results.toList = [.cell 4 66] := rfl
theorem fr145 : Try.f145.results.toList = [.tmp 2] := rfl
theorem fr146 : Try.f146.results.toList = [.tmp 4] := rfl
theorem fr147 : Try.f147.results.toList = [.tmp 3] := rfl
theorem fr148 : Try.f148.results.toList = [] := rfl
theorem fr149 : Try.f149.results.toList = [.tmp 4] := rfl
theorem fr150 : Try.f150.results.toList = [.cell 2 66, .tmp 3] := rfl
theorem fr151 : Try.f151.results.toList = [.tmp 4] := rfl
theorem fr152 : Try.f152.results.toList = [.tmp 4] := rfl
theorem fr153 : Try.f153.results.toList = [.cell 2 94] := rfl
theorem fr154 : Try.f154.results.toList = [.cell 6 94, .tmp 7] := rfl
theorem fr155 : Try.f155.results.toList = [.tmp 4] := rfl
theorem fr156 : Try.f156.results.toList = [.tmp 2] := rfl
theorem fr157 : Try.f157.results.toList = [.tmp 4] := rfl
theorem fr158 : Try.f158.results.toList = [.tmp 2] := rfl
theorem fr159 : Try.f159.results.toList = [.tmp 2] := rfl
theorem fr160 : Try.f160.results.toList = [.tmp 2] := rfl
theorem fr161 : Try.f161.results.toList = [.tmp 4] := rfl
theorem fr162 : Try.f162.results.toList = [.tmp 10] := rfl
theorem fr163 : Try.f163.results.toList = [.tmp 4] := rfl
theorem fr164 : Try.f164.results.toList = [.tmp 2] := rfl
theorem fr165 : Try.f165.results.toList = [.tmp 8] := rfl
theorem fr166 : Try.f166.results.toList = [.tmp 2, .tmp 3] := rfl
theorem fr167 : Try.f167.results.toList = [.tmp 8, .tmp 9] := rfl
theorem fr168 : Try.f168.results.toList = [.tmp 6] := rfl
theorem fr169 : Try.f169.results.toList = [.tmp 7] := rfl
theorem fr170 : Try.f170.results.toList = [] := rfl
theorem fr171 : Try.f171.results.toList = [] := rfl
theorem fr172 : Try.f172.results.toList = [.cell 2 38] := rfl
theorem fr173 : Try.f173.results.toList = [] := rfl
theorem fr174 : Try.f174.results.toList = [.tmp 4] := rfl
theorem fr175 : Try.f175.results.toList = [.cell 4 38] := rfl
theorem fr176 : Try.f176.results.toList = [.tmp 6] := rfl
theorem fr177 : Try.f177.results.toList = [.tmp 2] := rfl
theorem fr178 : Try.f178.results.toList = [.tmp 2, .tmp 3] := rfl
theorem fr179 : Try.f179.results.toList = [.tmp 4] := rfl
theorem fr180 : Try.f180.results.toList = [.tmp 2] := rfl
theorem fr181 : Try.f181.results.toList = [.tmp 0] := rfl
theorem fr182 : Try.f182.results.toList = [.tmp 2] := rfl
theorem fr183 : Try.f183.results.toList = [.tmp 2] := rfl
theorem fr184 : Try.f184.results.toList = [.tmp 2] := rfl
theorem fr185 : Try.f185.results.toList = [.tmp 2] := rfl
theorem fr186 : Try.f186.results.toList = [] := rfl
theorem fr187 : Try.f187.results.toList = [.tmp 6] := rfl
theorem fr188 : Try.f188.results.toList = [.tmp 6, .tmp 7] := rfl
theorem fr189 : Try.f189.results.toList = [.tmp 2] := rfl
theorem fr190 : Try.f190.results.toList = [] := rfl
theorem fr191 : Try.f191.results.toList = [] := rfl
theorem fr192 : Try.f192.results.toList = [.tmp 2] := rfl
theorem fr193 : Try.f193.results.toList = [.tmp 4, .tmp 5] := rfl
theorem fr194 : Try.f194.results.toList = [.tmp 5] := rfl
theorem fr195 : Try.f195.results.toList = [.tmp 6] := rfl
theorem fr196 : Try.f196.results.toList = [.tmp 4] := rfl
theorem fr197 : Try.f197.results.toList = [.tmp 6] := rfl
theorem fr198 : Try.f198.results.toList = [.tmp 2] := rfl
theorem fr199 : Try.f199.results.toList = [.tmp 2] := rfl
theorem fr200 : Try.f200.results.toList = [] := rfl
theorem fr201 : Try.f201.results.toList = [.tmp 4] := rfl
theorem fr202 : Try.f202.results.toList = [.tmp 2] := rfl
theorem fr203 : Try.f203.results.toList = [.tmp 4, .tmp 5] := rfl
theorem fr204 : Try.f204.results.toList = [.tmp 4] := rfl
theorem fr205 : Try.f205.results.toList = [.tmp 2] := rfl
theorem fr206 : Try.f206.results.toList = [.tmp 2, .tmp 3] := rfl
theorem fr207 : Try.f207.results.toList = [.tmp 4] := rfl
theorem fr208 : Try.f208.results.toList = [] := rfl
theorem fr209 : Try.f209.results.toList = [.tmp 2] := rfl
theorem fr210 : Try.f210.results.toList = [.tmp 4] := rfl
theorem fr211 : Try.f211.results.toList = [.tmp 2, .tmp 3] := rfl
theorem fr212 : Try.f212.results.toList = [.tmp 4] := rfl
theorem fr213 : Try.f213.results.toList = [.tmp 2] := rfl
theorem fr214 : Try.f214.results.toList = [.tmp 2] := rfl
theorem fr215 : Try.f215.results.toList = [.tmp 2] := rfl
theorem fr216 : Try.f216.results.toList = [.tmp 2] := rfl
theorem fr217 : Try.f217.results.toList = [.tmp 4] := rfl
theorem fr218 : Try.f218.results.toList = [.tmp 2] := rfl
theorem fr219 : Try.f219.results.toList = [.tmp 3] := rfl
theorem fr220 : Try.f220.results.toList = [] := rfl
theorem fr221 : Try.f221.results.toList = [] := rfl
theorem fr222 : Try.f222.results.toList = [] := rfl
theorem fr223 : Try.f223.results.toList = [] := rfl
theorem fr224 : Try.f224.results.toList = [.tmp 4] := rfl
theorem fr225 : Try.f225.results.toList = [.tmp 5] := rfl
theorem fr226 : Try.f226.results.toList = [] := rfl
theorem fr227 : Try.f227.results.toList = [.tmp 2] := rfl
theorem fr228 : Try.f228.results.toList = [] := rfl
theorem fr229 : Try.f229.results.toList = [] := rfl
theorem fr230 : Try.f230.results.toList = [] := rfl
theorem fr231 : Try.f231.results.toList = [.tmp 6] := rfl
theorem fr232 : Try.f232.results.toList = [] := rfl
theorem fr233 : Try.f233.results.toList = [] := rfl
theorem fr234 : Try.f234.results.toList = [] := rfl
theorem fr235 : Try.f235.results.toList = [] := rfl
theorem fr236 : Try.f236.results.toList = [.tmp 6] := rfl
theorem fr237 : Try.f237.results.toList = [.tmp 4] := rfl
theorem fr238 : Try.f238.results.toList = [] := rfl
theorem fr239 : Try.f239.results.toList = [] := rfl
theorem fr240 : Try.f240.results.toList = [.tmp 2] := rfl
theorem fr241 : Try.f241.results.toList = [.tmp 4] := rfl
theorem fr242 : Try.f242.results.toList = [] := rfl
theorem fr243 : Try.f243.results.toList = [] := rfl
theorem fr244 : Try.f244.results.toList = [] := rfl
theorem fr245 : Try.f245.results.toList = [] := rfl
theorem fr246 : Try.f246.results.toList = [] := rfl
theorem fr247 : Try.f247.results.toList = [.tmp 6, .tmp 7] := rfl
theorem fr248 : Try.f248.results.toList = [] := rfl
theorem fr249 : Try.f249.results.toList = [.tmp 6] := rfl
theorem fr250 : Try.f250.results.toList = [.tmp 4] := rfl
theorem fr251 : Try.f251.results.toList = [.tmp 8] := rfl
theorem fr252 : Try.f252.results.toList = [.tmp 8, .tmp 9] := rfl
theorem fr253 : Try.f253.results.toList = [.tmp 2] := rfl
theorem fr254 : Try.f254.results.toList = [.tmp 2] := rfl
theorem fr255 : Try.f255.results.toList = [.tmp 2] := rfl
theorem fr256 : Try.f256.results.toList = [] := rfl
theorem fr257 : Try.f257.results.toList = [] := rfl
theorem fr258 : Try.f258.results.toList = [.tmp 4] := rfl
theorem fr259 : Try.f259.results.toList = [] := rfl
theorem fr260 : Try.f260.results.toList = [] := rfl
theorem fr261 : Try.f261.results.toList = [] := rfl
theorem fr262 : Try.f262.results.toList = [] := rfl
theorem fr263 : Try.f263.results.toList = [.tmp 8, .tmp 9] := rfl
theorem fr264 : Try.f264.results.toList = [] := rfl
theorem fr265 : Try.f265.results.toList = [.tmp 8] := rfl
theorem fr266 : Try.f266.results.toList = [.tmp 10] := rfl
theorem fr267 : Try.f267.results.toList = [.tmp 10, .tmp 11] := rfl
theorem fr268 : Try.f268.results.toList = [.tmp 2] := rfl
theorem fr269 : Try.f269.results.toList = [] := rfl
theorem fr270 : Try.f270.results.toList = [] := rfl
theorem fr271 : Try.f271.results.toList = [] := rfl
theorem fr272 : Try.f272.results.toList = [.tmp 4] := rfl
theorem fr273 : Try.f273.results.toList = [.tmp 4] := rfl
theorem fr274 : Try.f274.results.toList = [] := rfl
theorem fr275 : Try.f275.results.toList = [] := rfl
theorem fr276 : Try.f276.results.toList = [] := rfl
theorem fr277 : Try.f277.results.toList = [] := rfl
theorem fr278 : Try.f278.results.toList = [] := rfl
theorem fr279 : Try.f279.results.toList = [] := rfl
theorem fr280 : Try.f280.results.toList = [] := rfl
theorem fr281 : Try.f281.results.toList = [] := rfl
theorem fr282 : Try.f282.results.toList = [.tmp 2] := rfl
theorem fr283 : Try.f283.results.toList = [.tmp 2] := rfl
theorem fr284 : Try.f284.results.toList = [.tmp 6] := rfl
theorem fr285 : Try.f285.results.toList = [.tmp 10] := rfl
theorem fr286 : Try.f286.results.toList = [.tmp 2] := rfl
theorem fr287 : Try.f287.results.toList = [] := rfl
theorem fr288 : Try.f288.results.toList = [.tmp 8] := rfl
theorem fr289 : Try.f289.results.toList = [.tmp 12] := rfl
theorem fr290 : Try.f290.results.toList = [.tmp 2] := rfl
theorem fr291 : Try.f291.results.toList = [.tmp 2] := rfl
theorem fr292 : Try.f292.results.toList = [.tmp 4] := rfl
theorem fr293 : Try.f293.results.toList = [] := rfl
theorem fr294 : Try.f294.results.toList = [] := rfl
theorem fr295 : Try.f295.results.toList = [] := rfl
theorem fr296 : Try.f296.results.toList = [] := rfl
theorem fr297 : Try.f297.results.toList = [.tmp 8, .tmp 9] := rfl
theorem fr298 : Try.f298.results.toList = [.tmp 10, .tmp 11] := rfl
theorem fr299 : Try.f299.results.toList = [] := rfl
theorem fr300 : Try.f300.results.toList = [] := rfl
theorem fr301 : Try.f301.results.toList = [] := rfl
theorem fr302 : Try.f302.results.toList = [] := rfl
theorem fr303 : Try.f303.results.toList = [] := rfl
theorem fr304 : Try.f304.results.toList = [] := rfl
theorem fr305 : Try.f305.results.toList = [] := rfl
theorem fr306 : Try.f306.results.toList = [] := rfl
theorem fr307 : Try.f307.results.toList = [] := rfl
theorem fr308 : Try.f308.results.toList = [] := rfl
theorem fr309 : Try.f309.results.toList = [] := rfl
theorem fr310 : Try.f310.results.toList = [] := rfl
theorem fr311 : Try.f311.results.toList = [] := rfl
theorem fr312 : Try.f312.results.toList = [] := rfl
theorem fr313 : Try.f313.results.toList = [] := rfl
theorem fr314 : Try.f314.results.toList = [] := rfl
theorem fr315 : Try.f315.results.toList = [] := rfl
end Go.Proofs.Ytelogajobjflfaa.Sim
