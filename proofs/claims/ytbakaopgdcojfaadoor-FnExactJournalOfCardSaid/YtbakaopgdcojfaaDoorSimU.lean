/- The rules of the calculus, type by type and function by function. Written by a program of this session; no condition. -/
import Derived.Test.YtbakaopgdcojfaaDoorSimW
import Derived.Test.YtbakaopgdcojfaaDoorSimT
set_option linter.unusedSimpArgs false
set_option linter.unusedVariables false
namespace Go.Proofs.YtbakaopgdcojfaaDoor.Sim
open Go Go.RowKit

theorem xld1 {h : Heap} {b o : Nat} : ld Tryd.prog h 1 (.pointer (some ⟨b, o, none⟩)) = cell h b o := ld_sc tsz1 tag1
theorem xst1 {ro : Nat} {h : Heap} {b o : Nat} {v : Value} : stv Tryd.prog ro h 1 (.pointer (some ⟨b, o, none⟩)) v = put ro h b o 1 v := stv_put tsz1
theorem xld2 {h : Heap} {b o : Nat} : ld Tryd.prog h 2 (.pointer (some ⟨b, o, none⟩)) = cell h b o := ld_sc tsz2 tag2
theorem xst2 {ro : Nat} {h : Heap} {b o : Nat} {v : Value} : stv Tryd.prog ro h 2 (.pointer (some ⟨b, o, none⟩)) v = put ro h b o 1 v := stv_put tsz2
theorem xld3 {h : Heap} {b o : Nat} : ld Tryd.prog h 3 (.pointer (some ⟨b, o, none⟩)) = cell h b o := ld_sc tsz3 tag3
theorem xst3 {ro : Nat} {h : Heap} {b o : Nat} {v : Value} : stv Tryd.prog ro h 3 (.pointer (some ⟨b, o, none⟩)) v = put ro h b o 1 v := stv_put tsz3
theorem xbeql4 (a b : Bool) : abin Tryd.prog .eql 4 (.bool a) (.bool b) = some (.bool (a == b)) := bin_beql 4 Tryd.underlying4 a b
theorem xbneq4 (a b : Bool) : abin Tryd.prog .neq 4 (.bool a) (.bool b) = some (.bool (a != b)) := bin_bneq 4 Tryd.underlying4 a b
theorem xld4 {h : Heap} {b o : Nat} : ld Tryd.prog h 4 (.pointer (some ⟨b, o, none⟩)) = cell h b o := ld_sc tsz4 tag4
theorem xst4 {ro : Nat} {h : Heap} {b o : Nat} {v : Value} : stv Tryd.prog ro h 4 (.pointer (some ⟨b, o, none⟩)) v = put ro h b o 1 v := stv_put tsz4
theorem xld5 {h : Heap} {b o : Nat} : ld Tryd.prog h 5 (.pointer (some ⟨b, o, none⟩)) = cell h b o := ld_sc tsz5 tag5
theorem xst5 {ro : Nat} {h : Heap} {b o : Nat} {v : Value} : stv Tryd.prog ro h 5 (.pointer (some ⟨b, o, none⟩)) v = put ro h b o 1 v := stv_put tsz5
theorem xld6 {h : Heap} {b o : Nat} : ld Tryd.prog h 6 (.pointer (some ⟨b, o, none⟩)) = cell h b o := ld_sc tsz6 tag6
theorem xst6 {ro : Nat} {h : Heap} {b o : Nat} {v : Value} : stv Tryd.prog ro h 6 (.pointer (some ⟨b, o, none⟩)) v = put ro h b o 1 v := stv_put tsz6
theorem xfad7_0 {b o : Nat} : fadr Tryd.prog 7 (.pointer (some ⟨b, o, none⟩)) 0 = some (.pointer (some ⟨b, o + 0, none⟩)) := fadr_of tfi7_0 (by decide)
theorem xfld7_0 {cs : List Value} : fld Tryd.prog 7 (.agg ⟨cs⟩) 0 = cs[0]? := fld_sc tfi7_0 tag2
theorem xfad7_1 {b o : Nat} : fadr Tryd.prog 7 (.pointer (some ⟨b, o, none⟩)) 1 = some (.pointer (some ⟨b, o + 1, none⟩)) := fadr_of tfi7_1 (by decide)
theorem xfld7_1 {cs : List Value} : fld Tryd.prog 7 (.agg ⟨cs⟩) 1 = cs[1]? := fld_sc tfi7_1 tag3
theorem xfad7_2 {b o : Nat} : fadr Tryd.prog 7 (.pointer (some ⟨b, o, none⟩)) 2 = some (.pointer (some ⟨b, o + 2, none⟩)) := fadr_of tfi7_2 (by decide)
theorem xfld7_2 {cs : List Value} : fld Tryd.prog 7 (.agg ⟨cs⟩) 2 = cs[2]? := fld_sc tfi7_2 tag4
theorem xfad7_3 {b o : Nat} : fadr Tryd.prog 7 (.pointer (some ⟨b, o, none⟩)) 3 = some (.pointer (some ⟨b, o + 3, none⟩)) := fadr_of tfi7_3 (by decide)
theorem xfld7_3 {cs : List Value} : fld Tryd.prog 7 (.agg ⟨cs⟩) 3 = cs[3]? := fld_sc tfi7_3 tag6
theorem xld7 {h : Heap} {b o : Nat} : ld Tryd.prog h 7 (.pointer (some ⟨b, o, none⟩)) = cells h b o 4 := ld_agg tsz7 tag7
theorem xst7 {ro : Nat} {h : Heap} {b o : Nat} {v : Value} : stv Tryd.prog ro h 7 (.pointer (some ⟨b, o, none⟩)) v = put ro h b o 4 v := stv_put tsz7
theorem xfad8_0 {b o : Nat} : fadr Tryd.prog 8 (.pointer (some ⟨b, o, none⟩)) 0 = some (.pointer (some ⟨b, o + 0, none⟩)) := fadr_of tfi8_0 (by decide)
theorem xfld8_0 {cs : List Value} : fld Tryd.prog 8 (.agg ⟨cs⟩) 0 = cs[0]? := fld_sc tfi8_0 tag2
theorem xfad8_1 {b o : Nat} : fadr Tryd.prog 8 (.pointer (some ⟨b, o, none⟩)) 1 = some (.pointer (some ⟨b, o + 1, none⟩)) := fadr_of tfi8_1 (by decide)
theorem xfld8_1 {cs : List Value} : fld Tryd.prog 8 (.agg ⟨cs⟩) 1 = cs[1]? := fld_sc tfi8_1 tag3
theorem xfad8_2 {b o : Nat} : fadr Tryd.prog 8 (.pointer (some ⟨b, o, none⟩)) 2 = some (.pointer (some ⟨b, o + 2, none⟩)) := fadr_of tfi8_2 (by decide)
theorem xfld8_2 {cs : List Value} : fld Tryd.prog 8 (.agg ⟨cs⟩) 2 = cs[2]? := fld_sc tfi8_2 tag4
theorem xfad8_3 {b o : Nat} : fadr Tryd.prog 8 (.pointer (some ⟨b, o, none⟩)) 3 = some (.pointer (some ⟨b, o + 3, none⟩)) := fadr_of tfi8_3 (by decide)
theorem xfld8_3 {cs : List Value} : fld Tryd.prog 8 (.agg ⟨cs⟩) 3 = cs[3]? := fld_sc tfi8_3 tag6
theorem xld8 {h : Heap} {b o : Nat} : ld Tryd.prog h 8 (.pointer (some ⟨b, o, none⟩)) = cells h b o 4 := ld_agg tsz8 tag8
theorem xst8 {ro : Nat} {h : Heap} {b o : Nat} {v : Value} : stv Tryd.prog ro h 8 (.pointer (some ⟨b, o, none⟩)) v = put ro h b o 4 v := stv_put tsz8
theorem xlen9 {ro : Nat} {s : ByteArray} {h : Heap} : ablt Tryd.prog ro .len [9] [.string s] h = some (.int .i64 s.size, h) := len_str Tryd.underlying9
theorem xidx9 {s : ByteArray} {k : IntKind} {n : Int} (h0 : 0 ≤ n) (h1 : n < s.size) : idx Tryd.prog 9 (.string s) (.int k n) = some (.int .u8 (bt s n)) := idx_str Tryd.underlying9 h0 h1
theorem xsl9 {ro : Nat} {s : ByteArray} {h : Heap} {k k' : IntKind} {l q : Int} (h0 : 0 ≤ l) (h1 : l ≤ q) (h2 : q ≤ s.size) : slc Tryd.prog ro h 9 (.string s) (some (.int k l)) (some (.int k' q)) none = some (.string (s.extract l.toNat q.toNat)) := slc_str Tryd.underlying9 h0 h1 h2
theorem xslo9 {ro : Nat} {s : ByteArray} {h : Heap} {k : IntKind} {l : Int} (h0 : 0 ≤ l) (h1 : l ≤ s.size) : slc Tryd.prog ro h 9 (.string s) (some (.int k l)) none none = some (.string (s.extract l.toNat s.size)) := slc_str_lo Tryd.underlying9 h0 h1
theorem xshi9 {ro : Nat} {s : ByteArray} {h : Heap} {k : IntKind} {q : Int} (h0 : 0 ≤ q) (h1 : q ≤ s.size) : slc Tryd.prog ro h 9 (.string s) none (some (.int k q)) none = some (.string (s.extract 0 q.toNat)) := slc_str_hi Tryd.underlying9 h0 h1
theorem xld9 {h : Heap} {b o : Nat} : ld Tryd.prog h 9 (.pointer (some ⟨b, o, none⟩)) = cell h b o := ld_sc tsz9 tag9
theorem xst9 {ro : Nat} {h : Heap} {b o : Nat} {v : Value} : stv Tryd.prog ro h 9 (.pointer (some ⟨b, o, none⟩)) v = put ro h b o 1 v := stv_put tsz9
theorem xlen10 {ro : Nat} {s : ByteArray} {h : Heap} : ablt Tryd.prog ro .len [10] [.string s] h = some (.int .i64 s.size, h) := len_str Tryd.underlying10
theorem xidx10 {s : ByteArray} {k : IntKind} {n : Int} (h0 : 0 ≤ n) (h1 : n < s.size) : idx Tryd.prog 10 (.string s) (.int k n) = some (.int .u8 (bt s n)) := idx_str Tryd.underlying10 h0 h1
theorem xsl10 {ro : Nat} {s : ByteArray} {h : Heap} {k k' : IntKind} {l q : Int} (h0 : 0 ≤ l) (h1 : l ≤ q) (h2 : q ≤ s.size) : slc Tryd.prog ro h 10 (.string s) (some (.int k l)) (some (.int k' q)) none = some (.string (s.extract l.toNat q.toNat)) := slc_str Tryd.underlying10 h0 h1 h2
theorem xslo10 {ro : Nat} {s : ByteArray} {h : Heap} {k : IntKind} {l : Int} (h0 : 0 ≤ l) (h1 : l ≤ s.size) : slc Tryd.prog ro h 10 (.string s) (some (.int k l)) none none = some (.string (s.extract l.toNat s.size)) := slc_str_lo Tryd.underlying10 h0 h1
theorem xshi10 {ro : Nat} {s : ByteArray} {h : Heap} {k : IntKind} {q : Int} (h0 : 0 ≤ q) (h1 : q ≤ s.size) : slc Tryd.prog ro h 10 (.string s) none (some (.int k q)) none = some (.string (s.extract 0 q.toNat)) := slc_str_hi Tryd.underlying10 h0 h1
theorem xld10 {h : Heap} {b o : Nat} : ld Tryd.prog h 10 (.pointer (some ⟨b, o, none⟩)) = cell h b o := ld_sc tsz10 tag10
theorem xst10 {ro : Nat} {h : Heap} {b o : Nat} {v : Value} : stv Tryd.prog ro h 10 (.pointer (some ⟨b, o, none⟩)) v = put ro h b o 1 v := stv_put tsz10
theorem xlen11 {ro : Nat} {s : ByteArray} {h : Heap} : ablt Tryd.prog ro .len [11] [.string s] h = some (.int .i64 s.size, h) := len_str Tryd.underlying11
theorem xidx11 {s : ByteArray} {k : IntKind} {n : Int} (h0 : 0 ≤ n) (h1 : n < s.size) : idx Tryd.prog 11 (.string s) (.int k n) = some (.int .u8 (bt s n)) := idx_str Tryd.underlying11 h0 h1
theorem xsl11 {ro : Nat} {s : ByteArray} {h : Heap} {k k' : IntKind} {l q : Int} (h0 : 0 ≤ l) (h1 : l ≤ q) (h2 : q ≤ s.size) : slc Tryd.prog ro h 11 (.string s) (some (.int k l)) (some (.int k' q)) none = some (.string (s.extract l.toNat q.toNat)) := slc_str Tryd.underlying11 h0 h1 h2
theorem xslo11 {ro : Nat} {s : ByteArray} {h : Heap} {k : IntKind} {l : Int} (h0 : 0 ≤ l) (h1 : l ≤ s.size) : slc Tryd.prog ro h 11 (.string s) (some (.int k l)) none none = some (.string (s.extract l.toNat s.size)) := slc_str_lo Tryd.underlying11 h0 h1
theorem xshi11 {ro : Nat} {s : ByteArray} {h : Heap} {k : IntKind} {q : Int} (h0 : 0 ≤ q) (h1 : q ≤ s.size) : slc Tryd.prog ro h 11 (.string s) none (some (.int k q)) none = some (.string (s.extract 0 q.toNat)) := slc_str_hi Tryd.underlying11 h0 h1
theorem xld11 {h : Heap} {b o : Nat} : ld Tryd.prog h 11 (.pointer (some ⟨b, o, none⟩)) = cell h b o := ld_sc tsz11 tag11
theorem xst11 {ro : Nat} {h : Heap} {b o : Nat} {v : Value} : stv Tryd.prog ro h 11 (.pointer (some ⟨b, o, none⟩)) v = put ro h b o 1 v := stv_put tsz11
theorem xld12 {h : Heap} {b o : Nat} : ld Tryd.prog h 12 (.pointer (some ⟨b, o, none⟩)) = cell h b o := ld_sc tsz12 tag12
theorem xst12 {ro : Nat} {h : Heap} {b o : Nat} {v : Value} : stv Tryd.prog ro h 12 (.pointer (some ⟨b, o, none⟩)) v = put ro h b o 1 v := stv_put tsz12
theorem xfad13_0 {b o : Nat} : fadr Tryd.prog 13 (.pointer (some ⟨b, o, none⟩)) 0 = some (.pointer (some ⟨b, o + 0, none⟩)) := fadr_of tfi13_0 (by decide)
theorem xfld13_0 {cs : List Value} : fld Tryd.prog 13 (.agg ⟨cs⟩) 0 = cs[0]? := fld_sc tfi13_0 tag9
theorem xfad13_1 {b o : Nat} : fadr Tryd.prog 13 (.pointer (some ⟨b, o, none⟩)) 1 = some (.pointer (some ⟨b, o + 1, none⟩)) := fadr_of tfi13_1 (by decide)
theorem xfld13_1 {cs : List Value} : fld Tryd.prog 13 (.agg ⟨cs⟩) 1 = cs[1]? := fld_sc tfi13_1 tag12
theorem xld13 {h : Heap} {b o : Nat} : ld Tryd.prog h 13 (.pointer (some ⟨b, o, none⟩)) = cells h b o 2 := ld_agg tsz13 tag13
theorem xst13 {ro : Nat} {h : Heap} {b o : Nat} {v : Value} : stv Tryd.prog ro h 13 (.pointer (some ⟨b, o, none⟩)) v = put ro h b o 2 v := stv_put tsz13
theorem xfad14_0 {b o : Nat} : fadr Tryd.prog 14 (.pointer (some ⟨b, o, none⟩)) 0 = some (.pointer (some ⟨b, o + 0, none⟩)) := fadr_of tfi14_0 (by decide)
theorem xfld14_0 {cs : List Value} : fld Tryd.prog 14 (.agg ⟨cs⟩) 0 = cs[0]? := fld_sc tfi14_0 tag9
theorem xfad14_1 {b o : Nat} : fadr Tryd.prog 14 (.pointer (some ⟨b, o, none⟩)) 1 = some (.pointer (some ⟨b, o + 1, none⟩)) := fadr_of tfi14_1 (by decide)
theorem xfld14_1 {cs : List Value} : fld Tryd.prog 14 (.agg ⟨cs⟩) 1 = cs[1]? := fld_sc tfi14_1 tag12
theorem xld14 {h : Heap} {b o : Nat} : ld Tryd.prog h 14 (.pointer (some ⟨b, o, none⟩)) = cells h b o 2 := ld_agg tsz14 tag14
theorem xst14 {ro : Nat} {h : Heap} {b o : Nat} {v : Value} : stv Tryd.prog ro h 14 (.pointer (some ⟨b, o, none⟩)) v = put ro h b o 2 v := stv_put tsz14
theorem xld15 {h : Heap} {b o : Nat} : ld Tryd.prog h 15 (.pointer (some ⟨b, o, none⟩)) = cell h b o := ld_sc tsz15 tag15
theorem xst15 {ro : Nat} {h : Heap} {b o : Nat} {v : Value} : stv Tryd.prog ro h 15 (.pointer (some ⟨b, o, none⟩)) v = put ro h b o 1 v := stv_put tsz15
theorem xld16 {h : Heap} {b o : Nat} : ld Tryd.prog h 16 (.pointer (some ⟨b, o, none⟩)) = cell h b o := ld_sc tsz16 tag16
theorem xst16 {ro : Nat} {h : Heap} {b o : Nat} {v : Value} : stv Tryd.prog ro h 16 (.pointer (some ⟨b, o, none⟩)) v = put ro h b o 1 v := stv_put tsz16
theorem xld17 {h : Heap} {b o : Nat} : ld Tryd.prog h 17 (.pointer (some ⟨b, o, none⟩)) = cell h b o := ld_sc tsz17 tag17
theorem xst17 {ro : Nat} {h : Heap} {b o : Nat} {v : Value} : stv Tryd.prog ro h 17 (.pointer (some ⟨b, o, none⟩)) v = put ro h b o 1 v := stv_put tsz17
theorem xfad18_0 {b o : Nat} : fadr Tryd.prog 18 (.pointer (some ⟨b, o, none⟩)) 0 = some (.pointer (some ⟨b, o + 0, none⟩)) := fadr_of tfi18_0 (by decide)
theorem xfld18_0 {cs : List Value} : fld Tryd.prog 18 (.agg ⟨cs⟩) 0 = cs[0]? := fld_sc tfi18_0 tag17
theorem xld18 {h : Heap} {b o : Nat} : ld Tryd.prog h 18 (.pointer (some ⟨b, o, none⟩)) = cells h b o 1 := ld_agg tsz18 tag18
theorem xst18 {ro : Nat} {h : Heap} {b o : Nat} {v : Value} : stv Tryd.prog ro h 18 (.pointer (some ⟨b, o, none⟩)) v = put ro h b o 1 v := stv_put tsz18
theorem xfad19_0 {b o : Nat} : fadr Tryd.prog 19 (.pointer (some ⟨b, o, none⟩)) 0 = some (.pointer (some ⟨b, o + 0, none⟩)) := fadr_of tfi19_0 (by decide)
theorem xfld19_0 {cs : List Value} : fld Tryd.prog 19 (.agg ⟨cs⟩) 0 = cs[0]? := fld_sc tfi19_0 tag17
theorem xld19 {h : Heap} {b o : Nat} : ld Tryd.prog h 19 (.pointer (some ⟨b, o, none⟩)) = cells h b o 1 := ld_agg tsz19 tag19
theorem xst19 {ro : Nat} {h : Heap} {b o : Nat} {v : Value} : stv Tryd.prog ro h 19 (.pointer (some ⟨b, o, none⟩)) v = put ro h b o 1 v := stv_put tsz19
theorem xld21 {h : Heap} {b o : Nat} : ld Tryd.prog h 21 (.pointer (some ⟨b, o, none⟩)) = cell h b o := ld_sc tsz21 tag21
theorem xst21 {ro : Nat} {h : Heap} {b o : Nat} {v : Value} : stv Tryd.prog ro h 21 (.pointer (some ⟨b, o, none⟩)) v = put ro h b o 1 v := stv_put tsz21
theorem xlen22 {ro : Nat} {a : Option Addr} {n c : Nat} {h : Heap} : ablt Tryd.prog ro .len [22] [.slice a n c] h = some (.int .i64 n, h) := len_slc Tryd.underlying22
theorem xiad22 {b o len cap : Nat} {k : IntKind} {n : Int} (h0 : 0 ≤ n) (h1 : n < len) : iadr Tryd.prog 22 (.slice (some ⟨b, o, none⟩) len cap) (.int k n) = some (.pointer (some ⟨b, o + n.toNat * 1, none⟩)) := iadr_slc Tryd.underlying22 tsz9 h0 h1
theorem xld22 {h : Heap} {b o : Nat} : ld Tryd.prog h 22 (.pointer (some ⟨b, o, none⟩)) = cell h b o := ld_sc tsz22 tag22
theorem xst22 {ro : Nat} {h : Heap} {b o : Nat} {v : Value} : stv Tryd.prog ro h 22 (.pointer (some ⟨b, o, none⟩)) v = put ro h b o 1 v := stv_put tsz22
theorem xld23 {h : Heap} {b o : Nat} : ld Tryd.prog h 23 (.pointer (some ⟨b, o, none⟩)) = cell h b o := ld_sc tsz23 tag23
theorem xst23 {ro : Nat} {h : Heap} {b o : Nat} {v : Value} : stv Tryd.prog ro h 23 (.pointer (some ⟨b, o, none⟩)) v = put ro h b o 1 v := stv_put tsz23
theorem xld25 {h : Heap} {b o : Nat} : ld Tryd.prog h 25 (.pointer (some ⟨b, o, none⟩)) = cell h b o := ld_sc tsz25 tag25
theorem xst25 {ro : Nat} {h : Heap} {b o : Nat} {v : Value} : stv Tryd.prog ro h 25 (.pointer (some ⟨b, o, none⟩)) v = put ro h b o 1 v := stv_put tsz25
theorem xld26 {h : Heap} {b o : Nat} : ld Tryd.prog h 26 (.pointer (some ⟨b, o, none⟩)) = cell h b o := ld_sc tsz26 tag26
theorem xst26 {ro : Nat} {h : Heap} {b o : Nat} {v : Value} : stv Tryd.prog ro h 26 (.pointer (some ⟨b, o, none⟩)) v = put ro h b o 1 v := stv_put tsz26
theorem xld27 {h : Heap} {b o : Nat} : ld Tryd.prog h 27 (.pointer (some ⟨b, o, none⟩)) = cell h b o := ld_sc tsz27 tag27
theorem xst27 {ro : Nat} {h : Heap} {b o : Nat} {v : Value} : stv Tryd.prog ro h 27 (.pointer (some ⟨b, o, none⟩)) v = put ro h b o 1 v := stv_put tsz27
theorem xld28 {h : Heap} {b o : Nat} : ld Tryd.prog h 28 (.pointer (some ⟨b, o, none⟩)) = cell h b o := ld_sc tsz28 tag28
theorem xst28 {ro : Nat} {h : Heap} {b o : Nat} {v : Value} : stv Tryd.prog ro h 28 (.pointer (some ⟨b, o, none⟩)) v = put ro h b o 1 v := stv_put tsz28
theorem xld30 {h : Heap} {b o : Nat} : ld Tryd.prog h 30 (.pointer (some ⟨b, o, none⟩)) = cell h b o := ld_sc tsz30 tag30
theorem xst30 {ro : Nat} {h : Heap} {b o : Nat} {v : Value} : stv Tryd.prog ro h 30 (.pointer (some ⟨b, o, none⟩)) v = put ro h b o 1 v := stv_put tsz30
theorem xld31 {h : Heap} {b o : Nat} : ld Tryd.prog h 31 (.pointer (some ⟨b, o, none⟩)) = cell h b o := ld_sc tsz31 tag31
theorem xst31 {ro : Nat} {h : Heap} {b o : Nat} {v : Value} : stv Tryd.prog ro h 31 (.pointer (some ⟨b, o, none⟩)) v = put ro h b o 1 v := stv_put tsz31
theorem xld32 {h : Heap} {b o : Nat} : ld Tryd.prog h 32 (.pointer (some ⟨b, o, none⟩)) = cell h b o := ld_sc tsz32 tag32
theorem xst32 {ro : Nat} {h : Heap} {b o : Nat} {v : Value} : stv Tryd.prog ro h 32 (.pointer (some ⟨b, o, none⟩)) v = put ro h b o 1 v := stv_put tsz32
theorem xld33 {h : Heap} {b o : Nat} : ld Tryd.prog h 33 (.pointer (some ⟨b, o, none⟩)) = cell h b o := ld_sc tsz33 tag33
theorem xst33 {ro : Nat} {h : Heap} {b o : Nat} {v : Value} : stv Tryd.prog ro h 33 (.pointer (some ⟨b, o, none⟩)) v = put ro h b o 1 v := stv_put tsz33
theorem xlen34 {ro : Nat} {a : Option Addr} {n c : Nat} {h : Heap} : ablt Tryd.prog ro .len [34] [.slice a n c] h = some (.int .i64 n, h) := len_slc Tryd.underlying34
theorem xiad34 {b o len cap : Nat} {k : IntKind} {n : Int} (h0 : 0 ≤ n) (h1 : n < len) : iadr Tryd.prog 34 (.slice (some ⟨b, o, none⟩) len cap) (.int k n) = some (.pointer (some ⟨b, o + n.toNat * 1, none⟩)) := iadr_slc Tryd.underlying34 tsz5 h0 h1
theorem xld34 {h : Heap} {b o : Nat} : ld Tryd.prog h 34 (.pointer (some ⟨b, o, none⟩)) = cell h b o := ld_sc tsz34 tag34
theorem xst34 {ro : Nat} {h : Heap} {b o : Nat} {v : Value} : stv Tryd.prog ro h 34 (.pointer (some ⟨b, o, none⟩)) v = put ro h b o 1 v := stv_put tsz34
theorem xfad35_0 {b o : Nat} : fadr Tryd.prog 35 (.pointer (some ⟨b, o, none⟩)) 0 = some (.pointer (some ⟨b, o + 0, none⟩)) := fadr_of tfi35_0 (by decide)
theorem xfld35_0 {cs : List Value} : fld Tryd.prog 35 (.agg ⟨cs⟩) 0 = cs[0]? := fld_sc tfi35_0 tag33
theorem xfad35_1 {b o : Nat} : fadr Tryd.prog 35 (.pointer (some ⟨b, o, none⟩)) 1 = some (.pointer (some ⟨b, o + 1, none⟩)) := fadr_of tfi35_1 (by decide)
theorem xfld35_1 {cs : List Value} : fld Tryd.prog 35 (.agg ⟨cs⟩) 1 = cs[1]? := fld_sc tfi35_1 tag34
theorem xld35 {h : Heap} {b o : Nat} : ld Tryd.prog h 35 (.pointer (some ⟨b, o, none⟩)) = cells h b o 2 := ld_agg tsz35 tag35
theorem xst35 {ro : Nat} {h : Heap} {b o : Nat} {v : Value} : stv Tryd.prog ro h 35 (.pointer (some ⟨b, o, none⟩)) v = put ro h b o 2 v := stv_put tsz35
theorem xfad36_0 {b o : Nat} : fadr Tryd.prog 36 (.pointer (some ⟨b, o, none⟩)) 0 = some (.pointer (some ⟨b, o + 0, none⟩)) := fadr_of tfi36_0 (by decide)
theorem xfld36_0 {cs : List Value} : fld Tryd.prog 36 (.agg ⟨cs⟩) 0 = cs[0]? := fld_sc tfi36_0 tag33
theorem xfad36_1 {b o : Nat} : fadr Tryd.prog 36 (.pointer (some ⟨b, o, none⟩)) 1 = some (.pointer (some ⟨b, o + 1, none⟩)) := fadr_of tfi36_1 (by decide)
theorem xfld36_1 {cs : List Value} : fld Tryd.prog 36 (.agg ⟨cs⟩) 1 = cs[1]? := fld_sc tfi36_1 tag34
theorem xld36 {h : Heap} {b o : Nat} : ld Tryd.prog h 36 (.pointer (some ⟨b, o, none⟩)) = cells h b o 2 := ld_agg tsz36 tag36
theorem xst36 {ro : Nat} {h : Heap} {b o : Nat} {v : Value} : stv Tryd.prog ro h 36 (.pointer (some ⟨b, o, none⟩)) v = put ro h b o 2 v := stv_put tsz36
theorem xld37 {h : Heap} {b o : Nat} : ld Tryd.prog h 37 (.pointer (some ⟨b, o, none⟩)) = cell h b o := ld_sc tsz37 tag37
theorem xst37 {ro : Nat} {h : Heap} {b o : Nat} {v : Value} : stv Tryd.prog ro h 37 (.pointer (some ⟨b, o, none⟩)) v = put ro h b o 1 v := stv_put tsz37
theorem xld39 {h : Heap} {b o : Nat} : ld Tryd.prog h 39 (.pointer (some ⟨b, o, none⟩)) = cell h b o := ld_sc tsz39 tag39
theorem xst39 {ro : Nat} {h : Heap} {b o : Nat} {v : Value} : stv Tryd.prog ro h 39 (.pointer (some ⟨b, o, none⟩)) v = put ro h b o 1 v := stv_put tsz39
theorem xld43 {h : Heap} {b o : Nat} : ld Tryd.prog h 43 (.pointer (some ⟨b, o, none⟩)) = cell h b o := ld_sc tsz43 tag43
theorem xst43 {ro : Nat} {h : Heap} {b o : Nat} {v : Value} : stv Tryd.prog ro h 43 (.pointer (some ⟨b, o, none⟩)) v = put ro h b o 1 v := stv_put tsz43
theorem xld44 {h : Heap} {b o : Nat} : ld Tryd.prog h 44 (.pointer (some ⟨b, o, none⟩)) = cell h b o := ld_sc tsz44 tag44
theorem xst44 {ro : Nat} {h : Heap} {b o : Nat} {v : Value} : stv Tryd.prog ro h 44 (.pointer (some ⟨b, o, none⟩)) v = put ro h b o 1 v := stv_put tsz44
theorem xld45 {h : Heap} {b o : Nat} : ld Tryd.prog h 45 (.pointer (some ⟨b, o, none⟩)) = cell h b o := ld_sc tsz45 tag45
theorem xst45 {ro : Nat} {h : Heap} {b o : Nat} {v : Value} : stv Tryd.prog ro h 45 (.pointer (some ⟨b, o, none⟩)) v = put ro h b o 1 v := stv_put tsz45
theorem xld46 {h : Heap} {b o : Nat} : ld Tryd.prog h 46 (.pointer (some ⟨b, o, none⟩)) = cell h b o := ld_sc tsz46 tag46
theorem xst46 {ro : Nat} {h : Heap} {b o : Nat} {v : Value} : stv Tryd.prog ro h 46 (.pointer (some ⟨b, o, none⟩)) v = put ro h b o 1 v := stv_put tsz46
theorem xld48 {h : Heap} {b o : Nat} : ld Tryd.prog h 48 (.pointer (some ⟨b, o, none⟩)) = cell h b o := ld_sc tsz48 tag48
theorem xst48 {ro : Nat} {h : Heap} {b o : Nat} {v : Value} : stv Tryd.prog ro h 48 (.pointer (some ⟨b, o, none⟩)) v = put ro h b o 1 v := stv_put tsz48
theorem xld49 {h : Heap} {b o : Nat} : ld Tryd.prog h 49 (.pointer (some ⟨b, o, none⟩)) = cell h b o := ld_sc tsz49 tag49
theorem xst49 {ro : Nat} {h : Heap} {b o : Nat} {v : Value} : stv Tryd.prog ro h 49 (.pointer (some ⟨b, o, none⟩)) v = put ro h b o 1 v := stv_put tsz49
theorem xld51 {h : Heap} {b o : Nat} : ld Tryd.prog h 51 (.pointer (some ⟨b, o, none⟩)) = cell h b o := ld_sc tsz51 tag51
theorem xst51 {ro : Nat} {h : Heap} {b o : Nat} {v : Value} : stv Tryd.prog ro h 51 (.pointer (some ⟨b, o, none⟩)) v = put ro h b o 1 v := stv_put tsz51
theorem xld52 {h : Heap} {b o : Nat} : ld Tryd.prog h 52 (.pointer (some ⟨b, o, none⟩)) = cell h b o := ld_sc tsz52 tag52
theorem xst52 {ro : Nat} {h : Heap} {b o : Nat} {v : Value} : stv Tryd.prog ro h 52 (.pointer (some ⟨b, o, none⟩)) v = put ro h b o 1 v := stv_put tsz52
theorem xld53 {h : Heap} {b o : Nat} : ld Tryd.prog h 53 (.pointer (some ⟨b, o, none⟩)) = cell h b o := ld_sc tsz53 tag53
theorem xst53 {ro : Nat} {h : Heap} {b o : Nat} {v : Value} : stv Tryd.prog ro h 53 (.pointer (some ⟨b, o, none⟩)) v = put ro h b o 1 v := stv_put tsz53
theorem xld54 {h : Heap} {b o : Nat} : ld Tryd.prog h 54 (.pointer (some ⟨b, o, none⟩)) = cell h b o := ld_sc tsz54 tag54
theorem xst54 {ro : Nat} {h : Heap} {b o : Nat} {v : Value} : stv Tryd.prog ro h 54 (.pointer (some ⟨b, o, none⟩)) v = put ro h b o 1 v := stv_put tsz54
theorem xld55 {h : Heap} {b o : Nat} : ld Tryd.prog h 55 (.pointer (some ⟨b, o, none⟩)) = cell h b o := ld_sc tsz55 tag55
theorem xst55 {ro : Nat} {h : Heap} {b o : Nat} {v : Value} : stv Tryd.prog ro h 55 (.pointer (some ⟨b, o, none⟩)) v = put ro h b o 1 v := stv_put tsz55
theorem xld56 {h : Heap} {b o : Nat} : ld Tryd.prog h 56 (.pointer (some ⟨b, o, none⟩)) = cell h b o := ld_sc tsz56 tag56
theorem xst56 {ro : Nat} {h : Heap} {b o : Nat} {v : Value} : stv Tryd.prog ro h 56 (.pointer (some ⟨b, o, none⟩)) v = put ro h b o 1 v := stv_put tsz56
theorem xld57 {h : Heap} {b o : Nat} : ld Tryd.prog h 57 (.pointer (some ⟨b, o, none⟩)) = cell h b o := ld_sc tsz57 tag57
theorem xst57 {ro : Nat} {h : Heap} {b o : Nat} {v : Value} : stv Tryd.prog ro h 57 (.pointer (some ⟨b, o, none⟩)) v = put ro h b o 1 v := stv_put tsz57
theorem xld58 {h : Heap} {b o : Nat} : ld Tryd.prog h 58 (.pointer (some ⟨b, o, none⟩)) = cell h b o := ld_sc tsz58 tag58
theorem xst58 {ro : Nat} {h : Heap} {b o : Nat} {v : Value} : stv Tryd.prog ro h 58 (.pointer (some ⟨b, o, none⟩)) v = put ro h b o 1 v := stv_put tsz58
theorem xld60 {h : Heap} {b o : Nat} : ld Tryd.prog h 60 (.pointer (some ⟨b, o, none⟩)) = cell h b o := ld_sc tsz60 tag60
theorem xst60 {ro : Nat} {h : Heap} {b o : Nat} {v : Value} : stv Tryd.prog ro h 60 (.pointer (some ⟨b, o, none⟩)) v = put ro h b o 1 v := stv_put tsz60
theorem xld61 {h : Heap} {b o : Nat} : ld Tryd.prog h 61 (.pointer (some ⟨b, o, none⟩)) = cell h b o := ld_sc tsz61 tag61
theorem xst61 {ro : Nat} {h : Heap} {b o : Nat} {v : Value} : stv Tryd.prog ro h 61 (.pointer (some ⟨b, o, none⟩)) v = put ro h b o 1 v := stv_put tsz61
theorem xld62 {h : Heap} {b o : Nat} : ld Tryd.prog h 62 (.pointer (some ⟨b, o, none⟩)) = cell h b o := ld_sc tsz62 tag62
theorem xst62 {ro : Nat} {h : Heap} {b o : Nat} {v : Value} : stv Tryd.prog ro h 62 (.pointer (some ⟨b, o, none⟩)) v = put ro h b o 1 v := stv_put tsz62
theorem xld63 {h : Heap} {b o : Nat} : ld Tryd.prog h 63 (.pointer (some ⟨b, o, none⟩)) = cell h b o := ld_sc tsz63 tag63
theorem xst63 {ro : Nat} {h : Heap} {b o : Nat} {v : Value} : stv Tryd.prog ro h 63 (.pointer (some ⟨b, o, none⟩)) v = put ro h b o 1 v := stv_put tsz63
theorem xld64 {h : Heap} {b o : Nat} : ld Tryd.prog h 64 (.pointer (some ⟨b, o, none⟩)) = cell h b o := ld_sc tsz64 tag64
theorem xst64 {ro : Nat} {h : Heap} {b o : Nat} {v : Value} : stv Tryd.prog ro h 64 (.pointer (some ⟨b, o, none⟩)) v = put ro h b o 1 v := stv_put tsz64
theorem xld65 {h : Heap} {b o : Nat} : ld Tryd.prog h 65 (.pointer (some ⟨b, o, none⟩)) = cells h b o 24 := ld_agg tsz65 tag65
theorem xst65 {ro : Nat} {h : Heap} {b o : Nat} {v : Value} : stv Tryd.prog ro h 65 (.pointer (some ⟨b, o, none⟩)) v = put ro h b o 24 v := stv_put tsz65
theorem xld66 {h : Heap} {b o : Nat} : ld Tryd.prog h 66 (.pointer (some ⟨b, o, none⟩)) = cell h b o := ld_sc tsz66 tag66
theorem xst66 {ro : Nat} {h : Heap} {b o : Nat} {v : Value} : stv Tryd.prog ro h 66 (.pointer (some ⟨b, o, none⟩)) v = put ro h b o 1 v := stv_put tsz66
theorem xld67 {h : Heap} {b o : Nat} : ld Tryd.prog h 67 (.pointer (some ⟨b, o, none⟩)) = cell h b o := ld_sc tsz67 tag67
theorem xst67 {ro : Nat} {h : Heap} {b o : Nat} {v : Value} : stv Tryd.prog ro h 67 (.pointer (some ⟨b, o, none⟩)) v = put ro h b o 1 v := stv_put tsz67
theorem xld68 {h : Heap} {b o : Nat} : ld Tryd.prog h 68 (.pointer (some ⟨b, o, none⟩)) = cell h b o := ld_sc tsz68 tag68
theorem xst68 {ro : Nat} {h : Heap} {b o : Nat} {v : Value} : stv Tryd.prog ro h 68 (.pointer (some ⟨b, o, none⟩)) v = put ro h b o 1 v := stv_put tsz68
theorem xld70 {h : Heap} {b o : Nat} : ld Tryd.prog h 70 (.pointer (some ⟨b, o, none⟩)) = cell h b o := ld_sc tsz70 tag70
theorem xst70 {ro : Nat} {h : Heap} {b o : Nat} {v : Value} : stv Tryd.prog ro h 70 (.pointer (some ⟨b, o, none⟩)) v = put ro h b o 1 v := stv_put tsz70
theorem xld71 {h : Heap} {b o : Nat} : ld Tryd.prog h 71 (.pointer (some ⟨b, o, none⟩)) = cell h b o := ld_sc tsz71 tag71
theorem xst71 {ro : Nat} {h : Heap} {b o : Nat} {v : Value} : stv Tryd.prog ro h 71 (.pointer (some ⟨b, o, none⟩)) v = put ro h b o 1 v := stv_put tsz71
theorem xld73 {h : Heap} {b o : Nat} : ld Tryd.prog h 73 (.pointer (some ⟨b, o, none⟩)) = cell h b o := ld_sc tsz73 tag73
theorem xst73 {ro : Nat} {h : Heap} {b o : Nat} {v : Value} : stv Tryd.prog ro h 73 (.pointer (some ⟨b, o, none⟩)) v = put ro h b o 1 v := stv_put tsz73
theorem xld74 {h : Heap} {b o : Nat} : ld Tryd.prog h 74 (.pointer (some ⟨b, o, none⟩)) = cell h b o := ld_sc tsz74 tag74
theorem xst74 {ro : Nat} {h : Heap} {b o : Nat} {v : Value} : stv Tryd.prog ro h 74 (.pointer (some ⟨b, o, none⟩)) v = put ro h b o 1 v := stv_put tsz74
theorem xld75 {h : Heap} {b o : Nat} : ld Tryd.prog h 75 (.pointer (some ⟨b, o, none⟩)) = cells h b o 20 := ld_agg tsz75 tag75
theorem xst75 {ro : Nat} {h : Heap} {b o : Nat} {v : Value} : stv Tryd.prog ro h 75 (.pointer (some ⟨b, o, none⟩)) v = put ro h b o 20 v := stv_put tsz75
theorem xld76 {h : Heap} {b o : Nat} : ld Tryd.prog h 76 (.pointer (some ⟨b, o, none⟩)) = cells h b o 65 := ld_agg tsz76 tag76
theorem xst76 {ro : Nat} {h : Heap} {b o : Nat} {v : Value} : stv Tryd.prog ro h 76 (.pointer (some ⟨b, o, none⟩)) v = put ro h b o 65 v := stv_put tsz76
theorem xld77 {h : Heap} {b o : Nat} : ld Tryd.prog h 77 (.pointer (some ⟨b, o, none⟩)) = cell h b o := ld_sc tsz77 tag77
theorem xst77 {ro : Nat} {h : Heap} {b o : Nat} {v : Value} : stv Tryd.prog ro h 77 (.pointer (some ⟨b, o, none⟩)) v = put ro h b o 1 v := stv_put tsz77
theorem xld78 {h : Heap} {b o : Nat} : ld Tryd.prog h 78 (.pointer (some ⟨b, o, none⟩)) = cell h b o := ld_sc tsz78 tag78
theorem xst78 {ro : Nat} {h : Heap} {b o : Nat} {v : Value} : stv Tryd.prog ro h 78 (.pointer (some ⟨b, o, none⟩)) v = put ro h b o 1 v := stv_put tsz78
theorem xld79 {h : Heap} {b o : Nat} : ld Tryd.prog h 79 (.pointer (some ⟨b, o, none⟩)) = cell h b o := ld_sc tsz79 tag79
theorem xst79 {ro : Nat} {h : Heap} {b o : Nat} {v : Value} : stv Tryd.prog ro h 79 (.pointer (some ⟨b, o, none⟩)) v = put ro h b o 1 v := stv_put tsz79
theorem xld80 {h : Heap} {b o : Nat} : ld Tryd.prog h 80 (.pointer (some ⟨b, o, none⟩)) = cells h b o 32 := ld_agg tsz80 tag80
theorem xst80 {ro : Nat} {h : Heap} {b o : Nat} {v : Value} : stv Tryd.prog ro h 80 (.pointer (some ⟨b, o, none⟩)) v = put ro h b o 32 v := stv_put tsz80
theorem xld81 {h : Heap} {b o : Nat} : ld Tryd.prog h 81 (.pointer (some ⟨b, o, none⟩)) = cells h b o 64 := ld_agg tsz81 tag81
theorem xst81 {ro : Nat} {h : Heap} {b o : Nat} {v : Value} : stv Tryd.prog ro h 81 (.pointer (some ⟨b, o, none⟩)) v = put ro h b o 64 v := stv_put tsz81
theorem xfad82_0 {b o : Nat} : fadr Tryd.prog 82 (.pointer (some ⟨b, o, none⟩)) 0 = some (.pointer (some ⟨b, o + 0, none⟩)) := fadr_of tfi82_0 (by decide)
theorem xfld82_0 {cs : List Value} : fld Tryd.prog 82 (.agg ⟨cs⟩) 0 = cs[0]? := fld_sc tfi82_0 tag17
theorem xfad82_1 {b o : Nat} : fadr Tryd.prog 82 (.pointer (some ⟨b, o, none⟩)) 1 = some (.pointer (some ⟨b, o + 1, none⟩)) := fadr_of tfi82_1 (by decide)
theorem xfld82_1 {cs : List Value} : fld Tryd.prog 82 (.agg ⟨cs⟩) 1 = cs[1]? := fld_sc tfi82_1 tag17
theorem xfad82_2 {b o : Nat} : fadr Tryd.prog 82 (.pointer (some ⟨b, o, none⟩)) 2 = some (.pointer (some ⟨b, o + 2, none⟩)) := fadr_of tfi82_2 (by decide)
theorem xfld82_2 {cs : List Value} : fld Tryd.prog 82 (.agg ⟨cs⟩) 2 = cs[2]? := fld_sc tfi82_2 tag17
theorem xfad82_3 {b o : Nat} : fadr Tryd.prog 82 (.pointer (some ⟨b, o, none⟩)) 3 = some (.pointer (some ⟨b, o + 3, none⟩)) := fadr_of tfi82_3 (by decide)
theorem xfld82_3 {cs : List Value} : fld Tryd.prog 82 (.agg ⟨cs⟩) 3 = cs[3]? := fld_sc tfi82_3 tag9
theorem xld82 {h : Heap} {b o : Nat} : ld Tryd.prog h 82 (.pointer (some ⟨b, o, none⟩)) = cells h b o 4 := ld_agg tsz82 tag82
theorem xst82 {ro : Nat} {h : Heap} {b o : Nat} {v : Value} : stv Tryd.prog ro h 82 (.pointer (some ⟨b, o, none⟩)) v = put ro h b o 4 v := stv_put tsz82
theorem xfad83_0 {b o : Nat} : fadr Tryd.prog 83 (.pointer (some ⟨b, o, none⟩)) 0 = some (.pointer (some ⟨b, o + 0, none⟩)) := fadr_of tfi83_0 (by decide)
theorem xfld83_0 {cs : List Value} : fld Tryd.prog 83 (.agg ⟨cs⟩) 0 = cs[0]? := fld_sc tfi83_0 tag17
theorem xfad83_1 {b o : Nat} : fadr Tryd.prog 83 (.pointer (some ⟨b, o, none⟩)) 1 = some (.pointer (some ⟨b, o + 1, none⟩)) := fadr_of tfi83_1 (by decide)
theorem xfld83_1 {cs : List Value} : fld Tryd.prog 83 (.agg ⟨cs⟩) 1 = cs[1]? := fld_sc tfi83_1 tag17
theorem xfad83_2 {b o : Nat} : fadr Tryd.prog 83 (.pointer (some ⟨b, o, none⟩)) 2 = some (.pointer (some ⟨b, o + 2, none⟩)) := fadr_of tfi83_2 (by decide)
theorem xfld83_2 {cs : List Value} : fld Tryd.prog 83 (.agg ⟨cs⟩) 2 = cs[2]? := fld_sc tfi83_2 tag17
theorem xfad83_3 {b o : Nat} : fadr Tryd.prog 83 (.pointer (some ⟨b, o, none⟩)) 3 = some (.pointer (some ⟨b, o + 3, none⟩)) := fadr_of tfi83_3 (by decide)
theorem xfld83_3 {cs : List Value} : fld Tryd.prog 83 (.agg ⟨cs⟩) 3 = cs[3]? := fld_sc tfi83_3 tag9
theorem xld83 {h : Heap} {b o : Nat} : ld Tryd.prog h 83 (.pointer (some ⟨b, o, none⟩)) = cells h b o 4 := ld_agg tsz83 tag83
theorem xst83 {ro : Nat} {h : Heap} {b o : Nat} {v : Value} : stv Tryd.prog ro h 83 (.pointer (some ⟨b, o, none⟩)) v = put ro h b o 4 v := stv_put tsz83
theorem xld84 {h : Heap} {b o : Nat} : ld Tryd.prog h 84 (.pointer (some ⟨b, o, none⟩)) = cells h b o 0 := ld_agg tsz84 tag84
theorem xst84 {ro : Nat} {h : Heap} {b o : Nat} {v : Value} : stv Tryd.prog ro h 84 (.pointer (some ⟨b, o, none⟩)) v = put ro h b o 0 v := stv_put tsz84
theorem xfld85_0 {cs : List Value} : fld Tryd.prog 85 (.agg ⟨cs⟩) 0 = some (.agg ⟨(cs.drop 0).take 0⟩) := fld_agg tfi85_0 tag84
theorem xld85 {h : Heap} {b o : Nat} : ld Tryd.prog h 85 (.pointer (some ⟨b, o, none⟩)) = cells h b o 0 := ld_agg tsz85 tag85
theorem xst85 {ro : Nat} {h : Heap} {b o : Nat} {v : Value} : stv Tryd.prog ro h 85 (.pointer (some ⟨b, o, none⟩)) v = put ro h b o 0 v := stv_put tsz85
theorem xfld86_0 {cs : List Value} : fld Tryd.prog 86 (.agg ⟨cs⟩) 0 = some (.agg ⟨(cs.drop 0).take 0⟩) := fld_agg tfi86_0 tag84
theorem xld86 {h : Heap} {b o : Nat} : ld Tryd.prog h 86 (.pointer (some ⟨b, o, none⟩)) = cells h b o 0 := ld_agg tsz86 tag86
theorem xst86 {ro : Nat} {h : Heap} {b o : Nat} {v : Value} : stv Tryd.prog ro h 86 (.pointer (some ⟨b, o, none⟩)) v = put ro h b o 0 v := stv_put tsz86
theorem xld87 {h : Heap} {b o : Nat} : ld Tryd.prog h 87 (.pointer (some ⟨b, o, none⟩)) = cell h b o := ld_sc tsz87 tag87
theorem xst87 {ro : Nat} {h : Heap} {b o : Nat} {v : Value} : stv Tryd.prog ro h 87 (.pointer (some ⟨b, o, none⟩)) v = put ro h b o 1 v := stv_put tsz87
theorem xld88 {h : Heap} {b o : Nat} : ld Tryd.prog h 88 (.pointer (some ⟨b, o, none⟩)) = cell h b o := ld_sc tsz88 tag88
theorem xst88 {ro : Nat} {h : Heap} {b o : Nat} {v : Value} : stv Tryd.prog ro h 88 (.pointer (some ⟨b, o, none⟩)) v = put ro h b o 1 v := stv_put tsz88
theorem xld89 {h : Heap} {b o : Nat} : ld Tryd.prog h 89 (.pointer (some ⟨b, o, none⟩)) = cell h b o := ld_sc tsz89 tag89
theorem xst89 {ro : Nat} {h : Heap} {b o : Nat} {v : Value} : stv Tryd.prog ro h 89 (.pointer (some ⟨b, o, none⟩)) v = put ro h b o 1 v := stv_put tsz89
theorem xld90 {h : Heap} {b o : Nat} : ld Tryd.prog h 90 (.pointer (some ⟨b, o, none⟩)) = cell h b o := ld_sc tsz90 tag90
theorem xst90 {ro : Nat} {h : Heap} {b o : Nat} {v : Value} : stv Tryd.prog ro h 90 (.pointer (some ⟨b, o, none⟩)) v = put ro h b o 1 v := stv_put tsz90
theorem xld91 {h : Heap} {b o : Nat} : ld Tryd.prog h 91 (.pointer (some ⟨b, o, none⟩)) = cell h b o := ld_sc tsz91 tag91
theorem xst91 {ro : Nat} {h : Heap} {b o : Nat} {v : Value} : stv Tryd.prog ro h 91 (.pointer (some ⟨b, o, none⟩)) v = put ro h b o 1 v := stv_put tsz91
theorem xfad92_0 {b o : Nat} : fadr Tryd.prog 92 (.pointer (some ⟨b, o, none⟩)) 0 = some (.pointer (some ⟨b, o + 0, none⟩)) := fadr_of tfi92_0 (by decide)
theorem xfld92_0 {cs : List Value} : fld Tryd.prog 92 (.agg ⟨cs⟩) 0 = cs[0]? := fld_sc tfi92_0 tag12
theorem xfad92_1 {b o : Nat} : fadr Tryd.prog 92 (.pointer (some ⟨b, o, none⟩)) 1 = some (.pointer (some ⟨b, o + 1, none⟩)) := fadr_of tfi92_1 (by decide)
theorem xfld92_1 {cs : List Value} : fld Tryd.prog 92 (.agg ⟨cs⟩) 1 = cs[1]? := fld_sc tfi92_1 tag12
theorem xfad92_2 {b o : Nat} : fadr Tryd.prog 92 (.pointer (some ⟨b, o, none⟩)) 2 = some (.pointer (some ⟨b, o + 2, none⟩)) := fadr_of tfi92_2 (by decide)
theorem xfld92_2 {cs : List Value} : fld Tryd.prog 92 (.agg ⟨cs⟩) 2 = cs[2]? := fld_sc tfi92_2 tag71
theorem xfad92_3 {b o : Nat} : fadr Tryd.prog 92 (.pointer (some ⟨b, o, none⟩)) 3 = some (.pointer (some ⟨b, o + 3, none⟩)) := fadr_of tfi92_3 (by decide)
theorem xfld92_3 {cs : List Value} : fld Tryd.prog 92 (.agg ⟨cs⟩) 3 = cs[3]? := fld_sc tfi92_3 tag87
theorem xfad92_4 {b o : Nat} : fadr Tryd.prog 92 (.pointer (some ⟨b, o, none⟩)) 4 = some (.pointer (some ⟨b, o + 4, none⟩)) := fadr_of tfi92_4 (by decide)
theorem xfld92_4 {cs : List Value} : fld Tryd.prog 92 (.agg ⟨cs⟩) 4 = cs[4]? := fld_sc tfi92_4 tag5
theorem xfad92_5 {b o : Nat} : fadr Tryd.prog 92 (.pointer (some ⟨b, o, none⟩)) 5 = some (.pointer (some ⟨b, o + 5, none⟩)) := fadr_of tfi92_5 (by decide)
theorem xfld92_5 {cs : List Value} : fld Tryd.prog 92 (.agg ⟨cs⟩) 5 = cs[5]? := fld_sc tfi92_5 tag5
theorem xfad92_6 {b o : Nat} : fadr Tryd.prog 92 (.pointer (some ⟨b, o, none⟩)) 6 = some (.pointer (some ⟨b, o + 6, none⟩)) := fadr_of tfi92_6 (by decide)
theorem xfld92_6 {cs : List Value} : fld Tryd.prog 92 (.agg ⟨cs⟩) 6 = cs[6]? := fld_sc tfi92_6 tag88
theorem xfad92_7 {b o : Nat} : fadr Tryd.prog 92 (.pointer (some ⟨b, o, none⟩)) 7 = some (.pointer (some ⟨b, o + 7, none⟩)) := fadr_of tfi92_7 (by decide)
theorem xfld92_7 {cs : List Value} : fld Tryd.prog 92 (.agg ⟨cs⟩) 7 = cs[7]? := fld_sc tfi92_7 tag89
theorem xfad92_8 {b o : Nat} : fadr Tryd.prog 92 (.pointer (some ⟨b, o, none⟩)) 8 = some (.pointer (some ⟨b, o + 8, none⟩)) := fadr_of tfi92_8 (by decide)
theorem xfld92_8 {cs : List Value} : fld Tryd.prog 92 (.agg ⟨cs⟩) 8 = cs[8]? := fld_sc tfi92_8 tag56
theorem xfad92_9 {b o : Nat} : fadr Tryd.prog 92 (.pointer (some ⟨b, o, none⟩)) 9 = some (.pointer (some ⟨b, o + 9, none⟩)) := fadr_of tfi92_9 (by decide)
theorem xfld92_9 {cs : List Value} : fld Tryd.prog 92 (.agg ⟨cs⟩) 9 = cs[9]? := fld_sc tfi92_9 tag90
theorem xfad92_10 {b o : Nat} : fadr Tryd.prog 92 (.pointer (some ⟨b, o, none⟩)) 10 = some (.pointer (some ⟨b, o + 10, none⟩)) := fadr_of tfi92_10 (by decide)
theorem xfld92_10 {cs : List Value} : fld Tryd.prog 92 (.agg ⟨cs⟩) 10 = cs[10]? := fld_sc tfi92_10 tag91
theorem xld92 {h : Heap} {b o : Nat} : ld Tryd.prog h 92 (.pointer (some ⟨b, o, none⟩)) = cells h b o 11 := ld_agg tsz92 tag92
theorem xst92 {ro : Nat} {h : Heap} {b o : Nat} {v : Value} : stv Tryd.prog ro h 92 (.pointer (some ⟨b, o, none⟩)) v = put ro h b o 11 v := stv_put tsz92
theorem xfad93_0 {b o : Nat} : fadr Tryd.prog 93 (.pointer (some ⟨b, o, none⟩)) 0 = some (.pointer (some ⟨b, o + 0, none⟩)) := fadr_of tfi93_0 (by decide)
theorem xfld93_0 {cs : List Value} : fld Tryd.prog 93 (.agg ⟨cs⟩) 0 = cs[0]? := fld_sc tfi93_0 tag12
theorem xfad93_1 {b o : Nat} : fadr Tryd.prog 93 (.pointer (some ⟨b, o, none⟩)) 1 = some (.pointer (some ⟨b, o + 1, none⟩)) := fadr_of tfi93_1 (by decide)
theorem xfld93_1 {cs : List Value} : fld Tryd.prog 93 (.agg ⟨cs⟩) 1 = cs[1]? := fld_sc tfi93_1 tag12
theorem xfad93_2 {b o : Nat} : fadr Tryd.prog 93 (.pointer (some ⟨b, o, none⟩)) 2 = some (.pointer (some ⟨b, o + 2, none⟩)) := fadr_of tfi93_2 (by decide)
theorem xfld93_2 {cs : List Value} : fld Tryd.prog 93 (.agg ⟨cs⟩) 2 = cs[2]? := fld_sc tfi93_2 tag71
theorem xfad93_3 {b o : Nat} : fadr Tryd.prog 93 (.pointer (some ⟨b, o, none⟩)) 3 = some (.pointer (some ⟨b, o + 3, none⟩)) := fadr_of tfi93_3 (by decide)
theorem xfld93_3 {cs : List Value} : fld Tryd.prog 93 (.agg ⟨cs⟩) 3 = cs[3]? := fld_sc tfi93_3 tag87
theorem xfad93_4 {b o : Nat} : fadr Tryd.prog 93 (.pointer (some ⟨b, o, none⟩)) 4 = some (.pointer (some ⟨b, o + 4, none⟩)) := fadr_of tfi93_4 (by decide)
theorem xfld93_4 {cs : List Value} : fld Tryd.prog 93 (.agg ⟨cs⟩) 4 = cs[4]? := fld_sc tfi93_4 tag5
theorem xfad93_5 {b o : Nat} : fadr Tryd.prog 93 (.pointer (some ⟨b, o, none⟩)) 5 = some (.pointer (some ⟨b, o + 5, none⟩)) := fadr_of tfi93_5 (by decide)
theorem xfld93_5 {cs : List Value} : fld Tryd.prog 93 (.agg ⟨cs⟩) 5 = cs[5]? := fld_sc tfi93_5 tag5
theorem xfad93_6 {b o : Nat} : fadr Tryd.prog 93 (.pointer (some ⟨b, o, none⟩)) 6 = some (.pointer (some ⟨b, o + 6, none⟩)) := fadr_of tfi93_6 (by decide)
theorem xfld93_6 {cs : List Value} : fld Tryd.prog 93 (.agg ⟨cs⟩) 6 = cs[6]? := fld_sc tfi93_6 tag88
theorem xfad93_7 {b o : Nat} : fadr Tryd.prog 93 (.pointer (some ⟨b, o, none⟩)) 7 = some (.pointer (some ⟨b, o + 7, none⟩)) := fadr_of tfi93_7 (by decide)
theorem xfld93_7 {cs : List Value} : fld Tryd.prog 93 (.agg ⟨cs⟩) 7 = cs[7]? := fld_sc tfi93_7 tag89
theorem xfad93_8 {b o : Nat} : fadr Tryd.prog 93 (.pointer (some ⟨b, o, none⟩)) 8 = some (.pointer (some ⟨b, o + 8, none⟩)) := fadr_of tfi93_8 (by decide)
theorem xfld93_8 {cs : List Value} : fld Tryd.prog 93 (.agg ⟨cs⟩) 8 = cs[8]? := fld_sc tfi93_8 tag56
theorem xfad93_9 {b o : Nat} : fadr Tryd.prog 93 (.pointer (some ⟨b, o, none⟩)) 9 = some (.pointer (some ⟨b, o + 9, none⟩)) := fadr_of tfi93_9 (by decide)
theorem xfld93_9 {cs : List Value} : fld Tryd.prog 93 (.agg ⟨cs⟩) 9 = cs[9]? := fld_sc tfi93_9 tag90
theorem xfad93_10 {b o : Nat} : fadr Tryd.prog 93 (.pointer (some ⟨b, o, none⟩)) 10 = some (.pointer (some ⟨b, o + 10, none⟩)) := fadr_of tfi93_10 (by decide)
theorem xfld93_10 {cs : List Value} : fld Tryd.prog 93 (.agg ⟨cs⟩) 10 = cs[10]? := fld_sc tfi93_10 tag91
theorem xld93 {h : Heap} {b o : Nat} : ld Tryd.prog h 93 (.pointer (some ⟨b, o, none⟩)) = cells h b o 11 := ld_agg tsz93 tag93
theorem xst93 {ro : Nat} {h : Heap} {b o : Nat} {v : Value} : stv Tryd.prog ro h 93 (.pointer (some ⟨b, o, none⟩)) v = put ro h b o 11 v := stv_put tsz93
theorem xbls22_0 {h : Heap} : bldS Tryd.prog h 22 0 [] = some (.slice (some ⟨h.length, 0, none⟩) 0 0, h ++ [⟨9, []⟩]) := bldS_nil tel22 tsz9 tze9
theorem xbls22_1 {h : Heap} {v : Value} (hl : (cellsOf v).length = 1) (h1 : (cellsOf v).all one = true) : bldS Tryd.prog h 22 1 [(0, v)] = some (.slice (some ⟨h.length, 0, none⟩) 1 1, h ++ [⟨9, cellsOf v⟩]) := bldS_one tel22 tsz9 tze9 rfl (by decide) hl h1
theorem xbls34_0 {h : Heap} : bldS Tryd.prog h 34 0 [] = some (.slice (some ⟨h.length, 0, none⟩) 0 0, h ++ [⟨5, []⟩]) := bldS_nil tel34 tsz5 tze5
theorem xbls34_1 {h : Heap} {v : Value} (hl : (cellsOf v).length = 1) (h1 : (cellsOf v).all one = true) : bldS Tryd.prog h 34 1 [(0, v)] = some (.slice (some ⟨h.length, 0, none⟩) 1 1, h ++ [⟨5, cellsOf v⟩]) := bldS_one tel34 tsz5 tze5 rfl (by decide) hl h1
theorem xbld36  : bld Tryd.prog 36 [] = some (.agg ⟨[.pointer none, .slice none 0 0]⟩) := by
  simp only [bld, tze36, tpl36, Option.bind_some, lay, cellsOf_agg, List.getElem?_cons_zero, List.getElem?_cons_succ, List.length_cons, List.length_nil, ne_eq, not_true_eq_false, false_or, Nat.reduceAdd, Nat.reduceLeDiff, Nat.reduceGT, gt_iff_lt, Nat.reduceLT, Nat.lt_irrefl, if_false, Nat.not_lt_zero]
  simp [splice]
theorem xcv5_2 {h : Heap} {k' : IntKind} {n : Int} : aconv Tryd.prog h 5 2 (.int k' n) = some (.int .i64 (IntKind.i64.wrap n)) := conv_int Tryd.underlying5 Tryd.underlying2
theorem xcv2_5 {h : Heap} {k' : IntKind} {n : Int} : aconv Tryd.prog h 2 5 (.int k' n) = some (.int .u8 (IntKind.u8.wrap n)) := conv_int Tryd.underlying2 Tryd.underlying5
theorem xcv3_5 {h : Heap} {k' : IntKind} {n : Int} : aconv Tryd.prog h 3 5 (.int k' n) = some (.int .u8 (IntKind.u8.wrap n)) := conv_int Tryd.underlying3 Tryd.underlying5
theorem xcv2_66 {h : Heap} {k' : IntKind} {n : Int} : aconv Tryd.prog h 2 66 (.int k' n) = some (.int .u64 (IntKind.u64.wrap n)) := conv_int Tryd.underlying2 Tryd.underlying66
theorem xcv5_71 {h : Heap} {k' : IntKind} {n : Int} : aconv Tryd.prog h 5 71 (.int k' n) = some (.int .u32 (IntKind.u32.wrap n)) := conv_int Tryd.underlying5 Tryd.underlying71
theorem xcv66_71 {h : Heap} {k' : IntKind} {n : Int} : aconv Tryd.prog h 66 71 (.int k' n) = some (.int .u32 (IntKind.u32.wrap n)) := conv_int Tryd.underlying66 Tryd.underlying71
theorem xcv71_5 {h : Heap} {k' : IntKind} {n : Int} : aconv Tryd.prog h 71 5 (.int k' n) = some (.int .u8 (IntKind.u8.wrap n)) := conv_int Tryd.underlying71 Tryd.underlying5
theorem xcv3_64 {h : Heap} {k' : IntKind} {n : Int} : aconv Tryd.prog h 3 64 (.int k' n) = some (.int .u64 (IntKind.u64.wrap n)) := conv_int Tryd.underlying3 Tryd.underlying64
theorem xcv3_66 {h : Heap} {k' : IntKind} {n : Int} : aconv Tryd.prog h 3 66 (.int k' n) = some (.int .u64 (IntKind.u64.wrap n)) := conv_int Tryd.underlying3 Tryd.underlying66
theorem xcv66_5 {h : Heap} {k' : IntKind} {n : Int} : aconv Tryd.prog h 66 5 (.int k' n) = some (.int .u8 (IntKind.u8.wrap n)) := conv_int Tryd.underlying66 Tryd.underlying5
theorem xcv5_3 {h : Heap} {k' : IntKind} {n : Int} : aconv Tryd.prog h 5 3 (.int k' n) = some (.int .i64 (IntKind.i64.wrap n)) := conv_int Tryd.underlying5 Tryd.underlying3
theorem xcv64_71 {h : Heap} {k' : IntKind} {n : Int} : aconv Tryd.prog h 64 71 (.int k' n) = some (.int .u32 (IntKind.u32.wrap n)) := conv_int Tryd.underlying64 Tryd.underlying71
theorem fr0 : Tryd.f0.results.toList = [] := rfl
theorem fr1 : Tryd.f1.results.toList = [] := rfl
theorem fr2 : Tryd.f2.results.toList = [] := rfl
theorem fr3 : Tryd.f3.results.toList = [.tmp 2] := rfl
theorem fr4 : Tryd.f4.results.toList = [.tmp 2] := rfl
theorem fr5 : Tryd.f5.results.toList = [.tmp 4] := rfl
theorem fr6 : Tryd.f6.results.toList = [.tmp 2, .tmp 3] := rfl
theorem fr7 : Tryd.f7.results.toList = [.tmp 2] := rfl
theorem fr8 : Tryd.f8.results.toList = [.tmp 2, .tmp 3] := rfl
theorem fr9 : Tryd.f9.results.toList = [.tmp 4] := rfl
theorem fr10 : Tryd.f10.results.toList = [.tmp 2, .tmp 3, .tmp 4] := rfl
theorem fr11 : Tryd.f11.results.toList = [.tmp 2, .tmp 3, .tmp 4] := rfl
theorem fr12 : Tryd.f12.results.toList = [.tmp 4] := rfl
theorem fr13 : Tryd.f13.results.toList = [.tmp 4] := rfl
theorem fr14 : Tryd.f14.results.toList = [.tmp 2] := rfl
theorem fr15 : Tryd.f15.results.toList = [.tmp 4] := rfl
theorem fr16 : Tryd.f16.results.toList = [.tmp 4, .tmp 5] := rfl
theorem fr17 : Tryd.f17.results.toList = [.tmp 4, .tmp 5] := rfl
theorem fr18 : Tryd.f18.results.toList = [.tmp 2] := rfl
theorem fr19 : Tryd.f19.results.toList = [.tmp 2] := rfl
theorem fr20 : Tryd.f20.results.toList = [.tmp 2] := rfl
theorem fr21 : Tryd.f21.results.toList = [.tmp 2, .tmp 3] := rfl
theorem fr22 : Tryd.f22.results.toList = [.tmp 4] := rfl
theorem fr23 : Tryd.f23.results.toList = [.tmp 2] := rfl
theorem fr24 : Tryd.f24.results.toList = [.tmp 2, .tmp 3] := rfl
theorem fr25 : Tryd.f25.results.toList = [.tmp 2] := rfl
theorem fr26 : Tryd.f26.results.toList = [.tmp 4] := rfl
theorem fr27 : Tryd.f27.results.toList = [.tmp 6] := rfl
theorem fr28 : Tryd.f28.results.toList = [] := rfl
theorem fr29 : Tryd.f29.results.toList = [.tmp 4] := rfl
theorem fr30 : Tryd.f30.results.toList = [.tmp 4] := rfl
theorem fr31 : Tryd.f31.results.toList = [.tmp 4] := rfl
theorem fr32 : Tryd.f32.results.toList = [.tmp 4, .tmp 5, .tmp 6] := rfl
theorem fr33 : Tryd.f33.results.toList = [.tmp 4] := rfl
theorem fr34 : Tryd.f34.results.toList = [] := rfl
theorem fr35 : Tryd.f35.results.toList = [.tmp 4] := rfl
theorem fr36 : Tryd.f36.results.toList = [.tmp 4] := rfl
theorem fr37 : Tryd.f37.results.toList = [.tmp 4, .tmp 5, .tmp 6] := rfl
theorem fr38 : Tryd.f38.results.toList = [] := rfl
theorem fr39 : Tryd.f39.results.toList = [.tmp 2] := rfl
theorem fr40 : Tryd.f40.results.toList = [.tmp 4] := rfl
theorem fr41 : Tryd.f41.results.toList = [.tmp 2] := rfl
theorem fr42 : Tryd.f42.results.toList = [.tmp 2] := rfl
theorem fr43 : Tryd.f43.results.toList = [] := rfl
theorem fr44 : Tryd.f44.results.toList = [.tmp 10, .tmp 11] := rfl
theorem fr45 : Tryd.f45.results.toList = [] := rfl
theorem fr46 : Tryd.f46.results.toList = [.tmp 2, .tmp 3] := rfl
theorem fr47 : Tryd.f47.results.toList = [.tmp 2] := rfl
theorem fr48 : Tryd.f48.results.toList = [.tmp 2] := rfl
theorem fr49 : Tryd.f49.results.toList = [.tmp 2] := rfl
theorem fr50 : Tryd.f50.results.toList = [.tmp 2] := rfl
theorem fr51 : Tryd.f51.results.toList = [.tmp 2] := rfl
theorem fr52 : Tryd.f52.results.toList = [.tmp 2] := rfl
theorem fr53 : Tryd.f53.results.toList = [.tmp 2] := rfl
theorem fr54 : Tryd.f54.results.toList = [] := rfl
theorem fr55 : Tryd.f55.results.toList = [] := rfl
theorem fr56 : Tryd.f56.results.toList = [] := rfl
theorem fr57 : Tryd.f57.results.toList = [] := rfl
theorem fr58 : Tryd.f58.results.toList = [] := rfl
theorem fr59 : Tryd.f59.results.toList = [] := rfl
theorem fr60 : Tryd.f60.results.toList = [] := rfl
theorem fr61 : Tryd.f61.results.toList = [] := rfl
theorem fr62 : Tryd.f62.results.toList = [] := rfl
theorem fr63 : Tryd.f63.results.toList = [] := rfl
theorem fr64 : Tryd.f64.results.toList = [] := rfl
theorem fr65 : Tryd.f65.results.toList = [] := rfl
theorem fr66 : Tryd.f66.results.toList = [] := rfl
theorem fr67 : Tryd.f67.results.toList = [] := rfl
theorem fr68 : Tryd.f68.results.toList = [] := rfl
theorem fr69 : Tryd.f69.results.toList = [] := rfl
theorem fr70 : Tryd.f70.results.toList = [] := rfl
theorem fr71 : Tryd.f71.results.toList = [] := rfl
theorem fr72 : Tryd.f72.results.toList = [] := rfl
theorem fr73 : Tryd.f73.results.toList = [] := rfl
theorem fr74 : Tryd.f74.results.toList = [] := rfl
theorem fr75 : Tryd.f75.results.toList = [] := rfl
theorem fr76 : Tryd.f76.results.toList = [] := rfl
end Go.Proofs.YtbakaopgdcojfaaDoor.Sim
